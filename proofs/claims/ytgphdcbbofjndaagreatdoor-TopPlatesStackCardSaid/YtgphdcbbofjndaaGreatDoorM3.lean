/- Texts of the proof, merged: what the code computes, and plain laws. No statement stands here. -/
import Derived.KernelRfl
import Derived.Below
import Derived.Shelf.Strings.SlTrimAscii
import Derived.Shelf.Strings.Search2
import Derived.Shelf.Small.Strs
import Derived.Shelf.Strconv.Itoa3
import Derived.Shelf.Strconv.Atoi
import Derived.Shelf.Strings.BuilderK
import Derived.Shelf.LaysM
import Derived.Test.YtgphdcbbofjndaaGreatDoorProg
import Derived.WalkKit
import Derived.BigCall
import Derived.Deep.RegionWith
import Derived.Laws.Externs
import Derived.Lib.Builder
import Derived.Lib.AppendStr
import Derived.OpenShut
import Derived.Deep.Slices
import Derived.SizedLaws
import Derived.Lib.LaidTab
import Derived.Laws.OwnMore
import Derived.Deep.LoopGhost
import Derived.Deep.RegionLaw
import Derived.Laws.IdiomStrings
import Derived.Lib.Hide
import Derived.Deep.RegionHeld3
import Derived.Maps.OwnSet
import Derived.Deep.QuietTactic
import Derived.BigQuiet
import Derived.Test.YtgphdcbbofjndaaGreatDoorM2
namespace Go.Eng
variable {E:Env}{P:Program}{f:FuncId}{fn:Func}
def q23(fn:Func):Code:=fn.body.getD .skip
def wB(fn:Func)(k:Nat):Code:=((qO (q23 fn))[k]?).getD .skip
def qen:Code->Code
 | .loop c=>c
 | c=>c
def qxu(E:Env)(f:FuncId)(fn:Func)(k:Nat):qpn:=match wB fn k with
 | .rangeFunc _ ps a b=>qlq (j4 E (q4A E 9) (q48 E) (qcw E (q4A E 9)) f a (k+1)) (j4 E (q4A E 9) (q48 E) (qcw E (q4A E 9)) f b (k+1+zk a)) ps.toList
 | _=>fun _ _=>.fail
def hdl(E:Env):Option (FuncId×Func×Nat)->q4j
 | none=>q4A E 9
 | some (fc,fnc,kc)=>qtD (qxu E fc fnc kc) (q4A E 9)
def rgh(E:Env):Option (FuncId×Func×Nat)->q85
 | none=>qcw E (q4A E 9)
 | some _=>qjU
def qer(E:Env)(y:Option (FuncId×Func×Nat))(f:FuncId)(fn:Func)(k:Nat)(st:St):Tree (Ex×St):=j4 E (hdl E y) (q48 E) (rgh E y) f (qen (wB fn k)) (k+1) st
def q0G(E:Env)(f:FuncId)(fn:Func)(k:Nat)(tin:Tmpl)(outs:List Out)(ps:List PV):TR:=(qer E none f fn k (tin.make ps)).bind (qtA tin outs)
def qgH(E:Env)(y:Option (FuncId×Func×Nat))(f:FuncId)(fn:Func)(k:Nat)(tin:Tmpl)(outs:List Out)(ps:List PV):TR:=(qer E y f fn k (tin.make ps)).bind (qtA tin outs)
def qo(E:Env)(f:FuncId)(fn:Func)(fz:Bool)(i:FIn)(outs:List FOut)(ps:List PV):TR:=(qov E 9 f fn (i.make ps).1 (i.make ps).2).bind fun q=>qvL outs 0 (q8e fz q)
def q9T:Nat:=2^70
def qm(S:List PV->TR)(ps:List PV):TR:=qdC S q9T ps
structure EnvOK (E:Env) (P:Program):Prop where
 tok:E.tok P
 specs:E.specs P
 loops:E.loopsOK P
 bodies:E.bodies P
theorem q5D (h:E.tt.map (fun x=>qlw P x.1)=E.tt.map (·.2)):E.tok P:=by
 intro x hx;have:∀(l:List (TypeId×TI)),l.map (fun x=>qlw P x.1)=l.map (·.2)->∀x,x∈l->qlw P x.1=x.2:=by
  intro l;induction l with
  | nil=>intro _ x hx;cases hx
  | cons y l ih=>
   intro h x hx;simp only[qyp,qyF] at h;rcases qxP.1 hx with rfl|hx
   ·exact h.1
   ·exact ih h.2 x hx
 exact this _ h x hx
theorem aln {α:Type}{p:α->Prop}:∀x,x∈([]:List α)->p x:=fun _ h=>by cases h
theorem alc {α:Type}{p:α->Prop}{a:α}{l:List α}(h:p a)(t:∀x,x∈l->p x):∀x,x∈a::l->p x:=fun x hx=>by
 rcases qxP.1 hx with rfl|hx
 ·exact h
 ·exact t x hx
theorem qqw (h:P.funcs[f]?=some fn)(hn:(fn.name == "runtime.NumGoroutine")=false):P.funcs[(f,fn).1]?=some (f,fn).2/\((f,fn).2.name == "runtime.NumGoroutine")=false:=⟨h,hn⟩
theorem quJ {gl:List (Nat×AV)}{ni f k:Nat}{L:St->Tree (Ex×St)}(hf:P.funcs[f]?=some fn)(hb:fn.body.isSome=true)(hn:((qO (q23 fn))[k]?).isSome=true) {it:List (FuncId×FuncId×Nat)} (hg:qu P gl ni (qK P it f) (wB fn k) L) :∃fn' c c',P.funcs[((f,k),L).1.1]?=some fn'/\fn'.body=some c/\(qO c)[((f,k),L).1.2]?=some c'/\qu P gl ni (qK P it ((f,k),L).1.1) c' ((f,k),L).2:=by
 refine⟨fn,q23 fn,wB fn k,hf,?_,?_,hg⟩
 ·unfold q23;cases h:fn.body with
  | none=>rw[h] at hb;cases hb
  | some c=>rfl
 ·show (qO (q23 fn))[k]?=some (wB fn k);unfold wB;cases h:(qO (q23 fn))[k]? with
  | none=>rw[h] at hn;cases hn
  | some c=>rfl
def qmg:Code->Bool
 | .loop _=>true
 | _=>false
theorem qnc {A C:List Code}(hA:∀(k:Nat) (d:Code),A[k]?=some d->∀(j:Nat) (c':Code),(qO d)[j]?=some c'->A[k+j]?=some c')(hC:∀(k:Nat) (d:Code),C[k]?=some d->∀(j:Nat) (c':Code),(qO d)[j]?=some c'->C[k+j]?=some c') :∀(k:Nat) (d:Code),(A++C)[k]?=some d->∀(j:Nat) (c':Code),(qO d)[j]?=some c'->(A++C)[k+j]?=some c':=by
 intro k d hd j c' hc;rcases qxG k A.length with h|h
 ·rw[qxK h] at hd;have:=hA k d hd j c' hc;rw[qxK (qj this)];exact this
 ·rw[qxU h] at hd;have:=hC _ d hd j c' hc;rw[qxU (by omega),show k+j-A.length=k-A.length+j by omega];exact this
theorem qkX {c:Code}{l:List Code}(hc:qO c=c::l)(hl:∀(k:Nat) (d:Code),l[k]?=some d->∀(j:Nat) (c':Code),(qO d)[j]?=some c'->l[k+j]?=some c') :∀(k:Nat) (d:Code),(c::l)[k]?=some d->∀(j:Nat) (c':Code),(qO d)[j]?=some c'->(c::l)[k+j]?=some c':=by
 intro k d hd j c' hj;cases k with
 | zero=>
  simp only[qyr,qxB] at hd;subst hd;rw[hc] at hj;simpa using hj
 | succ k=>
  simp only[qyg] at hd;have:=hl k d hd j c' hj;rw[show k+1+j=(k+j)+1 by omega,qyg];exact this
theorem qlK:∀(c:Code) (k:Nat) (d:Code),(qO c)[k]?=some d->∀(j:Nat) (c':Code),(qO d)[j]?=some c'->(qO c)[k+j]?=some c':=by
 intro c;induction c with
 | seq a b iha ihb=>exact qkX rfl (qnc iha ihb)
 | cond x a b iha ihb=>exact qnc iha ihb
 | block id c ih=>exact ih
 | scope c ih=>exact ih
 | loop c ih=>exact qkX rfl ih
 | rangeFunc x ps a b iha ihb=>exact qkX rfl (qnc iha ihb)
 | _=>intro k d hd;simp[qO] at hd
theorem qrh {k:Nat}(h:((qO (q23 fn))[k]?).isSome=true):(qO (q23 fn))[k]?=some (wB fn k):=by
 unfold wB;cases h':(qO (q23 fn))[k]? with
 | none=>rw[h'] at h;cases h
 | some c=>rfl
def qvY(E:Env)(P:Program)(f:FuncId):Option (FuncId×Func×Nat)->Prop
 | none=>q47 E.iter f=true
 | some (fc,fnc,kc)=>P.funcs[fc]?=some fnc/\(qjC E.iter f fc kc&&(q47 E.iter fc&&(fnc.body.isSome&&((qO (q23 fnc))[kc]?).isSome)))=true
theorem ql7 (h:fn.body.isSome=true):fn.body=some (q23 fn):=by
 unfold q23;cases hb:fn.body with
 | none=>rw[hb] at h;cases h
 | some c=>rfl
theorem qvw (hm:P.follows .mixedOrders=true)(h:EnvOK E P){y:Option (FuncId×Func×Nat)}(hy:qvY E P f y):(∀B,qK P E.iter f B->CallOK E P (hdl E y) B)/\qcn E P (rgh E y):=by
 have hcall:=qaX hm h.tok h.specs h.loops h.bodies 9;cases y with
 | none=>exact⟨fun B _=>hcall B,q87 hm h.tok h.specs h.loops h.bodies hcall⟩
 | some y=>
  obtain⟨fc,fnc,kc⟩:=y;obtain⟨hf,hc⟩:=hy;simp only[qxL] at hc;obtain⟨c1,c2,c3,c4⟩:=hc;refine⟨fun B hB=>⟨(hcall B).fn,?_⟩,qeU E P⟩;have hfi:qbq E.iter f=some (fc,kc):=by
   unfold qjC at c1;split at c1
   ·rename_i z hz;simp only[qxL] at c1;rw[hz];obtain⟨z1,z2⟩:=z;have e1:z1=fc:=qyf c1.1;have e2:z2=kc:=qyf c1.2;rw[e1,e2]
   ·cases c1
  obtain⟨_,hI⟩:=hB;rw[hfi] at hI;have hnode:=qrh c4;have hsub:=qlK (q23 fnc) kc _ hnode;intro args st r X a vargs hs ha hr;simp only[hdl,qtD,qxu] at hr;cases hn:wB fnc kc with
  | rangeFunc x ps c d=>
   rw[hn] at hr hnode hsub;refine qot hf (ql7 c3) hnode c2 (fun B X st act r hbo hs hr n=>?_) (fun B X st act r hbo hs hr n=>?_) hI args st r X a vargs hs ha hr
   ·refine q6v hm h.tok h.specs h.loops hf (ql7 c3) (fun B _=>hcall B) (q6u hm h.tok h.specs h.loops h.bodies) (q3E E) (q87 hm h.tok h.specs h.loops h.bodies hcall) c (kc+1) (fun j c' hj=>?_) hbo hs hr;have:=hsub (1+j) c' (by simp only[qO];rw[Nat.add_comm,qyg,qxK (qj hj)];exact hj);rw[show kc+1+j=kc+(1+j) by omega];exact this
   ·refine q6v hm h.tok h.specs h.loops hf (ql7 c3) (fun B _=>hcall B) (q6u hm h.tok h.specs h.loops h.bodies) (q3E E) (q87 hm h.tok h.specs h.loops h.bodies hcall) d (kc+1+zk c) (fun j c' hj=>?_) hbo hs hr;have:=hsub (1+zk c+j) c' (by simp only[qO];rw[show 1+zk c+j=(zk c+j)+1 by omega,qyg,qxU (by rw[jO];omega),jO];rw[show zk c+j-zk c=j by omega];exact hj);rw[show kc+1+zk c+j=kc+(1+zk c+j) by omega];exact this
  | _=>rw[hn] at hr;cases hr
theorem kH (hm:P.follows .mixedOrders=true)(h:EnvOK E P){f k:Nat}(hf:P.funcs[f]?=some fn)(hlp:qmg (wB fn k)=true) {tin:Tmpl} {outs:List Out} {S:List PV->TR} {y:Option (FuncId×Func×Nat)} (hy:qvY E P f y)(hk:(tin.ok E.nimp&&outs.all fun o=>o.tm.ok E.nimp)=true)(hnk:(fn.body.isSome&&((qO (q23 fn))[k]?).isSome)=true)(hS:∀ps,S ps=qgH E y f fn k tin outs ps):qu P E.glob E.nimp (qK P E.iter f) (wB fn k) (qp tin outs (qm S)):=by
 simp only[qxL] at hk hnk;have hnode:=qrh hnk.2;have hsub:∀j c',(qO (qen (wB fn k)))[j]?=some c'->(qO (q23 fn))[k+1+j]?=some c':=by intro j c' hj;have:=qlK (q23 fn) k _ hnode (1+j) c' (by cases hn:wB fn k<;>simp[hn,qmg] at hlp;rw[hn] at hj;simp only[qO,qen] at hj ⊢;rw[Nat.add_comm,qyg];exact hj);rw[show k+1+j=k+(1+j) by omega];exact this
 have hc:wB fn k=.loop (qen (wB fn k)):=by cases hn:wB fn k<;>simp[hn,qmg] at hlp;rfl
 rw[hc];refine qry (ev:=qer E y f fn k) (S:=S) ?_ hk.1 hk.2 (fun ps r _ hr=>by rw[hS] at hr;exact hr) (fun ps=>⟨q9T,rfl⟩);intro n0 B X st a r hbo hs hr;obtain⟨w1,w2⟩:=qvw hm h hy;exact q6v hm h.tok h.specs h.loops hf (ql7 hnk.1) w1 (q6u hm h.tok h.specs h.loops h.bodies) (q3E E) w2 (qen (wB fn k)) (k+1) hsub hbo hs hr
theorem qn0 (hm:P.follows .mixedOrders=true)(h:EnvOK E P){f k:Nat}(hf:P.funcs[f]?=some fn)(hlp:qmg (wB fn k)=true) {tin:Tmpl} {outs:List Out} {S:List PV->TR} (hni:q47 E.iter f=true)(hk:(tin.ok E.nimp&&outs.all fun o=>o.tm.ok E.nimp)=true)(hnk:(fn.body.isSome&&((qO (q23 fn))[k]?).isSome)=true)(hS:∀ps,S ps=q0G E f fn k tin outs ps):qu P E.glob E.nimp (qK P E.iter f) (wB fn k) (qp tin outs (qm S)):=kH hm h hf hlp (y:=none) hni hk hnk hS
theorem qib (hm:P.follows .mixedOrders=true)(h:EnvOK E P)(hf:P.funcs[f]?=some fn)(hn:((fn.name == "runtime.NumGoroutine")||fn.body.isNone)=false) {fz:Bool} {i:FIn} {outs:List FOut} {T:List PV->TR}(hk:(Nat.beq i.h.length E.nimp&&i.h.all BP.isCells&&outs.all fun o=>q7w E.nimp o.h)=true)(hT:∀ps,T ps=qo E f fn fz i outs ps):qV P E.glob f (q9 i outs T):=by simp only[Bool.or_eq_false_iff] at hn;simp only[qxL] at hk;exact qsA hm h.tok h.specs h.loops h.bodies hf hn.1 hn.2 (n:=9) (fz:=fz) ⟨qyf hk.1.1,hk.1.2⟩ hk.2 (fun ps r _ hr=>by rw[hT] at hr;exact hr)
theorem b1 (h:P.funcs[f]?=some fn)(hn:(fn.name == "runtime.NumGoroutine")=false:=by kernel_rfl):∀x,x∈[(f,fn)]->P.funcs[x.1]?=some x.2/\(x.2.name == "runtime.NumGoroutine")=false:=alc (qqw h hn) aln
theorem bk (h:P.funcs[f]?=some fn)(hn:(fn.name == "runtime.NumGoroutine")=false:=by kernel_rfl):P.funcs[(f,fn).1]?=some (f,fn).2/\((f,fn).2.name == "runtime.NumGoroutine")=false:=qqw h hn
theorem lk {gl:List (Nat×AV)}{ni f k:Nat}{L:St->Tree (Ex×St)}(hf:P.funcs[f]?=some fn){it:List (FuncId×FuncId×Nat)} (hg:qu P gl ni (qK P it f) (wB fn k) L) (hb:fn.body.isSome=true:=by kernel_rfl) (hn:((qO (q23 fn))[k]?).isSome=true:=by kernel_rfl) :∃fn' c c',P.funcs[((f,k),L).1.1]?=some fn'/\fn'.body=some c/\(qO c)[((f,k),L).1.2]?=some c'/\qu P gl ni (qK P it ((f,k),L).1.1) c' ((f,k),L).2:=quJ hf hb hn hg
theorem sk (E:Env)(hm:P.follows .mixedOrders=true)(ht:E.tt.map (fun x=>qlw P x.1)=E.tt.map (·.2))(hs:∀x,x∈E.spec->qV P E.glob x.1 x.2)(hl:E.loopsOK P)(hb:E.bodies P)(hf:P.funcs[f]?=some fn){i:FIn} {outs:List FOut} {T:List PV->TR} (hT:∀ps,T ps=qo E f fn true i outs ps:=by exact fun _=>rfl) (hn:((fn.name == "runtime.NumGoroutine")||fn.body.isNone)=false:=by kernel_rfl)(hk:(Nat.beq i.h.length E.nimp&&i.h.all BP.isCells&&outs.all fun o=>q7w E.nimp o.h)=true:=by kernel_rfl) (hd:∀x,x∈E.dels->qf6 P x.1 x.2:=by exact aln):qV P E.glob f (q9 i outs T):=qib hm ⟨q5D ht,⟨hs,hd⟩,hl,hb⟩ hf hn hk hT
theorem gk (E:Env)(hm:P.follows .mixedOrders=true)(ht:E.tt.map (fun x=>qlw P x.1)=E.tt.map (·.2))(hs:∀x,x∈E.spec->qV P E.glob x.1 x.2)(hl:E.loopsOK P)(hb:E.bodies P){f k:Nat}(hf:P.funcs[f]?=some fn){tin:Tmpl} {outs:List Out} {S:List PV->TR} (hS:∀ps,S ps=q0G E f fn k tin outs ps:=by exact fun _=>rfl) (hlp:qmg (wB fn k)=true:=by kernel_rfl) (hni:q47 E.iter f=true:=by kernel_rfl)(hk:(tin.ok E.nimp&&outs.all fun o=>o.tm.ok E.nimp)=true:=by kernel_rfl) (hnk:(fn.body.isSome&&((qO (q23 fn))[k]?).isSome)=true:=by kernel_rfl) (hd:∀x,x∈E.dels->qf6 P x.1 x.2:=by exact aln) :qu P E.glob E.nimp (qK P E.iter f) (wB fn k) (qp tin outs (qm S)):=qn0 hm ⟨q5D ht,⟨hs,hd⟩,hl,hb⟩ hf hlp hni hk hnk hS
end Go.Eng

namespace Go.Eng
open Go.RowKit
variable {X:Ctx}{ps:List PV}{vs:List Value}
theorem HSim.grow {B:Base}(hs:HSim B X){w':World}(hb:Below X.w.heap.size X.w w'):HSim B { X with w:=w' }/\Ext X { X with w:=w' }:=by
 have hold:∀n (o:Obj),X.w.heap[n]?=some o->w'.heap[n]?=some o:=fun n o h=>(hb.block n (qxI.1 h).1).trans h;have hx:Ext X { X with w:=w' }:=Move.of (fun _ h=>h) (fun a ha=>qyt (hb.block _ (hs.ltM _ ha))) (fun b b' hb' h=>by cases h;exact⟨hb',rfl,fun _ _ h=>h,fun _ _ _ n _ c T fr h=>⟨c,T,fr,hold n _ h,rfl⟩⟩);refine⟨⟨fun b k hk=>?_,hs.inj,hs.notM,fun n hn=>qyG (hs.ltM n hn) hb.size,hs.M0,hs.newM,hb.os.trans hs.os,hb.tape.trans hs.tape,hb.output.trans hs.output,qxJ hs.size hb.size,
  fun n hn hni=>?_,hs.imps,hs.impc,hs.fresh,fun p hp=>?_⟩,hx⟩
 ·by_cases hd:k=.dead
  ·subst hd;trivial
  ·exact vD.ext hx rfl (fun n hn=>hb.block n (hs.lt hk hd hn)) (hs.blk b k hk)
 ·show w'.heap[n]?=_;rw[hb.block n (qyG hn hs.size)];exact hs.frame n hn hni
 ·obtain⟨q1,q2,q3⟩:=hs.kept p hp;exact⟨hold _ _ q1,q2,q3⟩
theorem qbr {P:Program}{gl:List (Nat×AV)}{f:FuncId}{i:FIn}{o:FOut}{T:List PV->TR}(he:qc7 P f)(hi:i.h.all BP.isCells=true)(h:∀(B:Base) (X:Ctx) (ps:List PV) (j:Nat) (qs:List PV) (vargs:List Value),HSim B X->q5o gl X->X.h=(i.make ps).2->RepL X (i.make ps).1 vargs->ps.map PV.kind=i.kinds->(T ps).run=some (j,qs) ->j=0/\qs.map PV.kind=o.kinds/\(o.make qs).2=(i.make ps).2/\Calls P f vargs.toArray X.w fun e w'=>∃v,e=.returned v/\Below X.w.heap.size X.w w'/\Rep X (o.make qs).1 v) :qV P gl f (q9 i [o] T):=by
 refine⟨he,fun B X args vargs r hs hen hgl ha hr=>?_⟩;obtain⟨ps,j,qs,h1,h2,h3⟩:=qij hr;unfold FIn.take at h1;obtain⟨x,y,g1,g2,rfl⟩:=kF h1;obtain⟨a1,a2,a3⟩:=AP.takeL_ok (X:=X) _ _ x y g1;obtain⟨b1,b2,b3,b4,b5⟩:=BP.takeL_ok (X:=X) _ _ y [] g2;rw[qyD] at b3 b5;have himp:B.imps.length=X.h.length:=by rw[hen.imps];simp
 obtain⟨d1,d2⟩:=q63 hs (h':=(BP.makeL i.h y).1) b3 (fun b k' hb=>by obtain⟨k0,e1,e2,_⟩:=b5 b k' hb;exact⟨k0,e1,e2⟩)
  (fun b hb k' hk'=>by
   obtain⟨k0,_,_,e3⟩:=b5 b k' hk';have hlt:b<i.h.length:=by omega
   exact e3 i.h[b] (qxO hlt) (qxV.1 hi _ (qyu hlt)))
 have hkd:(x++y).map PV.kind=i.kinds:=by simp[FIn.kinds,a2,b2]
 have hgl1:q5o gl ({ X with h:=(BP.makeL i.h y).1 }:Ctx):=fun z hz=>⟨(hgl z hz).1,(hgl z hz).2.move d2.M d2.w ((hgl z hz).2.1.ext d2)⟩;have hmk:i.make (x++y)=((AP.makeL i.args (x++y)).1,(BP.makeL i.h y).1):=by simp only[FIn.make,a1]
 obtain⟨k1,k2,k3,k4⟩:=h B _ (x++y) j qs vargs d1 hgl1 (by rw[hmk]) (by rw[hmk];exact(a3 _ ha).ext d2) hkd h2;subst k1;refine k4.mono fun e w' ⟨v,e1,e2,e3⟩=>?_;obtain⟨m1,m2⟩:=d1.grow e2;have hre:=qgp h2 [o] 0 o r (Nat.zero_le _) rfl k2 h3;subst hre;exact⟨v,_,e1,rfl,e3.ext m2,by rw[k3,hmk],m1,rfl⟩
theorem qoZ {s:qxA}(h:RepL X [.str s] vs):vs=[.string ⟨s.toArray⟩]:=by
 cases h with
 | cons h t=>cases h;cases t;rfl
theorem qoN {k:IntKind}{n:Int}(h:RepL X [.int k n] vs):vs=[.int k n]:=by
 cases h with
 | cons h t=>cases h;cases t;rfl
theorem qgC {s t:qxA}(h:RepL X [.str s,.str t] vs):vs=[.string ⟨s.toArray⟩,.string ⟨t.toArray⟩]:=by
 cases h with
 | cons h t=>cases h;rw[qoZ t]
theorem qvJ (h:ps.map PV.kind=[.s]):∃s,ps=[.s s]:=by
 match ps,h with
 | [.s s],_=>exact⟨s,rfl⟩
theorem qvy (h:ps.map PV.kind=[.i]):∃s,ps=[.i s]:=by
 match ps,h with
 | [.i s],_=>exact⟨s,rfl⟩
theorem qjZ (h:ps.map PV.kind=[.s,.s]):∃s t,ps=[.s s,.s t]:=by
 match ps,h with
 | [.s s,.s t],_=>exact⟨s,t,rfl⟩
end Go.Eng

namespace Go.Eng
open Go.Shelf Go.RowKit Go.Proofs Go.Sort
variable {P:Program}{gl:List (Nat×AV)}
theorem qfp (w:World)(q:Nat)(os:Array Obj):Below w.heap.size w (grow (w.drewN q) os):=
 ⟨rfl,rfl,rfl,by simp[grow],fun i hi=>by show ((w.drewN q).heap++os)[i]?=_;rw[Array.getElem?_append_left (by show i<w.heap.size;omega)];rfl⟩
theorem qll (w:World)(e:TypeId)(s:ByteArray):Below w.heap.size w (Lib.bytesWorld w e s):=⟨rfl,rfl,rfl,by rw[Lib.bytesWorld_size];omega,fun k hk=>Lib.bytesWorld_at_old w e s k (by omega)⟩
def qm1:List PV->TR
 | [.s s,.s [c]]=>.leaf (0,[.i (Lib.indexByte s c)])
 | _=>.fail
theorem qnH {ρ:Ren}(L:Lays.n219 P ρ)(he:qc7 P (ρ.f 219)) :qV P gl (ρ.f 219) (q9 { args:=[.str,.str],h:=[] } [{ res:=.int .i64,h:=[] }] qm1):=
 qbr he rfl fun B X ps j qs vargs hs hg hh ha hk hT=>by
  obtain⟨s,t,rfl⟩:=qjZ hk;unfold qm1 at hT;split at hT
  ·rename_i s' c hps;simp only[qyF,PV.s.injEq,and_true] at hps;obtain⟨rfl,rfl⟩:=hps;cases hT;have:=qgC ha;subst this;refine⟨rfl,rfl,rfl,(Any.stringslite_Index_one L ⟨s.toArray⟩ c X.w).mono fun e w' ⟨h1,h2⟩=>?_⟩;subst h2;exact⟨_,h1,Below.refl _ _,.int _ _⟩
  ·cases hT
def qgm:List PV->TR
 | [.s s,.s t]=>.leaf (0,[.i (Lib.compareBytes s t)])
 | _=>.fail
theorem qkx {ρ:Ren}(L:Lays.n106 P ρ)(he:qc7 P (ρ.f 106)) :qV P gl (ρ.f 106) (q9 { args:=[.str,.str],h:=[] } [{ res:=.int .i64,h:=[] }] qgm):=
 qbr he rfl fun B X ps j qs vargs hs hg hh ha hk hT=>by obtain⟨s,t,rfl⟩:=qjZ hk;cases hT;have:=qgC ha;subst this;refine⟨rfl,rfl,rfl,(Any.strings_Compare L ⟨s.toArray⟩ ⟨t.toArray⟩ X.w).mono fun e w' ⟨h1,h2⟩=>?_⟩;subst h2;exact⟨_,h1,Below.refl _ _,.int _ _⟩
def qr3:List PV->TR
 | [.s s,.s t]=>if s.length<=9223372036854775807/\t.length<4294967281/\t.all (fun b=>decide (b.toNat<128))=true then .leaf (0,[.s (Lib.trimS s t)]) else .fail
 | _=>.fail
theorem qpI {ρ:Ren}(L:Lays.n160 P ρ)(he:qc7 P (ρ.f 160))(h116:(P.info? (ρ.t 116)).map (fun i=>(i.zero,i.size))=some (some (.agg (Array.replicate 256 (.bool false))),256)) :qV P gl (ρ.f 160) (q9 { args:=[.str,.str],h:=[] } [{ res:=.str,h:=[] }] qr3):=
 qbr he rfl fun B X ps j qs vargs hs hg hh ha hk hT=>by
  obtain⟨s,t,rfl⟩:=qjZ hk;simp only[qr3] at hT;split at hT
  ·rename_i hc;cases hT;have:=qgC ha;subst this;refine⟨rfl,rfl,rfl,(Any.strings_Trim_laid L h116 ⟨s.toArray⟩ ⟨t.toArray⟩ X.w (by simpa[ByteArray.size] using hc.1) (by simpa[ByteArray.size] using hc.2.1) (fun j b hj=>?_)).mono fun e w' ⟨h1,h2⟩=>⟨_,h1,h2,.str _⟩⟩;have h3:=hc.2.2;rw[qxV] at h3;simpa using h3 b (qyC hj)
  ·cases hT
def quc:R:=[Lib.pow10Tab.map U.i]
def qst:List PV->TR
 | [.i n]=>if -9223372036854775808<=n/\n<=9223372036854775807 then .leaf (0,[.s (Lib.itoa n)]) else .fail
 | _=>.fail
theorem qhW {X:Ctx}{g:Nat}{k:IntKind}{zs:List Int}{name:String}(hn:P.globalNamed name=some g)(hz:zs≠[])(h:qtH X (g,.eptr (zs.map fun _=>.int k) [zs.map U.i] 0 0)):Lib.TabIs P X.w name k zs:=by
 obtain⟨h1,h2,h3⟩:=h;simp only at h1 h2 h3;have hcell:∀j (hj:j<zs.length),X.w.cell? ⟨g,j,none⟩=some (.int k zs[j]):=by
  intro j hj;generalize hv:(Value.pointer (some ⟨g,0,none⟩))=vv at h1;cases h1 with
  | eptr _ _ _ _ a hsp h0 hl hr=>
   simp only[Value.pointer.injEq,qxB,Addr.mk.injEq] at hv;obtain⟨v1,v2,_⟩:=hv;obtain⟨hM,v,e1,e2⟩:=hr 0 j (by simpa using hj) (by simp);have ho:a.off=0:=by omega
   have e1':X.w.cell? ⟨g,j,none⟩=some v:=by rw[Nat.zero_mul,qyd,ho,qym,<-v1] at e1;exact e1
   rw[e1'];have e2':RepU X.w X.M (.int k) (U.i zs[j]) v:=by simpa[wv,qxE,hj] using e2
   cases e2';rfl
 unfold Lib.TabIs World.var?;rw[hn];simp only[qy3];have h0:=hcell 0 (qyM.2 hz);unfold World.cell? at h0;simp only at h0;split at h0
 ·rename_i cs T fr hheap;rw[hheap];simp only;congr 1;have hsz:cs.size<=zs.length:=by
   have h4:X.w.cell? ⟨g,zs.length,none⟩=none:=by simpa[AV.span] using h3
   unfold World.cell? at h4;simp only[hheap] at h4;simpa using h4
  apply Array.ext
  ·simp;rcases qxG cs.size zs.length with hlt|hge
   ·have:=hcell cs.size hlt;unfold World.cell? at this;simp[hheap] at this
   ·omega
  ·intro j hj hj2;have hjz:j<zs.length:=by omega
   have:=hcell j hjz;unfold World.cell? at this;simp only[hheap] at this;simp[hj] at this;simp[this]
 ·cases h0
theorem qqm {ρ:Ren}(L:LaysM.n171 P ρ)(he:qc7 P (ρ.f 171)){g:Nat}(hn:P.globalNamed "internal/strconv.uint64pow10" = some g)(hg:(g,AV.eptr (Lib.pow10Tab.map fun _=>.int .u64) quc 0 0)∈gl) :qV P gl (ρ.f 171) (q9 { args:=[.int .i64],h:=[] } [{ res:=.str,h:=[] }] qst):=
 qbr he rfl fun B X ps j qs vargs hs hgl hh ha hk hT=>by
  obtain⟨n,rfl⟩:=qvy hk;simp only[qst] at hT;split at hT
  ·rename_i hc;cases hT;have:=qoN ha;subst this;refine⟨rfl,rfl,rfl,(Any.strconv_Itoa L n hc.1 hc.2 X.w (qhW hn (by decide) (hgl _ hg).2)).mono fun e w' ⟨h1,k,os,h2⟩=>⟨_,h1,?_,.str _⟩⟩;subst h2;exact qfp _ _ _
  ·cases hT
def qse:List PV->TR
 | [.s s]=>if s.length<=18 then (match Lib.atoi s with|some n=>.leaf (0,[.i n])|none=>.fail) else .fail
 | _=>.fail
theorem qq9 {ρ:Ren}(L:Lays.n172 P ρ)(he:qc7 P (ρ.f 172)) :qV P gl (ρ.f 172) (q9 { args:=[.str],h:=[] } [{ res:=.tuple [.int .i64,.any],h:=[] }] qse):=
 qbr he rfl fun B X ps j qs vargs hs hg hh ha hk hT=>by
  obtain⟨s,rfl⟩:=qvJ hk;simp only[qse] at hT;split at hT
  ·rename_i hc;split at hT
   ·rename_i n hn;cases hT;have:=qoZ ha;subst this;refine⟨rfl,rfl,rfl,(Any.strconv_Atoi L ⟨s.toArray⟩ n (by simpa[ByteArray.size] using hc) (by simpa using hn) X.w).mono fun e w' ⟨h1,t,h2⟩=>⟨_,h1,?_,.tuple _ _ (.cons (.int _ _) (.cons (.undef _) .nil))⟩⟩;subst h2;exact qll _ _ _
   ·cases hT
  ·cases hT
def qsz(s:qxA):List UInt8:=qmH (qbE [48,48,48,48,48,48,48,48,48] (zG s) 9) s
def qdh(w:R):Nat->List UInt8
 | 0=>[]
 | i+1=>qsz (Lib.itoa (cI w i 0))++qdh w i
def qsH(b:Bool)(n:Int)(w:R):List UInt8:=if n=0 then [48] else (if b then [45] else [])++Lib.itoa (cI w (n-1) 0)++qdh w (n-1).toNat
def qkM(n:Int)(w:R):Bool:=decide (0<=n)&&decide (n<=232)&&(List.range n.toNat).all fun i=>decide (0<=cI w i 0/\cI w i 0<1000000000)
def qs1:List PV->TR
 | [.b b,.i n,.r w]=>if qkM n w then .leaf (0,[.s (qsH b n w),.b b,.i n,.r w]) else .fail
 | _=>.fail
end Go.Eng

namespace Go.Proofs
open Go.Shelf
open Tryz
def lays219_ren:Go.Shelf.Ren:=⟨fun|219=>154|217=>173|225=>174|224=>175|267=>176|266=>189|314=>190|n=>n,fun|9=>9|3=>3|4=>4|5=>5|46=>244|146=>262|51=>242|n=>n,fun|1=>2|n=>n⟩
theorem lays219:Go.Proofs.Lays.n219 prog lays219_ren:={
 mixed:=by kernel_rfl
 f217:=func173.trans (congrArg some (by kernel_rfl))
 f219:=func154.trans (congrArg some (by kernel_rfl))
 f224:=func175.trans (congrArg some (by kernel_rfl))
 f225:=func174.trans (congrArg some (by kernel_rfl))
 f266:=func189.trans (congrArg some (by kernel_rfl))
 f267:=func176.trans (congrArg some (by kernel_rfl))
 f314:=func190.trans (congrArg some (by kernel_rfl))
 t3:=underlying3
 a3:=isAgg3
 z3:=sizeOf3
 v3:=zeroValue3
 t4:=underlying4
 a4:=isAgg4
 z4:=sizeOf4
 v4:=zeroValue4
 t5:=underlying5
 a5:=isAgg5
 z5:=sizeOf5
 v5:=zeroValue5
 t9:=underlying9
 a9:=isAgg9
 z9:=sizeOf9
 v9:=zeroValue9
 t46:=underlying244
 a46:=isAgg244
 z46:=sizeOf244
 v46:=zeroValue244
 t51:=underlying242
 a51:=isAgg242
 z51:=sizeOf242
 v51:=zeroValue242
 t146:=underlying262
 a146:=isAgg262
 z146:=sizeOf262
 v146:=zeroValue262
 g1:=by kernel_rfl }
def lays106_ren:Go.Shelf.Ren:=⟨fun|106=>133|213=>159|265=>182|n=>n,fun|9=>9|3=>3|n=>n,fun|n=>n⟩
theorem lays106:Go.Proofs.Lays.n106 prog lays106_ren:={
 mixed:=by kernel_rfl
 f106:=func133.trans (congrArg some (by kernel_rfl))
 f213:=func159.trans (congrArg some (by kernel_rfl))
 f265:=func182.trans (congrArg some (by kernel_rfl))
 t3:=underlying3
 a3:=isAgg3
 z3:=sizeOf3
 v3:=zeroValue3
 t9:=underlying9
 a9:=isAgg9
 z9:=sizeOf9
 v9:=zeroValue9 }
def lays160_ren:Go.Shelf.Ren:=⟨fun|160=>89|232=>116|231=>115|227=>117|234=>119|233=>118|236=>121|235=>120|228=>143|271=>146|151=>145|197=>144|120=>166|152=>165|260=>164|137=>185|119=>186|224=>175|225=>174|217=>173|266=>189|n=>n,fun|9=>9|4=>4|3=>3|5=>5|117=>198|116=>197|0=>0|124=>201|21=>21|105=>223|46=>244|119=>256|139=>259|138=>258|n=>n,fun|3=>3|4=>4|n=>n⟩
theorem lays160:Go.Proofs.Lays.n160 prog lays160_ren:={
 mixed:=by kernel_rfl
 f119:=func186.trans (congrArg some (by kernel_rfl))
 f120:=func166.trans (congrArg some (by kernel_rfl))
 f137:=func185.trans (congrArg some (by kernel_rfl))
 f151:=func145.trans (congrArg some (by kernel_rfl))
 f152:=func165.trans (congrArg some (by kernel_rfl))
 f160:=func89.trans (congrArg some (by kernel_rfl))
 f197:=func144.trans (congrArg some (by kernel_rfl))
 f217:=func173.trans (congrArg some (by kernel_rfl))
 f224:=func175.trans (congrArg some (by kernel_rfl))
 f225:=func174.trans (congrArg some (by kernel_rfl))
 f227:=func117.trans (congrArg some (by kernel_rfl))
 f228:=func143.trans (congrArg some (by kernel_rfl))
 f231:=func115.trans (congrArg some (by kernel_rfl))
 f232:=func116.trans (congrArg some (by kernel_rfl))
 f233:=func118.trans (congrArg some (by kernel_rfl))
 f234:=func119.trans (congrArg some (by kernel_rfl))
 f235:=func120.trans (congrArg some (by kernel_rfl))
 f236:=func121.trans (congrArg some (by kernel_rfl))
 f260:=func164.trans (congrArg some (by kernel_rfl))
 f266:=func189.trans (congrArg some (by kernel_rfl))
 f271:=func146.trans (congrArg some (by kernel_rfl))
 t0:=underlying0
 a0:=isAgg0
 z0:=sizeOf0
 v0:=zeroValue0
 t3:=underlying3
 a3:=isAgg3
 z3:=sizeOf3
 v3:=zeroValue3
 t4:=underlying4
 a4:=isAgg4
 z4:=sizeOf4
 v4:=zeroValue4
 t5:=underlying5
 a5:=isAgg5
 z5:=sizeOf5
 v5:=zeroValue5
 t9:=underlying9
 a9:=isAgg9
 z9:=sizeOf9
 v9:=zeroValue9
 t21:=underlying21
 a21:=isAgg21
 z21:=sizeOf21
 v21:=zeroValue21
 t46:=underlying244
 a46:=isAgg244
 z46:=sizeOf244
 v46:=zeroValue244
 t105:=underlying223
 a105:=isAgg223
 z105:=sizeOf223
 v105:=zeroValue223
 t116:=underlying197
 a116:=isAgg197
 z116:=sizeOf197
 t117:=underlying198
 a117:=isAgg198
 z117:=sizeOf198
 v117:=zeroValue198
 t119:=underlying256
 a119:=isAgg256
 z119:=sizeOf256
 t124:=underlying201
 a124:=isAgg201
 z124:=sizeOf201
 v124:=zeroValue201
 t138:=underlying258
 a138:=isAgg258
 z138:=sizeOf258
 v138:=zeroValue258
 t139:=underlying259
 a139:=isAgg259
 z139:=sizeOf259
 v139:=zeroValue259
 g3:=by kernel_rfl
 g4:=by kernel_rfl }
def lays172_ren:Go.Shelf.Ren:=⟨fun|172=>127|244=>155|245=>156|247=>177|279=>178|280=>179|281=>180|282=>181|287=>191|316=>192|171=>70|205=>193|321=>194|322=>195|243=>94|246=>125|283=>150|284=>151|285=>152|286=>153|129=>169|317=>168|318=>170|319=>171|320=>172|337=>187|338=>188|n=>n,fun|9=>9|3=>3|75=>206|76=>207|4=>4|5=>5|167=>247|37=>216|0=>0|85=>248|2=>2|168=>250|53=>229|175=>264|46=>244|210=>268|127=>236|145=>276|143=>274|21=>21|171=>228|173=>232|212=>241|51=>242|20=>20|213=>243|232=>270|233=>271|80=>220|n=>n,fun|15=>5|16=>6|17=>1|18=>7|19=>8|n=>n⟩
theorem lays172:Go.Proofs.Lays.n172 prog lays172_ren:={
 mixed:=by kernel_rfl
 f129:=func169.trans (congrArg some (by kernel_rfl))
 f171:=func70.trans (congrArg some (by kernel_rfl))
 f172:=func127.trans (congrArg some (by kernel_rfl))
 f205:=func193.trans (congrArg some (by kernel_rfl))
 f243:=func94.trans (congrArg some (by kernel_rfl))
 f244:=func155.trans (congrArg some (by kernel_rfl))
 f245:=func156.trans (congrArg some (by kernel_rfl))
 f246:=func125.trans (congrArg some (by kernel_rfl))
 f247:=func177.trans (congrArg some (by kernel_rfl))
 f279:=func178.trans (congrArg some (by kernel_rfl))
 f280:=func179.trans (congrArg some (by kernel_rfl))
 f281:=func180.trans (congrArg some (by kernel_rfl))
 f282:=func181.trans (congrArg some (by kernel_rfl))
 f283:=func150.trans (congrArg some (by kernel_rfl))
 f284:=func151.trans (congrArg some (by kernel_rfl))
 f285:=func152.trans (congrArg some (by kernel_rfl))
 f286:=func153.trans (congrArg some (by kernel_rfl))
 f287:=func191.trans (congrArg some (by kernel_rfl))
 f316:=func192.trans (congrArg some (by kernel_rfl))
 f317:=func168.trans (congrArg some (by kernel_rfl))
 f318:=func170.trans (congrArg some (by kernel_rfl))
 f319:=func171.trans (congrArg some (by kernel_rfl))
 f320:=func172.trans (congrArg some (by kernel_rfl))
 f321:=func194.trans (congrArg some (by kernel_rfl))
 f322:=func195.trans (congrArg some (by kernel_rfl))
 f337:=func187.trans (congrArg some (by kernel_rfl))
 f338:=func188.trans (congrArg some (by kernel_rfl))
 t0:=underlying0
 a0:=isAgg0
 z0:=sizeOf0
 v0:=zeroValue0
 t2:=underlying2
 a2:=isAgg2
 z2:=sizeOf2
 v2:=zeroValue2
 t3:=underlying3
 a3:=isAgg3
 z3:=sizeOf3
 v3:=zeroValue3
 t4:=underlying4
 a4:=isAgg4
 z4:=sizeOf4
 v4:=zeroValue4
 t5:=underlying5
 a5:=isAgg5
 z5:=sizeOf5
 v5:=zeroValue5
 t9:=underlying9
 a9:=isAgg9
 z9:=sizeOf9
 v9:=zeroValue9
 t20:=underlying20
 a20:=isAgg20
 z20:=sizeOf20
 v20:=zeroValue20
 t21:=underlying21
 a21:=isAgg21
 z21:=sizeOf21
 v21:=zeroValue21
 t37:=underlying216
 a37:=isAgg216
 z37:=sizeOf216
 v37:=zeroValue216
 t46:=underlying244
 a46:=isAgg244
 z46:=sizeOf244
 v46:=zeroValue244
 t51:=underlying242
 a51:=isAgg242
 z51:=sizeOf242
 v51:=zeroValue242
 t53:=underlying229
 a53:=isAgg229
 z53:=sizeOf229
 v53:=zeroValue229
 t75:=underlying206
 a75:=isAgg206
 z75:=sizeOf206
 v75:=zeroValue206
 t76:=underlying207
 a76:=isAgg207
 z76:=sizeOf207
 v76:=zeroValue207
 t85:=underlying248
 a85:=isAgg248
 z85:=sizeOf248
 v85:=zeroValue248
 t127:=underlying236
 a127:=isAgg236
 z127:=sizeOf236
 v127:=zeroValue236
 t143:=underlying274
 a143:=isAgg274
 z143:=sizeOf274
 v143:=zeroValue274
 t145:=underlying276
 a145:=isAgg276
 z145:=sizeOf276
 v145:=zeroValue276
 t167:=underlying247
 a167:=isAgg247
 z167:=sizeOf247
 v167:=zeroValue247
 t168:=underlying250
 a168:=isAgg250
 z168:=sizeOf250
 v168:=zeroValue250
 t171:=underlying228
 a171:=isAgg228
 z171:=sizeOf228
 v171:=zeroValue228
 t173:=underlying232
 a173:=isAgg232
 z173:=sizeOf232
 v173:=zeroValue232
 t175:=underlying264
 a175:=isAgg264
 z175:=sizeOf264
 v175:=zeroValue264
 t210:=underlying268
 a210:=isAgg268
 z210:=sizeOf268
 v210:=zeroValue268
 t212:=underlying241
 a212:=isAgg241
 z212:=sizeOf241
 v212:=zeroValue241
 t213:=underlying243
 a213:=isAgg243
 z213:=sizeOf243
 t232:=underlying270
 a232:=isAgg270
 z232:=sizeOf270
 v232:=zeroValue270
 t233:=underlying271
 a233:=isAgg271
 z233:=sizeOf271
 v233:=zeroValue271
 g15:=by kernel_rfl
 g16:=by kernel_rfl
 g17:=by kernel_rfl
 g18:=by kernel_rfl
 g19:=by kernel_rfl }
def lays169_ren:Go.Shelf.Ren:=⟨fun|169=>138|n=>n,fun|70=>215|9=>9|0=>0|72=>218|37=>216|127=>236|3=>3|5=>5|n=>n,fun|n=>n⟩
theorem lays169:Go.Proofs.Lays.n169 prog lays169_ren:={
 mixed:=by kernel_rfl
 f169:=func138.trans (congrArg some (by kernel_rfl))
 t0:=underlying0
 a0:=isAgg0
 z0:=sizeOf0
 v0:=zeroValue0
 t3:=underlying3
 a3:=isAgg3
 z3:=sizeOf3
 v3:=zeroValue3
 t9:=underlying9
 a9:=isAgg9
 z9:=sizeOf9
 v9:=zeroValue9
 t37:=underlying216
 a37:=isAgg216
 z37:=sizeOf216
 v37:=zeroValue216
 t70:=underlying215
 a70:=isAgg215
 z70:=sizeOf215
 v70:=zeroValue215
 t72:=underlying218
 a72:=isAgg218
 z72:=sizeOf218
 v72:=zeroValue218
 t127:=underlying236
 a127:=isAgg236
 z127:=sizeOf236
 v127:=zeroValue236 }
def laysM171_ren:Go.Shelf.Ren:=⟨fun|171=>70|243=>94|246=>125|283=>150|284=>151|285=>152|286=>153|129=>169|317=>168|318=>170|319=>171|320=>172|337=>187|338=>188|n=>n,fun|3=>3|9=>9|2=>2|4=>4|171=>228|0=>0|53=>229|37=>216|5=>5|173=>232|212=>241|51=>242|20=>20|213=>243|46=>244|232=>270|233=>271|n=>n,fun|17=>1|18=>7|19=>8|n=>n⟩
theorem laysM171:Go.Proofs.LaysM.n171 prog laysM171_ren:={
 mixed:=by kernel_rfl
 f129:=func169.trans (congrArg some (by kernel_rfl))
 f171:=func70.trans (congrArg some (by kernel_rfl))
 f243:=func94.trans (congrArg some (by kernel_rfl))
 f246:=func125.trans (congrArg some (by kernel_rfl))
 f283:=func150.trans (congrArg some (by kernel_rfl))
 f284:=func151.trans (congrArg some (by kernel_rfl))
 f285:=func152.trans (congrArg some (by kernel_rfl))
 f286:=func153.trans (congrArg some (by kernel_rfl))
 f317:=func168.trans (congrArg some (by kernel_rfl))
 f318:=func170.trans (congrArg some (by kernel_rfl))
 f319:=func171.trans (congrArg some (by kernel_rfl))
 f320:=func172.trans (congrArg some (by kernel_rfl))
 f337:=func187.trans (congrArg some (by kernel_rfl))
 f338:=func188.trans (congrArg some (by kernel_rfl))
 t0:=underlying0
 a0:=isAgg0
 z0:=sizeOf0
 v0:=zeroValue0
 t2:=underlying2
 a2:=isAgg2
 z2:=sizeOf2
 v2:=zeroValue2
 t3:=underlying3
 a3:=isAgg3
 z3:=sizeOf3
 v3:=zeroValue3
 t4:=underlying4
 a4:=isAgg4
 z4:=sizeOf4
 v4:=zeroValue4
 t5:=underlying5
 a5:=isAgg5
 z5:=sizeOf5
 v5:=zeroValue5
 t9:=underlying9
 a9:=isAgg9
 z9:=sizeOf9
 v9:=zeroValue9
 t20:=underlying20
 a20:=isAgg20
 z20:=sizeOf20
 v20:=zeroValue20
 t37:=underlying216
 a37:=isAgg216
 z37:=sizeOf216
 v37:=zeroValue216
 t46:=underlying244
 a46:=isAgg244
 z46:=sizeOf244
 v46:=zeroValue244
 t51:=underlying242
 a51:=isAgg242
 z51:=sizeOf242
 v51:=zeroValue242
 t53:=underlying229
 a53:=isAgg229
 z53:=sizeOf229
 v53:=zeroValue229
 t171:=underlying228
 a171:=isAgg228
 z171:=sizeOf228
 v171:=zeroValue228
 t173:=underlying232
 a173:=isAgg232
 z173:=sizeOf232
 v173:=zeroValue232
 t212:=underlying241
 a212:=isAgg241
 z212:=sizeOf241
 v212:=zeroValue241
 t213:=underlying243
 a213:=isAgg243
 z213:=sizeOf243
 t232:=underlying270
 a232:=isAgg270
 z232:=sizeOf270
 v232:=zeroValue270
 t233:=underlying271
 a233:=isAgg271
 z233:=sizeOf271
 v233:=zeroValue271
 g17:=by kernel_rfl
 g18:=by kernel_rfl
 g19:=by kernel_rfl
 i0:=by kernel_rfl
 i2:=by kernel_rfl
 i3:=by kernel_rfl
 i4:=by kernel_rfl
 i5:=by kernel_rfl
 i9:=by kernel_rfl
 i20:=by kernel_rfl
 i37:=by kernel_rfl
 i46:=by kernel_rfl
 i51:=by kernel_rfl
 i53:=by kernel_rfl
 i171:=by kernel_rfl
 i173:=by kernel_rfl
 i212:=by kernel_rfl
 i232:=by kernel_rfl
 i233:=by kernel_rfl
 m17:=by kernel_rfl
 m18:=by kernel_rfl
 m19:=by kernel_rfl }
end Go.Proofs

namespace Go.Eng
open Go.Shelf Go.RowKit Go.Proofs
open Tryz
set_option maxHeartbeats 2000000 in
set_option maxRecDepth 100000 in
theorem qtf(b:Nat)(w:World)(h0:w.cell? ⟨b,0,none⟩=some (.pointer (some ⟨b,0,none⟩))) :Calls prog 161 #[.pointer (some ⟨b,0,none⟩)] w fun e w'=>e=.returned (.tuple #[])/\w'=w:=by
 obtain⟨j,hj,_⟩:=Option.map_eq_some_iff.1 (show (prog.info? 218).map (·.size)=some 2 by kernel_rfl)
 go_enter func161,ntmps161
 go_wp2
 rw[Lib.run_neq_ptr_same w ⟨b,0,none⟩ underlying215 hj]
 go_wp2
 go_end0
 exact⟨rfl,rfl⟩
set_option maxHeartbeats 2000000 in
set_option maxRecDepth 100000 in
theorem qrf(b:Nat)(w:World)(h0:w.cell? ⟨b,0,none⟩=some (.pointer none))(hsh:w.shape? b=some (218,2))(hfz:w.frozen? ⟨b,0,none⟩=false) :Calls prog 161 #[.pointer (some ⟨b,0,none⟩)] w fun e w'=>e=.returned (.tuple #[])/\w'=w.setCell ⟨b,0,none⟩ (.pointer (some ⟨b,0,none⟩)):=by
 obtain⟨j,hj,hjs⟩:=Option.map_eq_some_iff.1 (show (prog.info? 218).map (·.size)=some 2 by kernel_rfl)
 go_enter func161,ntmps161
 go_wp2
 rw[Lib.run_to_unsafe w ⟨b,0,none⟩ underlying215 underlying253 hj (by rw[hjs];decide) hsh (Nat.zero_lt_succ 1)];simp only[Result.andThen];rw[Oper.upon_value]
 go_wp2
 rw[run_callFunc_extern func183 (by kernel_rfl) (by kernel_rfl) (by kernel_rfl) (e:=Extern.AbiNoEscape.same) (by kernel_rfl)];rw[Lib.run_noEscape];simp only[Result.andThen];rw[Oper.upon_value]
 go_wp2
 rw[Lib.run_from_unsafe w ⟨b,0,none⟩ underlying253 underlying215 hj hsh (by kernel_rfl)];simp only[Result.andThen];rw[Oper.upon_value]
 go_wp2
 go_end0
 exact⟨rfl,rfl⟩
abbrev BtB(B b:Nat)(bs:List Value)(w:World):Prop:=Lib.IsBuilder 218 5 B b bs w
set_option maxHeartbeats 2000000 in
set_option maxRecDepth 100000 in
theorem qm2(B b:Nat)(bs:List Value)(w:World)(h:BtB B b bs w) :Calls prog 161 #[.pointer (some ⟨b,0,none⟩)] w fun e w'=>e=.returned (.tuple #[])/\Lib.BuilderAt 218 5 B b (.pointer (some ⟨b,0,none⟩)) bs w'/\Below B w w':=by
 rcases h with h|h
 ·refine(qrf b w h.cell0 h.shape h.frozen0).mono ?_;rintro e w' ⟨rfl,rfl⟩;exact⟨rfl,h.used _,(Below.refl B w).setCell (p:=⟨b,0,none⟩) h.1 _⟩
 ·refine(qtf b w h.cell0).mono ?_;rintro e w' ⟨rfl,rfl⟩;exact⟨rfl,h,Below.refl B _⟩
set_option maxHeartbeats 2000000 in
set_option maxRecDepth 100000 in
theorem qto(B b:Nat)(bs:List Value)(c:Int)(w:World)(h:BtB B b bs w)(hlen:bs.length+1<=140737488355328)(hBw:B<=w.heap.size) :Calls prog 136 #[.pointer (some ⟨b,0,none⟩),.int .u8 c] w fun e w'=>e=.returned .nilIface/\BtB B b (bs++[.int .u8 c]) w'/\Below B w w':=by
 obtain⟨i0,hi,hz0,hz1,hz2⟩:=info_parts (show (prog.info? 5).map (fun i=>(i.zero,i.size,i.bytes))=some (some (.int .u8 0),1,1) by kernel_rfl)
 go_enter func136,ntmps136
 go_wp2_with (go_at_call 161;refine(qm2 B b bs _ h).mono ?_)
 rintro e w1 ⟨rfl,h1,hb1⟩;obtain⟨hB,v,hbk,hown,hne⟩:=h1;have c0:w1.cell? ⟨b,0,none⟩=some (.pointer (some ⟨b,0,none⟩)):=by rw[Lib.cell_of_heap hbk];rfl
 have c1:w1.cell? ⟨b,1,none⟩=some v:=by rw[Lib.cell_of_heap hbk];rfl
 have hsz1:=hb1.size
 go_wp2_with (at_builtin;refine wpList_append_own _ rfl _ _ 216 rfl B 5 i0 (.int .u8 0) 1 1 underlying216 hi hz0 hz1 hz2 rfl (by decide) _ _ _ rfl (hown.alloc _) ⟨w1.heap.size,0,none⟩ 1 1 [.int .u8 c] rfl rfl ?c1 ?c2 ?c3 ?c4 ?c5 ?_)
 case c1=>
  intro j u hj
  match j,hj with
  | 0,hj=>simp at hj;subst hj;simp[Addr.add]
 case c2=>intro u hu;simp at hu;subst hu;rfl
 case c3=>unfold maxLen;omega
 case c4=>omega
 case c5=>simp;omega
 intro v' w2 hown' hgrow _;have hlt:b<w1.heap.size:=by
  rcases qxG b w1.heap.size with h'|h'
  ·exact h'
  ·simp[Array.getElem?_eq_none h'] at hbk
 have hb2:w2.heap[b]?=some (.cells #[.pointer (some ⟨b,0,none⟩),v] 218 (0,0)):=by rw[hgrow.block b (by simp;omega) (fun e=>hne e.symm),Lib.alloc_old w1 _ b hlt];exact hbk
 have d0:w2.cell? ⟨b,0,none⟩=some (.pointer (some ⟨b,0,none⟩)):=by rw[Lib.cell_of_heap hb2];rfl
 have d1:w2.cell? ⟨b,1,none⟩=some v:=by rw[Lib.cell_of_heap hb2];rfl
 have f1:w2.frozen? ⟨b,1,none⟩=false:=Lib.frozen_of_heap hb2 1;obtain⟨ao,n',cap,rfl⟩:∃ao n' cap,v'=.slice ao n' cap:=by
  rcases hown'.2 with⟨hv,_⟩|⟨g,cap,cur,hv,_⟩
  ·exact⟨_,_,_,hv⟩
  ·exact⟨_,_,_,hv⟩
 go_wp2
 go_ret
 refine⟨rfl,.inr ?_,?_⟩
 ·exact Lib.BuilderAt.put (T:=218) (e:=5) hB hb2 (bs':=bs++[.int .u8 c]) (by simpa using hown') (by decide)
 ·exact((hb1.alloc (by omega) _).grown hgrow (by simp;omega) (fun k hk=>(hown.lt k hk).1)).setCell (p:=⟨b,1,none⟩) hB _
set_option maxHeartbeats 2000000 in
set_option maxRecDepth 100000 in
theorem qrq(B b:Nat)(bs:List Value)(s:ByteArray)(w:World)(h:BtB B b bs w)(hlen:bs.length+s.size<=140737488355328)(hBw:B<=w.heap.size) :Calls prog 137 #[.pointer (some ⟨b,0,none⟩),.string s] w fun e w'=>e=.returned (.tuple #[.int .i64 s.size,.nilIface])/\BtB B b (bs++Lib.strCells s) w'/\Below B w w':=by
 obtain⟨i0,hi,hz0,hz1,hz2⟩:=info_parts (show (prog.info? 5).map (fun i=>(i.zero,i.size,i.bytes))=some (some (.int .u8 0),1,1) by kernel_rfl)
 go_enter func137,ntmps137
 go_wp2_with (go_at_call 161;refine(qm2 B b bs _ h).mono ?_)
 rintro e w1 ⟨rfl,h1,hb1⟩;obtain⟨hB,v,hbk,hown,hne⟩:=h1;have c0:w1.cell? ⟨b,0,none⟩=some (.pointer (some ⟨b,0,none⟩)):=by rw[Lib.cell_of_heap hbk];rfl
 have c1:w1.cell? ⟨b,1,none⟩=some v:=by rw[Lib.cell_of_heap hbk];rfl
 have hsz1:=hb1.size
 go_wp2_with (at_builtin;refine Lib.wpList_append_own_string _ rfl _ _ 216 9 rfl B 5 i0 underlying216 underlying9 hi hz0 hz1 hz2 _ _ _ rfl hown s rfl ?c3 ?c4 ?c5 ?_)
 case c3=>unfold maxLen;omega
 case c4=>omega
 case c5=>omega
 intro v' w2 hown' hgrow _;have hlt:b<w1.heap.size:=by
  rcases qxG b w1.heap.size with h'|h'
  ·exact h'
  ·simp[Array.getElem?_eq_none h'] at hbk
 have hb2:w2.heap[b]?=some (.cells #[.pointer (some ⟨b,0,none⟩),v] 218 (0,0)):=by rw[hgrow.block b hlt (fun e=>hne e.symm)];exact hbk
 have d0:w2.cell? ⟨b,0,none⟩=some (.pointer (some ⟨b,0,none⟩)):=by rw[Lib.cell_of_heap hb2];rfl
 have d1:w2.cell? ⟨b,1,none⟩=some v:=by rw[Lib.cell_of_heap hb2];rfl
 have f1:w2.frozen? ⟨b,1,none⟩=false:=Lib.frozen_of_heap hb2 1;obtain⟨ao,n',cap,rfl⟩:∃ao n' cap,v'=.slice ao n' cap:=by
  rcases hown'.2 with⟨hv,_⟩|⟨g,cap,cur,hv,_⟩
  ·exact⟨_,_,_,hv⟩
  ·exact⟨_,_,_,hv⟩
 go_wp2
 go_ret2
 refine⟨rfl,.inr ?_,?_⟩
 ·exact Lib.BuilderAt.put (T:=218) (e:=5) hB hb2 (bs':=bs++Lib.strCells s) (by simpa[Lib.strCells_length] using hown') (by decide)
 ·exact(hb1.grown hgrow (by omega) (fun k hk=>(hown.lt k hk).1)).setCell (p:=⟨b,1,none⟩) hB _
theorem qr6:Builder.Extra prog lays169_ren where
 sizeBuilder:=by kernel_rfl
 liesBuilder:=by kernel_rfl
 t5:=underlying5
 a5:=isAgg5
 z5:=sizeOf5
 v5:=zeroValue5
 infoByte:=by kernel_rfl
 cellsByte:=by kernel_rfl
 sizeByte:=by kernel_rfl
 neB5:=by decide
set_option maxHeartbeats 2000000 in
set_option maxRecDepth 100000 in
theorem qqg(B b:Nat)(l:qxA)(w:World)(h:BtB B b (Lib.byteCells l) w)(h0:l≠[]) :Calls prog 138 #[.pointer (some ⟨b,0,none⟩)] w fun e w'=>e=.returned (.string ⟨l.toArray⟩)/\Below B w w':=Any.Builder_String lays169 qr6 B b l w h h0
def qdS(f:Nat->Int):Nat->List UInt8
 | 0=>[]
 | i+1=>qsz (Lib.itoa (f i))++qdS f i
def qoq(b:Bool)(n:Nat)(f:Nat->Int):List UInt8:=if n=0 then [48] else (if b then [45] else [])++Lib.itoa (f (n-1))++qdS f (n-1)
theorem qoi (n:Int)(h:-9223372036854775808<=n/\n<=9223372036854775807)(w:World)(ht:Lib.TabIs prog w "internal/strconv.uint64pow10" .u64 Lib.pow10Tab) :Calls prog 70 #[.int .i64 n] w fun e w'=>e=.returned (.string ⟨(Lib.itoa n).toArray⟩)/\Below w.heap.size w w':=(Any.strconv_Itoa laysM171 n h.1 h.2 w ht).mono fun e w' ⟨h1,k,os,h2⟩=>⟨h1,by subst h2;exact qfp _ _ _⟩
theorem qhl{P:Program}{w w':World}{name:String}{k:IntKind}{zs:List Int}(h:Lib.TabIs P w name k zs)(hb:Below w.heap.size w w'):Lib.TabIs P w' name k zs:=by
 unfold Lib.TabIs World.var? at *;cases hg:P.globalNamed name with
 | none=>rw[hg] at h;cases h
 | some g=>
  rw[hg] at h;simp only[qy3] at h ⊢;by_cases hlt:g<w.heap.size
  ·rw[hb.block g hlt];exact h
  ·rw[Array.getElem?_eq_none (by omega)] at h;cases h
theorem qbd{w w':World}(hb:Below w.heap.size w w'){n:Nat}(hn:n<w.heap.size)(o:Nat):w'.cell? ⟨n,o,none⟩=w.cell? ⟨n,o,none⟩:=qyt (hb.block n hn)
theorem qlZ{B b:Nat}{bs:List Value}{w w':World}(h:BtB B b bs w)(hb:Below w.heap.size w w'):BtB B b bs w':=by
 have key:∀p,Lib.BuilderAt 218 5 B b p bs w->Lib.BuilderAt 218 5 B b p bs w':=by
  intro p h;have hlt:=h.lt;obtain⟨hB,v,hbk,⟨hl,hown⟩,hne⟩:=h;refine⟨hB,v,(hb.block b hlt).trans hbk,⟨hl,?_⟩,hne⟩;rcases hown with h|⟨g,cap,cur,h1,h2,h3,h4⟩
  ·exact .inl h
  ·exact .inr ⟨g,cap,cur,h1,h2,(hb.block g (qxI.1 h3).1).trans h3,h4⟩
 exact h.elim (fun x=>.inl (key _ x)) (fun x=>.inr (key _ x))
theorem qtC{B b:Nat}{bs:List Value}{w:World}(h:BtB B b bs w):BtB B b bs w.drew:=h.elim (fun x=>.inl x.drew) (fun x=>.inr x.drew)
theorem qrr:∀(k n:Nat),n<10^(k+1)->(Lib.decDigits n).length<=k+1
 | 0,n,h=>by rw[Lib.decDigits,dif_pos (by omega)];simp
 | k+1,n,h=>by
  rw[Lib.decDigits];split
  ·simp
  ·have:=qrr k (n/10) (by rw[qz1] at h;omega);simp;omega
theorem qt8{pre l:qxA}{k:Nat}(hp:pre.length<=k)(hl:l.length<=9)(hk:k<=100000:=by omega):(Lib.byteCells pre).length+(⟨l.toArray⟩:ByteArray).size<=140737488355328:=by
 rw[Lib.byteCells_length];have:(⟨l.toArray⟩:ByteArray).size=l.length:=by simp[ByteArray.size]
 omega
theorem qos{x:Int}(h:0<=x/\x<1000000000):(Lib.itoa x).length<=9:=by unfold Lib.itoa;rw[if_neg (by omega)];exact qrr 8 _ (by omega)
theorem qof{l:qxA}(h:l.length<=9):(qsz l).length=9:=by unfold qsz qmH qbE zG;simp;omega
theorem qrU{l:qxA}(h:l.length<=9):(⟨#[48,48,48,48,48,48,48,48,48]⟩:ByteArray).extract l.length 9++⟨l.toArray⟩=⟨(qsz l).toArray⟩:=by
 have key:∀k:Nat,k<=9->(⟨#[48,48,48,48,48,48,48,48,48]⟩:ByteArray).extract k 9=⟨(qbE [48,48,48,48,48,48,48,48,48] (k:Int) 9).toArray⟩:=by
  intro k hk;have:k=0\/k=1\/k=2\/k=3\/k=4\/k=5\/k=6\/k=7\/k=8\/k=9:=by omega
  rcases this with rfl|rfl|rfl|rfl|rfl|rfl|rfl|rfl|rfl|rfl<;>rfl
 rw[key _ h];unfold qsz qmH zG;apply ByteArray.ext;simp
theorem qru(l:qxA):Lib.strCells ⟨l.toArray⟩=Lib.byteCells l:=rfl
theorem qtJ(x:Int):0<(Lib.itoa x).length:=by
 unfold Lib.itoa;split
 ·simp
 ·rw[Lib.decDigits];split<;>simp
set_option maxHeartbeats 4000000 in
set_option maxRecDepth 1000000 in
theorem qt2(n0:Nat)(b:Bool)(n:Nat)(f:Nat->Int)(w:World)(hlt:n0<w.heap.size)(h0:w.cell? ⟨n0,0,none⟩=some (.bool b))(h1:w.cell? ⟨n0,1,none⟩=some (.int .i64 (n:Int)))(hw:∀i,i<232->w.cell? ⟨n0,2+i,none⟩=some (.int .i64 (f i)))(hn:n<=232) (hf:∀i,i<n->0<=f i/\f i<1000000000) (ht:Lib.TabIs prog w "internal/strconv.uint64pow10" .u64 Lib.pow10Tab) :Calls prog 109 #[.pointer (some ⟨n0,0,none⟩)] w fun e w'=>e=.returned (.string ⟨(qoq b n f).toArray⟩)/\Below w.heap.size w w':=by
 rcases qyx n with rfl|hpos
 ·go_enter func109,ntmps109
  go_wp2
  go_ret
  exact⟨rfl,Below.refl _ _⟩
 obtain⟨m,rfl⟩:∃m,n=m+1:=⟨n-1,by omega⟩;have hne:(((m+1:Nat):Int)==0)=false:=by simp;omega
 have w1:IntKind.i64.wrap (((m+1:Nat):Int)-1)=(m:Int):=by unfold IntKind.wrap;simp[IntKind.signed,IntKind.bits];omega
 have w1':IntKind.i64.wrap (m:Int)=(m:Int):=by unfold IntKind.wrap;simp[IntKind.signed,IntKind.bits];omega
 have hi:0<=(m:Int)/\(m:Int)<232:=by omega
 have hwm:=hw m (by omega);have w2:IntKind.i64.wrap (((m+1:Nat):Int)-2)=(m:Int)-1:=by unfold IntKind.wrap;simp[IntKind.signed,IntKind.bits];omega
 have hitm:=qos (hf m (by omega));cases b
 case' false=>
  go_enter func109,ntmps109
  go_wp2
  have hB0:=Lib.fresh_isBuilder 218 5 w;have hb0:=(Below.refl w.heap.size w).alloc (qxC _) (.cells #[.pointer none,.slice none 0 0] 218);generalize w.alloc (.cells #[.pointer none,.slice none 0 0] 218)=W0 at *;obtain⟨pre,hpre⟩:∃pre:List UInt8,pre=if false=true then [45] else []:=⟨_,rfl⟩
  replace hB0:BtB w.heap.size w.heap.size (Lib.byteCells pre) W0:=by subst hpre;exact hB0
 case' true=>
  go_enter func109,ntmps109
  go_wp2_with (go_at_call 136;refine(qto w.heap.size w.heap.size [] 45 _ (Lib.fresh_isBuilder 218 5 w) (by simp) (by simp)).mono ?_)
  rintro e W0 ⟨rfl,hB0,hb0⟩;replace hb0:=((Below.refl w.heap.size w).alloc (qxC _) (.cells #[.pointer none,.slice none 0 0] 218)).trans hb0;obtain⟨pre,hpre⟩:∃pre:List UInt8,pre=if true=true then [45] else []:=⟨_,rfl⟩
  replace hB0:BtB w.heap.size w.heap.size (Lib.byteCells pre) W0:=by subst hpre;exact hB0
  go_wp2
 all_goals
  have hp1:pre.length<=1:=by subst hpre;split<;>simp
  have hs0:=hb0.size;have d1:=(qbd hb0 hlt 1).trans h1;have dm:=(qbd hb0 hlt (2+m)).trans hwm
  go_region_with (first
   | (go_at_call 70;refine(qoi (f m) (by have:=hf m (by omega);omega) _ (qhl ht hb0.drew)).mono ?_;rintro e W1 ⟨rfl,b1⟩)
   | (go_at_call 137;refine(qrq w.heap.size w.heap.size _ _ _ (qlZ (qtC hB0) b1) (qt8 hp1 hitm) (qxJ hs0 b1.size)).mono ?_;rintro e W2 ⟨rfl,hB2,b2⟩))
  have b02:Below w.heap.size w W2:=(hb0.drew.trans (b1.mono hs0)).trans b2;have e1:=(qbd b02 hlt 1).trans h1;replace hB2:BtB w.heap.size w.heap.size (Lib.byteCells (pre++Lib.itoa (f m))) W2:=by rw[Lib.byteCells_append];exact hB2
  go_wp2
  go_loopw [4] (fun vi wr=>∃(k:Nat) (acc:qxA),vi=.int .i64 ((k:Int)-1)/\k<=m/\BtB w.heap.size w.heap.size (Lib.byteCells acc) wr/\Below w.heap.size w wr/\acc++qdS f k=pre++Lib.itoa (f m)++qdS f m/\acc.length<=10+9*(m-k)) (fun vi _=>(intOf vi+1).toNat)
  case atStart=>exact⟨m,_,by congr 1<;>omega,qxC _,hB2,b02,rfl,by simp;omega⟩
  case round=>
   obtain⟨k,acc,rfl,hkm,hI,hbw,hacc,hal⟩:=hrel;have hbs:=hbw.size;rcases qyx k with rfl|hk0
   ·go_wp2_with (go_at_call 138;refine(qqg w.heap.size w.heap.size acc _ hI ?hne).mono ?_)
    case hne=>intro h0;subst h0;have:=congrArg List.length hacc;have h9:=qtJ (f m);simp[qdS] at this;omega
    rintro e W3 ⟨rfl,b3⟩
    go_wp2
    go_ret
    refine⟨?_,hbw.trans b3⟩;simp only[qdS,qyD] at hacc;rw[hacc,hpre];simp[qoq]
   ·obtain⟨q,rfl⟩:∃q,k=q+1:=⟨k-1,by omega⟩;have x1:(((q+1:Nat):Int)-1)=(q:Int):=by omega
    have x2:(0:Int)<=(q:Int)/\(q:Int)<232:=by omega
    have x3:(q:Int).toNat=q:=qy1 q;have dq:=(qbd hbw hlt (2+q)).trans (hw q (by omega));have hq9:=qos (hf q (by omega));rw[x1]
    go_wp2_with (go_at_call 70;refine(qoi (f q) (by have:=hf q (by omega);omega) _ (qhl ht hbw)).mono ?_)
    rintro e W3 ⟨rfl,b3⟩;clear w1 w1' w2 hi hwm hne h1 hf hw ht;have hl9:((⟨(Lib.itoa (f q)).toArray⟩:ByteArray).size:Int)<=9:=by simp[ByteArray.size];omega
    go_wp2_with (go_at_call 137;refine(qrq w.heap.size w.heap.size (Lib.byteCells acc) _ _ (qlZ hI b3) ?hl (qxJ hbs b3.size)).mono ?_)
    case hl=>rw[qrU hq9,Lib.byteCells_length];have:=qof hq9;simp[ByteArray.size];omega
    rintro e W4 ⟨rfl,hB4,b4⟩;rw[qrU hq9,qru,<-Lib.byteCells_append] at hB4
    go_wp2
    go_roundw
    case rel=>
     refine⟨q,_,by congr 1<;>omega,by omega,hB4,(hbw.trans (b3.mono hbs)).trans b4,?_,?_⟩
     ·rw[<-hacc];simp[qdS]
     ·have:=qof hq9;simp;omega
    case measure=>simp[intOf]
theorem qok(w:R):∀i,qdh w i=qdS (fun i=>cI w i 0) i
 | 0=>rfl
 | i+1=>by unfold qdh qdS;rw[qok w i]
theorem qt9(b:Bool)(n:Nat)(w:R):qsH b (n:Int) w=qoq b n (fun i=>cI w i 0):=by
 unfold qsH qoq;by_cases h:n=0
 ·subst h;rfl
 ·rw[if_neg (by omega),if_neg h,qok];have e:((n:Int)-1)=((n-1:Nat):Int):=by omega
  rw[e,qy1]
theorem qsF{ps:List PV}(h:ps.map PV.kind=[.b,.i,.r]):∃b n w,ps=[.b b,.i n,.r w]:=by
 match ps,h with
 | [.b b,.i n,.r w],_=>exact⟨b,n,w,rfl⟩
theorem qqo{gl:List (Nat×AV)}(hg:(1,AV.eptr (Lib.pow10Tab.map fun _=>.int .u64) quc 0 0)∈gl) :qV prog gl 109 (q9 { args:=[.ptr 0 0],h:=[.big [.bool,.int .i64] .i64 232] } [{ res:=.str,h:=[.big [.bool,.int .i64] .i64 232] }] qs1):=
 qbr (yS func109 (by kernel_rfl) (by kernel_rfl)) rfl fun B X ps j qs vargs hs hgl hh ha hk hT=>by
  obtain⟨b,n,r,rfl⟩:=qsF hk;simp only[qs1] at hT;split at hT
  ·rename_i hc;cases hT;unfold qkM at hc;simp only[qxL,decide_eq_true_eq,qxV,qyR] at hc;obtain⟨⟨c1,c2⟩,c3⟩:=hc;obtain⟨m,rfl⟩:∃m:Nat,n=(m:Int):=⟨n.toNat,by omega⟩;have hb0:X.h[0]?=some (.big [.bool b,.int .i64 (m:Int)] .i64 232 r):=by rw[hh];rfl
   obtain⟨n0,c,T,vs,hσ,hheap,hrep,hcl,hrl⟩:=hs.blk 0 _ hb0;have hvs:vs=[.bool b,.int .i64 (m:Int)]:=by
    cases hrep with
    | cons h t=>cases h;rw[qoN t]
   subst hvs;have hva:vargs=[.pointer (some ⟨n0,0,none⟩)]:=by
    cases ha with
    | cons h t=>
     cases t;cases h with
     | ptr _ _ n1 hb hσ2=>
      have:n1=n0:=qy6 (hσ2.symm.trans hσ);rw[this]
   subst hva;have hlt:n0<X.w.heap.size:=(qxI.1 hheap).1;have hcell:∀o,X.w.cell? ⟨n0,o,none⟩=c[o]?:=fun o=>by unfold World.cell?;simp only[hheap];rfl
   have g0:X.w.cell? ⟨n0,0,none⟩=some (.bool b):=by rw[hcell,<-qzf,hcl];rfl
   have g1:X.w.cell? ⟨n0,1,none⟩=some (.int .i64 (m:Int)):=by rw[hcell,<-qzf,hcl];rfl
   have gw:∀i,i<232->X.w.cell? ⟨n0,2+i,none⟩=some (.int .i64 (cI r (i:Int) 0)):=fun i hi=>by rw[hcell];exact qke (vs:=[.bool b,.int .i64 (m:Int)]) hcl (by omega)
   refine⟨rfl,rfl,rfl,?_⟩;have hT:=qhW (k:=.u64) (zs:=Lib.pow10Tab) (show prog.globalNamed "internal/strconv.uint64pow10" = some 1 by kernel_rfl) (by decide) (hgl _ hg).2;refine(qt2 n0 b m (fun i=>cI r (i:Int) 0) X.w hlt g0 g1 gw (by omega) (fun i hi=>c3 i (by omega)) hT).mono fun e w' ⟨k1,k2⟩=>⟨_,k1,k2,?_⟩;rw[<-qt9];exact .str _
  ·cases hT
end Go.Eng

namespace Go.Eng
mutual
def qeW{H:Type}:DataW H->List U
 | .lit (.bool b)=>[.b b]
 | .lit (.int _ n)=>[.i n]
 | .lit (.string s)=>[.s s]
 | .nil=>[.l []]
 | .slice es _=>[.l (qlC es)]
 | .agg ps=>qpH ps
 | _=>[.i 0]
def qpH{H:Type}:List (DataW H)->List U
 | []=>[]
 | d::l=>qeW d++qpH l
def qlC{H:Type}:List (DataW H)->List (List U)
 | []=>[]
 | d::l=>qeW d::qlC l
end
theorem qbw{H:Type}:∀l:List (DataW H),qlC l=l.map qeW
 | []=>rfl
 | d::l=>by simp[qlC,qbw l]
inductive UFit:Sh->U->Prop
 | int (k:IntKind) (n:Int) (h0:k.min<=n) (h1:n<=k.max):UFit (.int k) (.i n)
 | bool (b:Bool):UFit .bool (.b b)
 | str (s:qxA) (h:s.length<=maxLen):UFit .str (.s s)
 | sl (row:List Sh) (l:R) (h:l.length<=maxLen) (hl:∀r,r∈l->r.length=row.length) (hf:∀(r:List U) (j:Nat) (s:Sh) (u:U),r∈l->row[j]?=some s->r[j]?=some u->UFit s u):UFit (.sl row) (.l l)
inductive CR (W:World) (M:Nat->Prop):List Sh->List U->List Value->Prop
 | nil:CR W M [] [] []
 | cons {s:Sh} {u:U} {v:Value} {sh:List Sh} {us:List U} {vs:List Value} (h:RepU W M s u v) (f:UFit s u) (t:CR W M sh us vs):CR W M (s::sh) (u::us) (v::vs)
theorem CR.append{W:World}{M:Nat->Prop}{a a':List Sh}{b b':List U}{c c':List Value}(h:CR W M a b c)(k:CR W M a' b' c'):CR W M (a++a') (b++b') (c++c'):=by
 induction h with
 | nil=>exact k
 | cons h f t ih=>exact .cons h f ih
theorem CR.len{W:World}{M:Nat->Prop}{a:List Sh}{b:List U}{c:List Value}(h:CR W M a b c):b.length=a.length/\c.length=a.length:=by
 induction h with
 | nil=>exact⟨rfl,rfl⟩
 | cons h f t ih=>simp[ih.1,ih.2]
theorem CR.get{W:World}{M:Nat->Prop}{a:List Sh}{b:List U}{c:List Value}(h:CR W M a b c):∀(j:Nat) (s:Sh),a[j]?=some s->∃u v,b[j]?=some u/\c[j]?=some v/\RepU W M s u v/\UFit s u:=by
 induction h with
 | nil=>intro j s hj;simp at hj
 | cons h f t ih=>
  intro j s hj;cases j with
  | zero=>simp at hj;subst hj;exact⟨_,_,rfl,rfl,h,f⟩
  | succ j=>simpa using ih j s (by simpa using hj)
def qkE:Nat->List (Nat×TypeId×Nat)->Bool
 | _,[]=>true
 | o,f::l=>Nat.beq f.1 o&&qkE (o+f.2.2) l
def qq1:List (Nat×TypeId×Nat)->Nat
 | []=>0
 | f::l=>f.2.2+qq1 l
def qmP(x:TI):Bool:=match x.d with
 | .struct fs=>qkE 0 fs&&Nat.beq (qq1 fs) x.size
 | .array n _ es=>Nat.beq (n*es) x.size
 | .slice _ es=>Nat.blt 0 es
 | _=>true
theorem qtu{E:Env}(h:E.tt.all (fun x=>qmP x.2)=true)(t:TypeId):qmP (E.ty t)=true:=by
 unfold Env.ty;cases hf:E.tt.find? fun x=>x.1==t with
 | none=>rfl
 | some x=>exact qxV.1 h x (qyi hf)
section
variable {H:Type} {enc:TypeId×Value->H} {P:Program} {W:World} {base:Nat} {sp:Nat->Bool} {held:Bool} {E:Env}
theorem qj0{M:Nat->Prop}{fuel n:Nat}{cs:List Value}(ih:∀t cs d ps sh,E.shape n t=some sh->DataW.trod enc P W base sp held fuel t cs=some (d,ps)->CR W M sh (qeW d) cs) :
  ∀(fs:List (Nat×TypeId×Nat)) (o:Nat) (xs:List (DataW H×List MemPlace)) (shs:List (List Sh)),qkE o fs=true->o+qq1 fs=cs.length->fs.mapM (fun f=>E.shape n f.2.1)=some shs ->
   xs.length=fs.length->(∀(i:Nat) (f:Nat×TypeId×Nat),fs[i]?=some f->DataW.trod enc P W base sp held fuel f.2.1 ((cs.drop f.1).take f.2.2)=xs[i]?) ->
   CR W M shs.flatten (qpH (xs.map (·.1))) (cs.drop o)
 | [],o,xs,shs,_,hs,hsh,hl,_=>by
  simp[qq1] at hs hsh hl;subst hsh hl;have:cs.drop o=[]:=qzj (by omega);rw[this];exact .nil
 | f::fs,o,xs,shs,hlay,hs,hsh,hl,hx=>by
  simp only[qkE,qxL] at hlay;obtain⟨h1,h2⟩:=hlay;have ho:f.1=o:=qyf h1;simp only[qq1] at hs;rw[List.mapM_cons] at hsh;cases hsf:E.shape n f.2.1 with
  | none=>rw[hsf] at hsh;cases hsh
  | some shf=>
   cases hrest:fs.mapM (fun f=>E.shape n f.2.1) with
   | none=>rw[hsf,hrest] at hsh;cases hsh
   | some shr=>
    rw[hsf,hrest] at hsh;cases hsh;cases xs with
    | nil=>simp at hl
    | cons x xs=>
     have h0:=hx 0 f rfl;simp only[qyr] at h0;have c1:=ih f.2.1 _ x.1 x.2 shf hsf h0;rw[ho] at c1;have c2:=qj0 (cs:=cs) (M:=M) (fuel:=fuel) ih fs (o+f.2.2) xs shr h2 (by omega) hrest (by simpa using hl) fun i g hg=>by have:=hx (i+1) g (by simpa using hg);simpa using this
     have hsplit:cs.drop o=(cs.drop o).take f.2.2++cs.drop (o+f.2.2):=by rw[<-List.drop_drop,qza]
     rw[hsplit];simp only[qzi,qyp,qpH];exact c1.append c2
theorem qmD{M:Nat->Prop}{fuel n es:Nat}{e:TypeId}{cs:List Value}{she:List Sh}(he:E.shape n e=some she)
  (ih:∀t cs d ps sh,E.shape n t=some sh->DataW.trod enc P W base sp held fuel t cs=some (d,ps)->CR W M sh (qeW d) cs) :
  ∀(m o:Nat) (xs:List (DataW H×List MemPlace)),(o+m)*es=cs.length->xs.length=m->(∀i,i<m->DataW.trod enc P W base sp held fuel e ((cs.drop ((o+i)*es)).take es)=xs[i]?) ->
   CR W M (List.replicate m she).flatten (qpH (xs.map (·.1))) (cs.drop (o*es))
 | 0,o,xs,hs,hl,_=>by
  simp at hl hs;subst hl;have:cs.drop (o*es)=[]:=qzj (by omega);rw[this];exact .nil
 | m+1,o,xs,hs,hl,hx=>by
  cases xs with
  | nil=>simp at hl
  | cons x xs=>
   have h0:=hx 0 (by omega);simp only[qyr,qyd] at h0;have c1:=ih e _ x.1 x.2 she he h0;have c2:=qmD (cs:=cs) he ih m (o+1) xs (by rw[<-hs];congr 1;omega) (by simpa using hl) fun i hi=>by have:=hx (i+1) (by omega);rw[show o+(i+1)=o+1+i by omega] at this;simpa using this
   have hsplit:cs.drop (o*es)=(cs.drop (o*es)).take es++cs.drop ((o+1)*es):=by rw[qy2,Nat.one_mul,<-List.drop_drop,qza]
   rw[hsplit];simp only[qyQ,qzi,qyp,qpH];exact c1.append c2
theorem qoO(hE:E.tok P)(hlay:E.tt.all (fun x=>qmP x.2)=true):∀(fuel n:Nat) (t:TypeId) (cs:List Value) (d:DataW H) (ps:List MemPlace) (sh:List Sh),E.shape n t=some sh ->DataW.trod enc P W base sp held fuel t cs=some (d,ps)->CR W (fun b=>b<W.heap.size) sh (qeW d) cs:=by
 intro fuel;induction fuel with
 | zero=>intro n t cs d ps sh _ h;simp[DataW.trod] at h
 | succ fuel ih=>
  intro n t cs d ps sh hsh h;cases n with
  | zero=>simp[Env.shape] at hsh
  | succ n=>
   simp only[Env.shape] at hsh;have hl:=qtu hlay t;unfold qmP at hl;cases hd:(E.ty t).d<;>rw[hd] at hsh hl<;>simp only at hsh hl<;>try (cases hsh)
   ·
    unfold DataW.trod at h;rw[qgW hE hd] at h;split at h<;>simp_all;obtain⟨rfl,_⟩:=h;exact .cons (.bool (.b _)) (.bool _) .nil
   ·
    rename_i k;unfold DataW.trod at h;rw[qhF hE hd] at h;split at h<;>simp_all;obtain⟨⟨rfl,hw⟩,rfl,_⟩:=h;simp[Lit.wf] at hw;exact .cons (.int _ (.i _)) (.int _ _ hw.1 hw.2) .nil
   ·
    unfold DataW.trod at h;rw[q9t hE hd] at h;split at h<;>simp_all;rename_i s;obtain⟨hm,rfl,_⟩:=h;refine .cons ?_ (.str _ (by simpa using hm)) .nil;have:=RepU.str (w:=W) (M:=fun b=>b<W.heap.size) (.s s.data.toList);simpa[U.toS] using this
   ·
    rename_i e es;obtain⟨ht,rfl⟩:=uq hE hd;cases he:E.shape n e with
    | none=>rw[he] at hsh;cases hsh
    | some she=>
     rw[he] at hsh;cases hsh;have hpos:0<P.cellsOf e:=by simpa[Nat.blt_eq] using hl
     rcases DataW.trod_slice ht h with⟨rfl,hx⟩|⟨a,len,cap,elems,rest,k,hk,rfl,hx,hb,hlc,hcm,hlen,hel,_,_⟩
     ·cases hx;exact .cons (.slnil _ _ rfl) (.sl _ _ (by simp[maxLen]) (fun r hr=>by cases hr) (fun r j s u hr=>by cases hr)) .nil
     ·cases hx;cases hk;have hrow:∀(i:Nat) (hi:i<len),∃cs',W.cells? base (a.add (i*P.cellsOf e)) (P.cellsOf e)=some cs'/\CR W (fun b=>b<W.heap.size) she (qeW (elems[i]'(by omega)).1) cs':=by intro i hi;have h0:=hel i hi;rw[qxO (by omega)] at h0;obtain⟨cs',g1,g2⟩:=Option.bind_eq_some_iff.1 h0;exact⟨cs',g1,ih n e cs' _ _ she he g2⟩
      have hget:∀(r:Nat) (hr:r<len),(((elems.map (·.1)).map qeW).getD r []:List U)=qeW (elems[r]'(by omega)).1:=by intro r hr;simp[hlen,hr]
      have hcell:∀(r j:Nat) (s:Sh) (hr:r<len),she[j]?=some s->∃v,W.cell? ⟨a.block,a.off+r*she.length+j,none⟩=some v/\RepU W (fun b=>b<W.heap.size) s (wv (qlC (elems.map (·.1))) r j) v/\UFit s ((qeW (elems[r]'(by omega)).1).getD j (.i 0))/\a.spot=none/\a.block<W.heap.size:=by
       intro r j s hr hj;obtain⟨cs',g1,g2⟩:=hrow r hr;obtain⟨_,g4,g5⟩:=World.cells?_some g1;obtain⟨q1,q2⟩:=g2.len;obtain⟨u,v,e1,e2,e3,e4⟩:=g2.get j s hj;have hlen:she.length=P.cellsOf e:=by rw[<-q2,g4]
       have hjl:j<P.cellsOf e:=by rw[<-hlen];exact qj hj
       have hc:=(g5 j hjl).trans e2;have h00:=g5 0 hpos;obtain⟨cs0,z1,z2⟩:=hrow 0 (by omega);obtain⟨_,z4,z5⟩:=World.cells?_some z1;have hz:=z5 0 hpos;obtain⟨v0,hv0⟩:∃v0,cs0[0]?=some v0:=⟨cs0[0],qxO (by omega)⟩;rw[hv0] at hz;simp only[Nat.zero_mul,Addr.add,if_true] at hz;have hspot:=World.cell?_spot hz;refine⟨v,?_,?_,?_,hspot,qz2 _ _ hz⟩
       ·rw[<-hc,Addr.add_of hspot,qy7,hlen]
       ·have:wv (qlC (elems.map (·.1))) r j=u:=by rw[qbw];unfold wv;rw[qy1,hget r hr];simp[e1]
        rw[this];exact e3
       ·simp[e1];exact e4
      have hrl:(qlC (elems.map (·.1))).length=len:=by rw[qbw];simp[hlen]
      have hsh0:0<len->0<she.length:=by intro hl0;obtain⟨cs',g1,g2⟩:=hrow 0 hl0;obtain⟨_,g4,_⟩:=World.cells?_some g1;rw[<-g2.len.2,g4];exact hpos
      refine .cons ?_ (.sl _ _ (by rw[hrl];omega) ?_ ?_) .nil
      ·have hR:=q5d (w:=W) (M:=fun b=>b<W.heap.size) (row:=she) (l:=qlC (elems.map (·.1))) (v:=.slice (some a) len cap) (.inr ⟨a,cap,by rw[hrl],fun h0=>by
        rw[hrl] at h0;obtain⟨_,_,_,_,h4,_⟩:=hcell 0 0 she[0] h0 (qxO (hsh0 h0));exact h4,by rw[hrl];exact hlc,fun r j hj hr=>by
        rw[hrl] at hr;obtain⟨v,h1,h2,_,_,h5⟩:=hcell r j she[j] hr (qxO hj);exact⟨h5,v,h1,h2⟩⟩)
       exact hR
      ·intro r hr;rw[qbw] at hr;obtain⟨i,hi⟩:=qzk hr;have hil:i<len:=by have:=qj hi;simpa[hlen] using this
       have:r=qeW (elems[i]'(by omega)).1:=by rw[<-hget i hil,qxE,hi];rfl
       obtain⟨cs',g1,g2⟩:=hrow i hil;rw[this];exact g2.len.1
      ·intro r j s u hr hs hu;rw[qbw] at hr;obtain⟨i,hi⟩:=qzk hr;have hil:i<len:=by have:=qj hi;simpa[hlen] using this
       have:r=qeW (elems[i]'(by omega)).1:=by rw[<-hget i hil,qxE,hi];rfl
       subst this;obtain⟨_,_,_,h3,_⟩:=hcell i j s hil hs;simpa[qxE,hu] using h3
   ·
    rename_i m e es;obtain⟨ht,rfl⟩:=q3B hE hd;cases he:E.shape n e with
    | none=>rw[he] at hsh;cases hsh
    | some she=>
     rw[he] at hsh;cases hsh;obtain⟨xs,m0,hf,hx,hcl,hxl,hel⟩:=DataW.trod_array ht h;cases hf;cases hx;have hsz:m*P.cellsOf e=cs.length:=by rw[hcl];have h1:=qyf hl;obtain⟨_,i,dd,h2,_,_,h4,_⟩:=yD hE (t:=t) (by rw[hd];rfl);rw[h1,h4];unfold Program.cellsOf;rw[h2];rfl
     have:=qmD (cs:=cs) he (fun t cs d ps sh h1 h2=>ih n t cs d ps sh h1 h2) m 0 xs (by simpa using hsz) hxl (fun i hi=>by simpa using hel i hi);simpa[qeW] using this
   ·
    rename_i fs;obtain⟨fields,ht,rfl⟩:=q41 hE hd;cases hm:(fields.toList.map fun f=>(f.offset,f.type,P.cellsOf f.type)).mapM fun f=>E.shape n f.2.1 with
    | none=>rw[hm] at hsh;cases hsh
    | some shs=>
     rw[hm] at hsh;cases hsh;obtain⟨xs,m0,hf,hx,hcl,hxl,hel⟩:=DataW.trod_struct ht h;cases hf;cases hx;simp only[qxL] at hl;have hsz:qq1 (fields.toList.map fun f=>(f.offset,f.type,P.cellsOf f.type))=cs.length:=by rw[hcl];have h1:=qyf hl.2;obtain⟨_,i,dd,h2,_,_,h4,_⟩:=yD hE (t:=t) (by rw[hd];rfl);rw[h1,h4];unfold Program.cellsOf;rw[h2];rfl
     have:=qj0 (cs:=cs) (fun t cs d ps sh h1 h2=>ih n t cs d ps sh h1 h2) _ 0 xs shs hl.1 (by simpa using hsz) hm (by simpa using hxl) (fun i f hf=>by
      rw[qxZ] at hf;cases hfi:fields.toList[i]? with
      | none=>rw[hfi] at hf;cases hf
      | some g=>
       rw[hfi] at hf;cases hf;exact hel i g (by simpa using hfi))
     simpa[qeW] using this
end
end Go.Eng

namespace Go.Eng
open Go.RowKit
variable {P:Program}{sh:List Sh}
inductive UFits:List Sh->List U->Prop
 | nil:UFits [] []
 | cons {s:Sh} {u:U} {sh:List Sh} {us:List U} (h:UFit s u) (t:UFits sh us):UFits (s::sh) (u::us)
theorem CR.fits {W:World}{M:Nat->Prop}{a:List Sh}{b:List U}{c:List Value}(h:CR W M a b c):UFits a b:=by
 induction h with
 | nil=>exact .nil
 | cons h f t ih=>exact .cons f ih
def q57:List Sh->List U->List AV
 | .int k::sh,u::us=>.int k u.toI::q57 sh us
 | .bool::sh,u::us=>.bool u.toB::q57 sh us
 | .str::sh,u::us=>.str u.toS::q57 sh us
 | .sl row::sh,u::us=>.imm row u.toR::q57 sh us
 | _,_=>[]
theorem qpt {X:Ctx}{us:List U}{vs:List Value}(h:CR X.w X.M sh us vs):RepL X (q57 sh us) vs:=by
 induction h with
 | nil=>exact .nil
 | cons h f t ih=>
  rename_i s u v sh us vs;cases s with
  | int k=>cases h;exact .cons (.int _ _) ih
  | bool=>cases h;exact .cons (.bool _) ih
  | str=>cases h;exact .cons (.str _) ih
  | sl row=>exact .cons (.imm _ _ _ (qdq h)) ih
def qqk(agg:Bool)(sh:List Sh)(us:List U):AV:=match agg with
 | true=>.agg (q57 sh us)
 | false=>(q57 sh us).headD .undef
section
variable {H:Type} {enc:TypeId×Value->H} {P:Program} {W:World} {base:Nat} {sp:Nat->Bool} {held:Bool} {E:Env}
theorem qv4 (hE:E.tok P)(hlay:E.tt.all (fun x=>qmP x.2)=true){X:Ctx}(hw:X.w=W)(hM:X.M=fun b=>b<W.heap.size){r:Reach}{b0 n:Nat}{t:TypeId}{v:Value}{d:DataW H}{ps:List MemPlace}(hsh:E.shape n t=some sh) (hv:Value.okWide P W r b0 t v) (hd:DataW.Trod enc P W base sp held t v d ps):UFits sh (qeW d)/\Rep X (qqk (E.ty t).d.isAgg sh (qeW d)) v:=by
 obtain⟨fuel,hf⟩:=hd;have hc:=qoO hE hlay fuel n t _ d ps sh hsh hf;refine⟨hc.fits,?_⟩;have hr:RepL X (q57 sh (qeW d)) v.cells.toList:=qpt (by rw[hw,hM];exact hc);have hone:∀(_:(E.ty t).d.isAgg=false),v.cells=#[v]->Rep X (qqk (E.ty t).d.isAgg sh (qeW d)) v:=by
  intro ha hcell;rw[ha];rw[hcell] at hr;simp only[qqk];generalize q57 sh (qeW d)=l at hr;cases hr with
  | cons h1 h2=>simpa using h1
 unfold Value.okWide at hv;cases n with
 | zero=>simp[Env.shape] at hsh
 | succ n=>
  simp only[Env.shape] at hsh;cases hd:(E.ty t).d<;>rw[hd] at hsh hone<;>simp only at hsh<;>try (cases hsh)
  ·rw[qgW hE hd] at hv;refine hone rfl ?_;cases v<;>simp[Cell.okWide,qgW hE hd,Cell.ok] at hv<;>rfl
  ·rw[qhF hE hd] at hv;refine hone rfl ?_;cases v<;>simp[Cell.okWide,qhF hE hd,Cell.ok] at hv<;>rfl
  ·rw[q9t hE hd] at hv;refine hone rfl ?_;cases v<;>simp[Cell.okWide,q9t hE hd,Cell.ok] at hv<;>rfl
  ·rw[(uq hE hd).1] at hv;refine hone rfl ?_;cases v<;>simp[Cell.okWide,(uq hE hd).1,Cell.ok] at hv<;>rfl
  ·rw[(q3B hE hd).1] at hv;obtain⟨cs,rfl,_,_⟩:=hv;simp only[TD.isAgg,qqk];exact .agg _ _ (by simpa[Value.cells] using hr)
  ·obtain⟨fields,ht,_⟩:=q41 hE hd;rw[ht] at hv;obtain⟨cs,rfl,_,_⟩:=hv;simp only[TD.isAgg,qqk];exact .agg _ _ (by simpa[Value.cells] using hr)
end
theorem qpi {H:Type}{enc:TypeId×Value->H}{W:World}{base:Nat}{sp:Nat->Bool}{held:Bool}{ts:List TypeId}{ds:List (DataW H)}(h:(DataW.weightsEach P ts ds).all (·<=reachBytes)=true)(j:Nat) {t e:TypeId} {v:Value} {d:DataW H} {ps:List MemPlace} {x:R} {b:Nat} (ht:ts[j]?=some t) (hd:ds[j]?=some d) (hu:P.underlying t=some (.slice e)) (hb:P.bytesOf e=b)(htr:DataW.Trod enc P W base sp held t v d ps) (hx:[.l x]=qeW d):x.length*b<=140737488351232:=by
 have he:x.length=0\/∃es spr,d=.slice es spr/\x.length=es.length:=by
  obtain⟨fuel,hf⟩:=htr;rcases DataW.trod_slice hu hf with⟨_,hx'⟩|⟨_,_,_,elems,rest,_,_,_,hx',_⟩
  ·cases hx';simp only[qeW,qyF,U.l.injEq,and_true] at hx;rw[hx];exact .inl rfl
  ·cases hx';simp only[qeW,qyF,U.l.injEq,and_true] at hx;exact .inr ⟨_,_,rfl,by rw[hx,qbw];simp⟩
 rcases he with he|⟨es,spr,rfl,he⟩
 ·rw[he];omega
 ·have:=qxV.1 h _ (DataW.weights_mem_each ht hd ((es.length+spr.length)*P.bytesOf e) (by simp[DataW.weights,hu]));have h2:(es.length+spr.length)*P.bytesOf e<=reachBytes:=by simpa using this
  rw[hb] at h2;rw[he];have h3:es.length*b<=(es.length+spr.length)*b:=qy8 _ (by omega);have h4:reachBytes=140737488351232:=rfl;omega
def qqs(W:World):Ctx:={ σ:=fun _=>none,h:=[],w:=W,M:=fun b=>b<W.heap.size }
def qpf(W:World):Base:={ w0:=W,imps:=[],M0:=fun b=>b<W.heap.size,fs:=[] }
theorem qxb (W:World):HSim (qpf W) (qqs W):=by
 have hno:∀b n,¬(qqs W).own b n:=by intro b n ⟨h,_⟩;cases h
 refine⟨fun b k h=>?_,fun b b' n h=>absurd h (hno b n),fun b n h=>absurd h (hno b n),fun n h=>h,fun n h=>h,fun n h=>.inl h,rfl,rfl,rfl,qxC _,fun _ _ _=>rfl,fun b h=>?_,fun b h=>?_,fun b n h=>absurd h (hno b n),fun p hp=>by cases hp⟩
 ·have:([]:List Blk)[b]?=some k:=h;simp at this
 ·exact absurd h (by simp[qpf])
 ·exact absurd h (by simp[qpf])
theorem qwv (W:World):Entry (qpf W) (qqs W):=⟨rfl,rfl,fun _ h=>h⟩
theorem qqQ {gl:List (Nat×AV)}{f:FuncId}{G:wk}(hG:qV P gl f G){W:World}(hgl:q5o gl (qqs W)){args:List AV}{vargs:List Value}(ha:RepL (qqs W) args vargs)(h:(G args []).run=some (.bool true,[])):Calls P f vargs.toArray W fun e W'=>e=.returned (.bool true)/\Below W.heap.size W W':=by refine(hG.2 (qpf W) (qqs W) args vargs _ (qxb W) (qwv W) hgl ha h).mono fun e W' ⟨v,X',e1,e2,e3,e4,e5,_⟩=>?_;subst e2;refine⟨?_,e5.os,e5.tape,e5.output,e5.size,fun k hk=>e5.frame k hk (by simp[qpf])⟩;rw[e1];cases e3;rfl
theorem qq3 {i:FIn}{outs:List FOut}{T:List PV->TR}{args:List AV}{ps:List PV}(ho:outs=[{ res:=.bool,h:=[] }])(hi:i.take args []=some ps)(hT:(T ps).run=some (0,[.b true])) :(q9 i outs T args []).run=some (.bool true,[]):=by subst ho;unfold q9;rw[hi];simp only[Tree.run,okR,hT,Option.isSome_some];simp only[qvM,FOut.kinds,AP.kinds,BP.kindsL,qyD,qgg,gB,pR,hT,qyT,PV.toB,FOut.make,AP.make,BP.makeL,Tree.run]
theorem qqH {W:World}{E:Env}(hE:E.tok P)(hlay:E.tt.all (fun x=>qmP x.2)=true){name:String}{g n:Nat}{t:TypeId}{d:DataW Unit}(hg:P.globalNamed name=some g) (hty:(P.globals[g]?).map (·.type)=some t) (hsh:E.shape n t=some sh) {ds:List (String×DataW Unit)} (h:laidMet P ds W) (hm:(name,d)∈ds) :qtH (qqs W) (g,.eptr sh [qeW d] 0 0):=by
 obtain⟨ps,hl,_⟩:=h;have key:∀(ds:List (String×DataW Unit)) (ps:List MemPlace),DataW.LaidVars P W ds ps->(name,d)∈ds->∃cs fuel p,W.var? P name=some cs/\DataW.trod (fun _=>()) P W 0 (fun _=>true) false fuel t cs.toList=some (d,p):=by
  intro ds;induction ds with
  | nil=>intro ps _ h;cases h
  | cons x ds ih=>
   intro ps hl hm;obtain⟨nm,dd⟩:=x;obtain⟨g',t',cs,fuel,p,q,h1,h2,h3,h4,h5,_⟩:=hl;rcases qxP.1 hm with he|hm
   ·cases he;obtain rfl:=qy6 (hg.symm.trans h1);obtain rfl:=qy6 (hty.symm.trans h2);exact⟨cs,fuel,p,h3,h4⟩
   ·exact ih q h5 hm
 obtain⟨cs,fuel,p,h3,h4⟩:=key ds ps hl hm;have hc:=qoO hE hlay fuel n t _ d p sh hsh h4;have hheap:∃T fr,W.heap[g]?=some (.cells cs T fr):=by
  unfold World.var? at h3;rw[hg] at h3;simp only[qy3] at h3;split at h3
  ·rename_i cs' T fr he;cases h3;exact⟨T,fr,he⟩
  ·cases h3
 suffices hs:Rows (qqs W).w (qqs W).M sh [qeW d] ⟨g,0,none⟩ by
  refine⟨?_,?_,?_⟩
  ·have:=Rep.eptr (X:=qqs W) sh [qeW d] 0 0 ⟨g,0,none⟩ rfl (qxT _) (by simp) hs;simpa using this
  ·obtain⟨T,fr,he⟩:=hheap;exact(qxI.1 he).1
  ·have:=World.var?_cell hg h3 sh.length;show W.cell? ⟨g,sh.length*1,none⟩=none;rw[Nat.mul_one,this,Array.getElem?_eq_none];rw[<-Array.length_toList,hc.len.2];exact qxC _
 intro r j hj hr;have hr0:r=0:=by simpa using hr
 subst hr0;obtain⟨u,v,e1,e2,e3,_⟩:=hc.get j sh[j] (qxO hj);have hcell:W.cell? ⟨g,j,none⟩=some v:=by have:=World.var?_cell hg h3 j;rw[this];simpa using e2
 refine⟨qz2 W ⟨g,j,none⟩ hcell,v,?_,?_⟩
 ·rw[Nat.zero_mul,qyd,qym];exact hcell
 have:wv [qeW d] (0:Nat) j=u:=by simp[wv,e1]
 rw[this];exact e3
theorem UFits.int {k:IntKind}{us:List U}(h:UFits (.int k::sh) us):∃n us',us=.i n::us'/\k.min<=n/\n<=k.max/\UFits sh us':=by
 cases h with
 | cons h t=>cases h with
  | int k n h0 h1=>exact⟨n,_,rfl,h0,h1,t⟩
theorem UFits.bool {us:List U}(h:UFits (.bool::sh) us):∃b us',us=.b b::us'/\UFits sh us':=by
 cases h with
 | cons h t=>cases h with
  | bool b=>exact⟨b,_,rfl,t⟩
theorem UFits.str {us:List U}(h:UFits (.str::sh) us):∃s us',us=.s s::us'/\s.length<=maxLen/\UFits sh us':=by
 cases h with
 | cons h t=>cases h with
  | str s h0=>exact⟨s,_,rfl,h0,t⟩
theorem UFits.sl {row sh:List Sh}{us:List U}(h:UFits (.sl row::sh) us):∃l us',us=.l l::us'/\UFit (.sl row) (.l l)/\UFits sh us':=by
 cases h with
 | cons h t=>
  rename_i u us;cases u with
  | l x=>exact⟨x,_,rfl,h,t⟩
  | _=>cases h
theorem UFits.none {us:List U}(h:UFits [] us):us=[]:=by cases h;rfl
end Go.Eng

namespace Go.Eng
abbrev Bs:=List UInt8
abbrev Mx:=List (List Bs)
def qxh(Z:Mx)(i c:Nat):Bs:=(Z.getD i []).getD c []
def qx2(Z:Mx)(i c:Nat)(v:Bs):Mx:=Z.set i ((Z.getD i []).set c v)
def qqL(Z:Mx)(i j:Nat):Mx:=(Z.set i (Z.getD j [])).set j (Z.getD i [])
structure Dim (Z:Mx) (N C:Nat):Prop where
 n:Z.length=N
 c:∀r,r∈Z->r.length=C
theorem Dim.row{Z:Mx}{N C i:Nat}(h:Dim Z N C)(hi:i<N):(Z.getD i []).length=C:=by rw[qxE,qxO (by rw[h.n];exact hi)];exact h.c _ (qyu _)
theorem Dim.set{Z:Mx}{N C:Nat}(h:Dim Z N C){i c:Nat}(hi:i<N)(v:Bs):Dim (qx2 Z i c v) N C:=by
 refine⟨by unfold qx2;rw[qyO,h.n],fun r hr=>?_⟩;rcases qzn hr with hr|rfl
 ·exact h.c r hr
 ·rw[qyO,h.row hi]
theorem Dim.swap{Z:Mx}{N C:Nat}(h:Dim Z N C){i j:Nat}(hi:i<N)(hj:j<N):Dim (qqL Z i j) N C:=by
 refine⟨by unfold qqL;rw[qyO,qyO,h.n],fun r hr=>?_⟩;rcases qzn hr with hr|rfl
 ·rcases qzn hr with hr|rfl
  ·exact h.c r hr
  ·exact h.row hj
 ·exact h.row hi
structure RS where
 Z:Mx
 det:Bs
 lead:List Nat
 p:Nat
open Go.RowKit
variable {e:TypeId}{v:Value}{w:World}
def qqu(b:Bs):Value:=.string ⟨b.toArray⟩
def qkL(n:Nat):Value:=.int .i64 (n:Int)
theorem q6V {w w':World}{B z n:Nat}{xs:List Value}(h:w.ownsRow B e z v n xs)(hb:Below w.heap.size w w'):w'.ownsRow B e z v n xs:=h.kept (row:=none) ⟨hb.os,hb.tape,hb.output,hb.size,fun k hk _=>hb.block k hk⟩ (by cases v.ownBlock<;>simp)
theorem wE {B z n:Nat}{xs:List Value}(h:w.ownsRow B e z v n xs){a:Addr}(ha:v.ownBlock≠some a.block)(u:Value):(w.setCell a u).ownsRow B e z v n xs:=h.kept (row:=some a.block) ⟨rfl,rfl,rfl,by simp[World.setCell],fun k _ hk=>heap_setCell_other w a k u (fun e=>hk (by rw[e]))⟩ (.inr ha)
theorem qdt {B z n:Nat}{xs:List Value}(h:w.ownsRow B e z v n xs)(hn:0<n):∃g c,v=.slice (some ⟨g,0,none⟩) n c/\B<=g/\g<w.heap.size/\(∃cur,w.heap[g]?=some (.cells cur e (0,0))):=by
 rcases h.2 with⟨_,h0⟩|⟨g,c,cur,rfl,hb,hg,_⟩
 ·omega
 ·exact⟨g,c,rfl,hb,(qxI.1 hg).1,cur,hg⟩
theorem q1Y {B z n:Nat}{xs:List Value}(h:w.ownsRow B e z v n xs){b:Nat}(hv:v.ownBlock=some b):∃cur,w.heap[b]?=some (.cells cur e (0,0)):=by
 rcases h.2 with⟨rfl,_⟩|⟨g,c,cur,rfl,_,hg,_⟩
 ·simp[Value.ownBlock] at hv
 ·simp[Value.ownBlock] at hv;subst hv;exact⟨cur,hg⟩
theorem qlR {a b:Nat}{c c':Array Value}{e e':TypeId}{f f':Nat×Nat}(ha:w.heap[a]?=some (.cells c e f))(hb:w.heap[b]?=some (.cells c' e' f'))(h:e≠e'):a≠b:=by rintro rfl;rw[ha] at hb;cases hb;exact h rfl
structure Sch (B S:Nat) (tS tR tE tI:TypeId) (N C:Nat) (ek K:Value) (w:World) (vR vL:Value) (H:List Value) (Z:Mx) (det:Bs) (lead:List Nat):Prop where
 bs:B<=S
 st:w.heap[S]?=some (.cells #[ek,vR,K,vL,qqu det] tS (0,0))
 dim:Dim Z N C
 outer:w.ownsRow B tR 1 vR N H
 inner:∀(j:Nat) h r,H[j]?=some h->Z[j]?=some r->w.ownsRow B tE 1 h C (r.map qqu)
 own:w.ownsRow B tI 1 vL lead.length (lead.map qkL)
 ap:∀(i j:Nat) h h' b,i≠j->H[i]?=some h->H[j]?=some h'->h.ownBlock=some b->h'.ownBlock≠some b
 ne:tS≠tR/\tS≠tE/\tS≠tI/\tR≠tE/\tR≠tI/\tE≠tI
section
variable {B S:Nat} {tS tR tE tI:TypeId} {N C:Nat} {ek K:Value} {w:World} {vR vL:Value} {H:List Value} {Z:Mx} {det:Bs} {lead:List Nat}
theorem Sch.hlen (h:Sch B S tS tR tE tI N C ek K w vR vL H Z det lead):H.length=N:=by have:=h.outer.1;omega
theorem Sch.hrow (h:Sch B S tS tR tE tI N C ek K w vR vL H Z det lead){j:Nat}(hj:j<N):∃hd r,H[j]?=some hd/\Z[j]?=some r/\w.ownsRow B tE 1 hd C (r.map qqu):=by
 have h1:j<H.length:=by rw[h.hlen];exact hj
 have h2:j<Z.length:=by rw[h.dim.n];exact hj
 exact⟨H[j],Z[j],qxO h1,qxO h2,h.inner j _ _ (qxO h1) (qxO h2)⟩
theorem Sch.grow (h:Sch B S tS tR tE tI N C ek K w vR vL H Z det lead){w':World}(hb:Below w.heap.size w w'):Sch B S tS tR tE tI N C ek K w' vR vL H Z det lead:=⟨h.bs,by rw[hb.block S (qxI.1 h.st).1];exact h.st,h.dim,q6V h.outer hb,fun j a r e1 e2=>q6V (h.inner j a r e1 e2) hb,q6V h.own hb,h.ap,h.ne⟩
theorem Sch.cell (h:Sch B S tS tR tE tI N C ek K w vR vL H Z det lead):w.cell? ⟨S,0,none⟩=some ek/\w.cell? ⟨S,1,none⟩=some vR/\w.cell? ⟨S,2,none⟩=some K/\w.cell? ⟨S,3,none⟩=some vL/\w.cell? ⟨S,4,none⟩=some (qqu det):=by refine⟨?_,?_,?_,?_,?_⟩<;>rw[cell_of_row w S _ _ tS (0,0) h.st]<;>rfl
theorem Sch.free (h:Sch B S tS tR tE tI N C ek K w vR vL H Z det lead)(o:Nat):w.frozen? ⟨S,o,none⟩=false:=frozen_of_row w S o _ tS h.st
theorem Sch.lt (h:Sch B S tS tR tE tI N C ek K w vR vL H Z det lead):S<w.heap.size:=(qxI.1 h.st).1
theorem Sch.head (h:Sch B S tS tR tE tI N C ek K w vR vL H Z det lead){j:Nat}(hj:j<N)(hC:0<C):∃g c,H[j]?=some (.slice (some ⟨g,0,none⟩) C c)/\B<=g/\g<w.heap.size /\(∀o,o<C->w.cell? ⟨g,o,none⟩=some (qqu (qxh Z j o)))/\(∀o,w.frozen? ⟨g,o,none⟩=false)/\(∃cur,w.heap[g]?=some (.cells cur tE (0,0))):=by
 obtain⟨hd,r,e1,e2,ho⟩:=h.hrow hj;obtain⟨g,c,rfl,hb,hlt,hc⟩:=qdt ho hC;refine⟨g,c,e1,hb,hlt,fun o hoC=>?_,fun o=>ho.frozenAt o,hc⟩;have hr:r.length=C:=by have:=ho.1;rw[qz9] at this;omega
 rw[ho.cellAt o (by omega),qxZ,qxO (by omega)];unfold qxh;rw[qxE,qxE,e2,qyK,qxO (by omega)];rfl
theorem Sch.rows (h:Sch B S tS tR tE tI N C ek K w vR vL H Z det lead)(hN:0<N):∃g c,vR=.slice (some ⟨g,0,none⟩) N c/\B<=g/\g<w.heap.size /\(∀(j:Nat) v,H[j]?=some v->w.cell? ⟨g,j,none⟩=some v)/\(∀o,w.frozen? ⟨g,o,none⟩=false)/\(∃cur,w.heap[g]?=some (.cells cur tR (0,0))):=by have ho:=h.outer;obtain⟨g,c,rfl,hb,hlt,hc⟩:=qdt ho hN;refine⟨g,c,rfl,hb,hlt,fun j v hv=>?_,fun o=>ho.frozenAt o,hc⟩;have hj:=(qzm.1 hv).1;rw[h.hlen] at hj;rw[ho.cellAt j (by omega)];exact hv
theorem Sch.put (h:Sch B S tS tR tE tI N C ek K w vR vL H Z det lead){j g c o:Nat}(hH:H[j]?=some (.slice (some ⟨g,0,none⟩) C c))(x:Bs) :Sch B S tS tR tE tI N C ek K (w.setCell ⟨g,o,none⟩ (qqu x)) vR vL H (qx2 Z j o x) det lead:=by
 have hj:j<N:=by have:=(qzm.1 hH).1;rw[h.hlen] at this;exact this
 obtain⟨hd,r,e1,e2,ho⟩:=h.hrow hj;rw[hH] at e1;cases e1;obtain⟨cur,hcur⟩:=q1Y ho rfl;have hz:Z.getD j []=r:=by rw[qxE,e2];rfl
 refine⟨h.bs,?_,h.dim.set hj x,wE h.outer (fun hv=>?_) _,fun i a r' q1 q2=>?_,wE h.own (fun hv=>?_) _,h.ap,h.ne⟩
 ·rw[heap_setCell_other w ⟨g,o,none⟩ S _ (qlR h.st hcur h.ne.2.1)];exact h.st
 ·obtain⟨c2,hc2⟩:=q1Y h.outer hv;exact qlR hc2 hcur h.ne.2.2.2.1 rfl
 ·unfold qx2 at q2;rw[hz] at q2;by_cases hij:i=j
  ·subst hij;rw[hH] at q1;cases q1;rw[qxN (by rw[h.dim.n];exact hj)] at q2;cases q2;have:=(ho.stored o (qqu x)).1;rw[List.map_set];exact this
  ·rw[qxD (fun e=>hij e.symm)] at q2;exact wE (h.inner i a r' q1 q2) (h.ap j i _ a g (fun e=>hij e.symm) hH q1 rfl) _
 ·obtain⟨c2,hc2⟩:=q1Y h.own hv;exact qlR hcur hc2 h.ne.2.2.2.2.2 rfl
theorem qsg {i j m m':Nat}(hij:i≠j)(h:m≠m'):(if m=i then j else if m=j then i else m)≠(if m'=i then j else if m'=j then i else m'):=by split<;>split<;>(try split)<;>(try split)<;>omega
theorem Sch.swap (h:Sch B S tS tR tE tI N C ek K w vR vL H Z det lead){i j:Nat}(hi:i<N)(hj:j<N)(hij:i≠j){g c:Nat}(hR:vR=.slice (some ⟨g,0,none⟩) N c){u v:Value}(hu:H[i]?=some u)(hv:H[j]?=some v) :Sch B S tS tR tE tI N C ek K ((w.setCell ⟨g,i,none⟩ v).setCell ⟨g,j,none⟩ u) vR vL ((H.set i v).set j u) (qqL Z i j) det lead:=by
 subst hR;obtain⟨cur,hcur⟩:=q1Y h.outer rfl;have o1:=(h.outer.stored i v).1;have o2:=(o1.stored j u).1;have hn:∀{e:TypeId} {n:Nat} {a:Value} {xs:List Value},tR≠e->w.ownsRow B e 1 a n xs->a.ownBlock≠some g:=fun hne hr hv=>by obtain⟨c2,hc2⟩:=q1Y hr hv;exact qlR hcur hc2 hne rfl
 have hSg:S≠g:=qlR h.st hcur h.ne.1;have hl:=h.hlen;have hzl:=h.dim.n;have z1:∀k,k<N->Z[k]?=some (Z.getD k []):=fun k hk=>by rw[qxE,qxO (by omega)];rfl
 have key:∀(m:Nat) a,((H.set i v).set j u)[m]?=some a->∃m',H[m']?=some a/\(qqL Z i j)[m]?=Z[m']?/\(m'=if m=i then j else if m=j then i else m):=by
  intro m a hm;unfold qqL;by_cases h1:m=j
  ·subst h1;rw[qxN (by rw[qyO];omega)] at hm;cases hm;refine⟨i,hu,?_,by rw[if_neg (fun e=>hij e.symm),if_pos rfl]⟩;rw[qxN (by rw[qyO];omega),z1 i hi]
  ·rw[qxD (fun e=>h1 e.symm)] at hm;rw[qxD (fun e=>h1 e.symm)];by_cases h2:m=i
   ·subst h2;rw[qxN (by omega)] at hm;cases hm;refine⟨j,hv,?_,by rw[if_pos rfl]⟩;rw[qxN (by omega),z1 j hj]
   ·rw[qxD (fun e=>h2 e.symm)] at hm;rw[qxD (fun e=>h2 e.symm)];exact⟨m,hm,rfl,by rw[if_neg h2,if_neg h1]⟩
 refine⟨h.bs,?_,h.dim.swap hi hj,o2,fun m a r q1 q2=>?_,wE (wE h.own (hn h.ne.2.2.2.2.1 h.own) _) (hn h.ne.2.2.2.2.1 h.own) _,fun m m' a a' b hmm q1 q2 q3=>?_,h.ne⟩
 ·rw[heap_setCell_other _ ⟨g,j,none⟩ S _ hSg,heap_setCell_other _ ⟨g,i,none⟩ S _ hSg];exact h.st
 ·obtain⟨m',k1,k2,_⟩:=key m a q1;rw[k2] at q2;have:=h.inner m' a r k1 q2;exact wE (wE this (hn h.ne.2.2.2.1 this) _) (hn h.ne.2.2.2.1 this) _
 ·obtain⟨x,k1,_,k3⟩:=key m a q1;obtain⟨y,l1,_,l3⟩:=key m' a' q2;refine h.ap x y a a' b ?_ k1 l1 q3;rw[k3,l3];exact qsg hij hmm
theorem Sch.reads {O cO:Nat}(h:Sch B S tS tR tE tI N C ek K w (.slice (some ⟨O,0,none⟩) N cO) vL H Z det lead){j g c:Nat}(hH:H[j]?=some (.slice (some ⟨g,0,none⟩) C c)) :w.cell? ⟨S,1,none⟩=some (.slice (some ⟨O,0,none⟩) N cO)/\w.cell? ⟨O,j,none⟩=some (.slice (some ⟨g,0,none⟩) C c)/\(∀o,o<C->w.cell? ⟨g,o,none⟩=some (qqu (qxh Z j o)))/\(∀o,w.frozen? ⟨g,o,none⟩=false)/\(0<C->B<=g):=by
 have hj:j<N:=by have:=(qzm.1 hH).1;rw[h.hlen] at this;exact this
 obtain⟨O',c',e,_,_,r,_,_⟩:=h.rows (by omega);cases e;obtain⟨hd,rw_,e1,e2,ho⟩:=h.hrow hj;rw[hH] at e1;cases e1;refine⟨h.cell.2.1,r j _ hH,fun o hoC=>?_,fun o=>ho.frozenAt o,fun hC=>?_⟩
 ·obtain⟨g',c'',q1,_,_,q2,_⟩:=h.head hj (by omega);rw[hH] at q1;cases q1;exact q2 o hoC
 ·obtain⟨g',c'',q1,q2,_⟩:=h.head hj hC;rw[hH] at q1;cases q1;exact q2
end
end Go.Eng

namespace Go.Eng
open Go.RowKit
theorem HSim.growM{B:Base}{X:Ctx}(hs:HSim B X){w':World}(hb:Below X.w.heap.size X.w w'){M':Nat->Prop}(h1:∀n,X.M n->M' n)(h2:∀n,M' n->X.M n\/(X.w.heap.size<=n/\n<w'.heap.size)) :HSim B { X with w:=w',M:=M' }/\Ext X { X with w:=w',M:=M' }:=by
 have hold:∀n (o:Obj),X.w.heap[n]?=some o->w'.heap[n]?=some o:=fun n o h=>(hb.block n (qxI.1 h).1).trans h;have hx:Ext X { X with w:=w',M:=M' }:=Move.of (fun n h=>h1 n h) (fun a ha=>qyt (hb.block _ (hs.ltM _ ha))) (fun b b' hb' h=>by cases h;exact⟨hb',rfl,fun _ _ h=>h,fun _ _ _ n _ c T fr h=>⟨c,T,fr,hold n _ h,rfl⟩⟩);refine⟨⟨fun b k hk=>?_,hs.inj,fun b n ho hm=>?_,fun n hn=>?_,fun n hn=>h1 n (hs.M0 n hn),fun n hn=>?_,hb.os.trans hs.os,hb.tape.trans hs.tape,hb.output.trans hs.output,qxJ hs.size hb.size,
  fun n hn hni=>?_,hs.imps,hs.impc,hs.fresh,fun p hp=>?_⟩,hx⟩
 ·by_cases hd:k=.dead
  ·subst hd;trivial
  ·exact vD.ext hx rfl (fun n hn=>hb.block n (hs.lt hk hd hn)) (hs.blk b k hk)
 ·have ho':X.own b n:=ho;rcases h2 n hm with h|h
  ·exact hs.notM b n ho' h
  ·have:=Ctx.own.lt hs ho';omega
 ·rcases h2 n hn with h|h
  ·exact qyG (hs.ltM n h) hb.size
  ·exact h.2
 ·rcases h2 n hn with h|h
  ·exact hs.newM n h
  ·exact .inr (qxJ hs.size h.1)
 ·show w'.heap[n]?=_;rw[hb.block n (qyG hn hs.size)];exact hs.frame n hn hni
 ·obtain⟨q1,q2,q3⟩:=hs.kept p hp;exact⟨hold _ _ q1,q2,q3⟩
theorem qlj{P:Program}{gl:List (Nat×AV)}{f:FuncId}{ap:List AP}{o:FOut}{T:List PV->TR}(he:qc7 P f)(ho:o.h=[])(h:∀(B:Base) (X:Ctx) (ps:List PV) (j:Nat) (qs:List PV) (vargs:List Value),HSim B X->q5o gl X->X.h=[]->RepL X ((FIn.mk ap []).make ps).1 vargs->ps.map PV.kind=(FIn.mk ap []).kinds->(T ps).run=some (j,qs) ->j=0/\qs.map PV.kind=o.kinds/\Calls P f vargs.toArray X.w fun e w'=>∃v M',e=.returned v/\Below X.w.heap.size X.w w'/\(∀n,X.M n->M' n)/\(∀n,M' n->X.M n\/(X.w.heap.size<=n/\n<w'.heap.size))/\Rep { X with w:=w',M:=M' } (o.make qs).1 v) :qV P gl f (q9 ⟨ap,[]⟩ [o] T):=by
 refine⟨he,fun B X args vargs r hs hen hgl ha hr=>?_⟩;obtain⟨ps,j,qs,h1,h2,h3⟩:=qij hr;unfold FIn.take at h1;obtain⟨x,y,g1,g2,rfl⟩:=kF h1;obtain⟨a1,a2,a3⟩:=AP.takeL_ok (X:=X) _ _ x y g1;obtain⟨b1,b2,b3,b4,b5⟩:=BP.takeL_ok (X:=X) _ _ y [] g2;rw[qyD] at b3 b5;have himp:B.imps.length=X.h.length:=by rw[hen.imps];simp
 obtain⟨d1,d2⟩:=q63 hs (h':=(BP.makeL (FIn.mk ap []).h y).1) b3 (fun b k' hb=>by obtain⟨k0,e1,e2,_⟩:=b5 b k' hb;exact⟨k0,e1,e2⟩)
  (fun b hb k' hk'=>by
   obtain⟨k0,_,_,e3⟩:=b5 b k' hk';have hlt:b<(FIn.mk ap []).h.length:=by omega
   exact absurd hlt (Nat.not_lt_zero _))
 have hkd:(x++y).map PV.kind=(FIn.mk ap []).kinds:=by simp[FIn.kinds,a2,b2]
 have hgl1:q5o gl ({ X with h:=(BP.makeL (FIn.mk ap []).h y).1 }:Ctx):=fun z hz=>⟨(hgl z hz).1,(hgl z hz).2.move d2.M d2.w ((hgl z hz).2.1.ext d2)⟩;have hmk:(FIn.mk ap []).make (x++y)=((AP.makeL ap (x++y)).1,(BP.makeL (FIn.mk ap []).h y).1):=by simp only[FIn.make,a1]
 have hh:(BP.makeL (FIn.mk ap []).h y).1=[]:=rfl;obtain⟨k1,k2,k4⟩:=h B _ (x++y) j qs vargs d1 hgl1 hh (by rw[hmk];exact(a3 _ ha).ext d2) hkd h2;subst k1;refine k4.mono fun e w' ⟨v,M',e1,e2,e3,e4,e5⟩=>?_;obtain⟨m1,m2⟩:=d1.growM e2 e3 e4;have hre:=qgp h2 [o] 0 o r (Nat.zero_le _) rfl k2 h3;subst hre;have ho2:(o.make qs).2=[]:=by unfold FOut.make;rw[ho];rfl
 exact⟨v,_,e1,rfl,e5,hh.trans ho2.symm,m1,rfl⟩
end Go.Eng

namespace Go.Eng
open Go.RowKit
variable {w':World}
structure MSt (B m q:Nat) (tM tE:TypeId) (w0 w:World) (r c:Nat) (v:Value) (xs:List Bs):Prop where
 bm:B<=m
 st:w.heap[m]?=some (.cells #[qkL r,qkL c,v] tM (0,0))
 res:w.heap[q]?=some (.cells #[qkL 0,qkL 0,.slice none 0 0] tM (0,0))
 mq:m≠q
 own:w.ownsRow B tE 1 v xs.length (xs.map qqu)
 ne:tM≠tE
 below:Below B w0 w
section
variable {B m q:Nat} {tM tE:TypeId} {w0 w:World} {r c:Nat} {v:Value} {xs:List Bs}
theorem MSt.lt (h:MSt B m q tM tE w0 w r c v xs):m<w.heap.size:=(qxI.1 h.st).1
theorem MSt.cell (h:MSt B m q tM tE w0 w r c v xs):w.cell? ⟨m,0,none⟩=some (qkL r)/\w.cell? ⟨m,1,none⟩=some (qkL c)/\w.cell? ⟨m,2,none⟩=some v:=by refine⟨?_,?_,?_⟩<;>rw[cell_of_row w m _ _ tM (0,0) h.st]<;>rfl
theorem MSt.free (h:MSt B m q tM tE w0 w r c v xs)(o:Nat):w.frozen? ⟨m,o,none⟩=false:=frozen_of_row w m o _ tM h.st
theorem MSt.grow (h:MSt B m q tM tE w0 w r c v xs)(hb:Below w.heap.size w w')(hB:B<=w.heap.size):MSt B m q tM tE w0 w' r c v xs:=⟨h.bm,by rw[hb.block m h.lt];exact h.st,by rw[hb.block q (qxI.1 h.res).1];exact h.res,h.mq,q6V h.own hb,h.ne,h.below.trans (hb.mono hB)⟩
theorem MSt.hB (h:MSt B m q tM tE w0 w r c v xs)(h0:B<=w0.heap.size):B<=w.heap.size:=qxJ h0 h.below.size
theorem MSt.keep (h:MSt B m q tM tE w0 w r c v xs)(hg:w.grownBy w' v.ownBlock):w'.heap[m]?=some (.cells #[qkL r,qkL c,v] tM (0,0))/\w'.heap[q]?=some (.cells #[qkL 0,qkL 0,.slice none 0 0] tM (0,0)):=by
 have key:∀(b:Nat) (cs:Array Value),w.heap[b]?=some (Obj.cells cs tM (0,0))->w'.heap[b]?=some (Obj.cells cs tM (0,0)):=fun b cs hb=>by rw[hg.block b (qxI.1 hb).1 (fun hv=>by obtain⟨c2,hc2⟩:=q1Y h.own hv.symm;exact qlR hb hc2 h.ne rfl)];exact hb
 exact⟨key _ _ h.st,key _ _ h.res⟩
theorem MSt.app (h:MSt B m q tM tE w0 w r c v xs){v':Value}{ys:List Bs}(hg:w.grownBy w' v.ownBlock)(hB:B<=w.heap.size)(ho:w'.ownsRow B tE 1 v' ys.length (ys.map qqu)) :MSt B m q tM tE w0 (w'.setCell ⟨m,2,none⟩ v') r c v' ys:=by obtain⟨hm,hq⟩:=h.keep hg;refine⟨h.bm,by rw[heap_setCell_same w' m 2 _ tM _ hm];rfl,by rw[heap_setCell_other w' ⟨m,2,none⟩ q _ h.mq.symm];exact hq,h.mq,wE ho (fun hv=>?_) _,h.ne,(h.below.grown hg hB (fun k hk=>(h.own.lt k hk).1)).setCell h.bm v'⟩;obtain⟨c1,hc1⟩:=q1Y ho hv;exact qlR hm hc1 h.ne rfl
end
theorem MSt.fin {B m q:Nat}{tM tE:TypeId}{w0 w:World}{r c:Nat}{v:Value}{xs:List Bs}(h:MSt B m q tM tE w0 w r c v xs)(hq:B<=q)(x y z:Value) :Below B w0 (((w.setCell ⟨q,0,none⟩ x).setCell ⟨q,1,none⟩ y).setCell ⟨q,2,none⟩ z)/\(((w.setCell ⟨q,0,none⟩ x).setCell ⟨q,1,none⟩ y).setCell ⟨q,2,none⟩ z).ownsRow B tE 1 v xs.length (xs.map qqu):=by
 have hn:v.ownBlock≠some q:=fun hv=>by obtain⟨c1,hc1⟩:=q1Y h.own hv;exact qlR h.res hc1 h.ne rfl
 exact⟨((h.below.setCell hq x).setCell hq y).setCell hq z,wE (wE (wE h.own hn x) hn y) hn z⟩
theorem qpq (w:World)(o:Obj):(w.alloc o).heap.size=w.heap.size+1:=by show (w.heap.push o).size=_;rw[Array.size_push]
theorem MSt.start (w:World)(tM tE:TypeId)(hne:tM≠tE)(r c:Nat)(o:Obj)(ho:o=.cells #[qkL 0,qkL 0,.slice none 0 0] tM)(o':Obj)(ho':o'=.cells #[qkL r,qkL c,.slice none 0 0] tM) :MSt w.heap.size (w.heap.size+1) w.heap.size tM tE w ((w.alloc o).alloc o') r c (.slice none 0 0) []:=by
 subst ho;subst ho';have h1:(w.alloc (.cells #[qkL 0,qkL 0,.slice none 0 0] tM)).heap.size=w.heap.size+1:=qpq _ _;refine⟨by omega,?_,?_,by omega,World.ownsRow_nil _ _ _ _,hne,((Below.refl w.heap.size w).alloc (qxC _) _).alloc (by omega) _⟩
 ·rw[<-h1];exact heap_alloc_new _ _
 ·show ((w.alloc _).heap.push _)[w.heap.size]?=_;rw[Array.getElem?_push_lt (by omega)];have:=heap_alloc_new w (.cells #[qkL 0,qkL 0,.slice none 0 0] tM);rw[qz0 (by omega)] at this;exact this
theorem Sch.start {B S:Nat}{tS tR tE tI:TypeId}{C:Nat}{ek K:Value}{w:World}{det:Bs}(bs:B<=S)(st:w.heap[S]?=some (.cells #[ek,.slice none 0 0,K,.slice none 0 0,qqu det] tS (0,0)))(ne:tS≠tR/\tS≠tE/\tS≠tI/\tR≠tE/\tR≠tI/\tE≠tI):Sch B S tS tR tE tI 0 C ek K w (.slice none 0 0) (.slice none 0 0) [] [] det []:=⟨bs,st,⟨rfl,fun r hr=>(by cases hr)⟩,World.ownsRow_nil _ _ _ _,fun j h r e1 _=>(by simp at e1),World.ownsRow_nil _ _ _ _,fun i j h h' b _ e1 _ _=>(by simp at e1),ne⟩
end Go.Eng

namespace Go.Eng
open Go.RowKit Go.Proofs
open Tryz
set_option maxHeartbeats 2000000 in
set_option maxRecDepth 100000 in
theorem qlp(n:Int)(h:-100000<=n/\n<=100000)(w:World):Calls prog 30 #[.int .i64 n] w fun e w'=>e=.returned (.bool true)/\w'=w:=by
 obtain⟨h1,h2⟩:=h
 go_enter func30,ntmps30
 go_wp2
 go_ret
 exact⟨rfl,rfl⟩
set_option maxHeartbeats 2000000 in
set_option maxRecDepth 100000 in
theorem qtt(a b:Int)(h1:-100000<=a)(h2:a<=b)(h3:b<=100000)(w:World):Calls prog 19 #[.agg #[.int .i64 a,.int .i64 b]] w fun e w'=>e=.returned (.int .i64 0)/\Below w.heap.size w w':=by
 have k1:=qlp a ⟨h1,by omega⟩;have k2:=qlp b ⟨by omega,h3⟩
 go_enter func19,ntmps19
 go_wp2_with (first|(go_at_call 30;refine(k1 _).mono ?_;rintro e w1 ⟨rfl,rfl⟩)|(go_at_call 30;refine(k2 _).mono ?_;rintro e w1 ⟨rfl,rfl⟩))
 go_ret
 exact⟨rfl,(Below.refl _ _).alloc (qxC _) _⟩
end Go.Eng

namespace Go.Eng
open Go.RowKit Go.Proofs
open Tryz
set_option maxHeartbeats 2000000 in
set_option maxRecDepth 100000 in
theorem qqZ(c:Int)(h1:65<=c)(h2:c<=74)(w:World):Calls prog 157 #[.int .u8 c] w fun e w'=>e=.returned (.bool true)/\w'=w:=by
 go_enter func157,ntmps157
 go_wp2
 go_ret
 exact⟨rfl,rfl⟩
theorem qtZ(c:UInt8)(w:World):∃cap w1,(convert 9 216 (.string ⟨#[c]⟩)).run prog w=.ok (.slice (some ⟨w.heap.size,0,none⟩) 1 cap) w1/\1<=cap/\w1.cell? ⟨w.heap.size,0,none⟩=some (.int .u8 (c.toNat:Int))/\Below w.heap.size w w1:=by refine⟨_,_,run_bytes_of_string w 9 216 5 ⟨#[c]⟩ underlying9 underlying216 underlying5,grownCap_ge w 1 0 5,?_,(Below.refl w.heap.size w).drew.alloc (qxC _) _⟩;exact(World.cell?_alloc_mark w.drew _ _ _ _).trans (bytesRow_at ⟨#[c]⟩ _ 0 Nat.one_pos)
set_option maxHeartbeats 2000000 in
set_option maxRecDepth 100000 in
theorem quU(c:UInt8)(h1:65<=(c.toNat:Int))(h2:(c.toNat:Int)<=74)(w:World):Calls prog 131 #[.string ⟨#[c]⟩] w fun e w'=>e=.returned (.int .i64 0)/\Below w.heap.size w w':=by
 have kl:=qqZ c.toNat h1 h2;obtain⟨cap,w1,hb,hcap,hc,hB⟩:=qtZ c w
 go_enter func131,ntmps131
 go_wp2_with (go_at_call 157;refine(kl _).mono ?_;rintro e w' ⟨rfl,rfl⟩)
 refine wp_loop_rounds 2 ?_;rw[rounds_succ]
 go_wp2_with (go_at_call 157;refine(kl _).mono ?_;rintro e w' ⟨rfl,rfl⟩)
 rw[rounds_succ]
 go_wp2
 go_ret
 exact⟨rfl,hB⟩
end Go.Eng

namespace Go.Eng
open Go.RowKit Go.Proofs
open Tryz
def chV(c:UInt8):Value:=.string ⟨#[c]⟩
def upc(c:UInt8):Prop:=65<=(c.toNat:Int)/\(c.toNat:Int)<=74
set_option maxHeartbeats 2000000 in
set_option maxRecDepth 100000 in
theorem qoh(n p:Nat)(W:World)(c:UInt8)(hc:upc c)(hp:W.cell? ⟨p,0,none⟩=some (chV c))(hn:p<n)(hw:n<=W.heap.size)(w:World)(hB:Below n W w) :Calls prog 130 #[.pointer (some ⟨p,0,none⟩)] w fun e w'=>e=.returned (.int .i64 0)/\Below n W w':=by
 have hcell:w.cell? ⟨p,0,none⟩=some (chV c):=(hB.cell (p:=⟨p,0,none⟩) hn).trans hp;have key:=quU c hc.1 hc.2 w;unfold chV at hcell
 go_enter func130,ntmps130
 go_wp2_with (go_at_call 131;refine key.mono ?_;rintro e w1 ⟨rfl,h1⟩)
 go_ret
 exact⟨rfl,hB.trans (h1.mono (qxJ hw hB.size))⟩
set_option maxHeartbeats 2000000 in
set_option maxRecDepth 100000 in
theorem qpN(n p:Nat)(W:World)(a b:Int)(h1:-100000<=a)(h2:a<=b)(h3:b<=100000)(q0:W.cell? ⟨p,0,none⟩=some (.int .i64 a))(q1:W.cell? ⟨p,1,none⟩=some (.int .i64 b))(hn:p<n)(hw:n<=W.heap.size)(w:World)(hB:Below n W w) :Calls prog 132 #[.pointer (some ⟨p,0,none⟩)] w fun e w'=>e=.returned (.int .i64 0)/\Below n W w':=by
 have c0:w.cell? ⟨p,0,none⟩=some (.int .i64 a):=(hB.cell (p:=⟨p,0,none⟩) hn).trans q0;have c1:w.cell? ⟨p,1,none⟩=some (.int .i64 b):=(hB.cell (p:=⟨p,1,none⟩) hn).trans q1;have key:=qtt a b h1 h2 h3 w
 go_enter func132,ntmps132
 go_wp2_with (go_at_call 19;refine key.mono ?_;rintro e w1 ⟨rfl,h1⟩)
 go_ret
 exact⟨rfl,hB.trans (h1.mono (qxJ hw hB.size))⟩
theorem qxj{c d:UInt8}(h:c≠d):(c==d)=false:=by simpa using h
set_option maxHeartbeats 2000000 in
set_option maxRecDepth 100000 in
theorem qr9(n p:Nat)(W:World)(c d:UInt8)(hne:c≠d)(q0:W.cell? ⟨p,0,none⟩=some (chV c))(q1:W.cell? ⟨p,1,none⟩=some (chV d))(q2:W.cell? ⟨p,2,none⟩=some (.int .i64 2))(hn:p<n)(_:n<=W.heap.size)(w:World)(hB:Below n W w) :Calls prog 104 #[.pointer (some ⟨p,0,none⟩)] w fun e w'=>e=.returned (.int .i64 0)/\Below n W w':=by
 have c0:w.cell? ⟨p,0,none⟩=some (chV c):=(hB.cell (p:=⟨p,0,none⟩) hn).trans q0;have c1:w.cell? ⟨p,1,none⟩=some (chV d):=(hB.cell (p:=⟨p,1,none⟩) hn).trans q1;have c2:w.cell? ⟨p,2,none⟩=some (.int .i64 2):=(hB.cell (p:=⟨p,2,none⟩) hn).trans q2;have hb:=qxj hne;unfold chV at c0 c1
 go_enter func104,ntmps104
 go_wp2
 go_ret
 exact⟨rfl,hB⟩
set_option maxHeartbeats 2000000 in
set_option maxRecDepth 100000 in
theorem qt3(s:ByteArray)(w:World):Calls prog 103 #[.string s] w fun e w'=>e=.returned (.func (.func 130) #[] #[.pointer (some ⟨w.heap.size,0,none⟩)])/\w'=w.alloc (.cells #[.string s] 9):=by
 go_enter func103,ntmps103
 go_wp2
 go_ret
 exact⟨rfl,rfl⟩
set_option maxHeartbeats 2000000 in
set_option maxRecDepth 100000 in
theorem qpy(a b:Int)(w:World):Calls prog 105 #[.agg #[.int .i64 a,.int .i64 b]] w fun e w'=>e=.returned (.func (.func 132) #[] #[.pointer (some ⟨w.heap.size,0,none⟩)])/\w'=w.alloc (.cells #[.int .i64 a,.int .i64 b] 24):=by
 go_enter func105,ntmps105
 go_wp2
 go_ret
 exact⟨rfl,rfl⟩
def fnV(f p:Nat):Value:=.func (.func f) #[] #[.pointer (some ⟨p,0,none⟩)]
set_option maxHeartbeats 4000000 in
set_option maxRecDepth 100000 in
theorem qu2(B p0 p1 p2 p3:Nat)(w:World)(hB:B<w.heap.size)(k0:∀w',Below w.heap.size w w'->Calls prog 130 #[.pointer (some ⟨p0,0,none⟩)] w' fun e w''=>e=.returned (.int .i64 0)/\Below w.heap.size w w'')(k1:∀w',Below w.heap.size w w'->Calls prog 130 #[.pointer (some ⟨p1,0,none⟩)] w' fun e w''=>e=.returned (.int .i64 0)/\Below w.heap.size w w'')(k2:∀w',Below w.heap.size w w'->Calls prog 104 #[.pointer (some ⟨p2,0,none⟩)] w' fun e w''=>e=.returned (.int .i64 0)/\Below w.heap.size w w'')(k3:∀w',Below w.heap.size w w'->Calls prog 132 #[.pointer (some ⟨p3,0,none⟩)] w' fun e w''=>e=.returned (.int .i64 0)/\Below w.heap.size w w'')(q0:w.cell? ⟨B,0,none⟩=some (fnV 130 p0)) (q1:w.cell? ⟨B,1,none⟩=some (fnV 130 p1)) (q2:w.cell? ⟨B,2,none⟩=some (fnV 104 p2)) (q3:w.cell? ⟨B,3,none⟩=some (fnV 132 p3)) :Calls prog 102 #[.slice (some ⟨B,0,none⟩) 4 4] w fun e w'=>e=.returned (.int .i64 0)/\Below w.heap.size w w':=by
 have keep:∀(w':World) (j:Nat) (v:Value),Below w.heap.size w w'->w.cell? ⟨B,j,none⟩=some v->w'.cell? ⟨B,j,none⟩=some v:=fun w' j v hb h=>(hb.cell (p:=⟨B,j,none⟩) hB).trans h;have K:=Lib.hid keep;have K1:=Lib.hid k1;have K2:=Lib.hid k2;have K3:=Lib.hid k3;have k0':=k0 w (Below.refl _ _);have Q1:=Lib.hid q1;have Q2:=Lib.hid q2;have Q3:=Lib.hid q3;clear keep k0 k1 k2 k3 q1 q2 q3;unfold fnV at q0
 go_enter func102,ntmps102
 go_wp2
 refine wp_loop_rounds 5 ?_;rw[rounds_succ]
 go_wp2_with (go_at_call 130;refine k0'.mono ?_;rintro e w1 ⟨rfl,b1⟩;have r1:=K.out w1 1 _ b1 Q1.out;unfold fnV at r1)
 have k1':=K1.out w1 b1;rw[rounds_succ]
 go_wp2_with (go_at_call 130;refine k1'.mono ?_;rintro e w2 ⟨rfl,b2⟩;have r2:=K.out w2 2 _ b2 Q2.out;unfold fnV at r2)
 have k2':=K2.out w2 b2;rw[rounds_succ]
 go_wp2_with (go_at_call 104;refine k2'.mono ?_;rintro e w3 ⟨rfl,b3⟩;have r3:=K.out w3 3 _ b3 Q3.out;unfold fnV at r3)
 have k3':=K3.out w3 b3;rw[rounds_succ]
 go_wp2_with (go_at_call 132;refine k3'.mono ?_;rintro e w4 ⟨rfl,b4⟩)
 rw[rounds_succ]
 go_wp2
 go_ret
 exact⟨rfl,b4⟩
end Go.Eng

namespace Go.Eng
open Go.RowKit Go.Proofs
open Tryz
theorem qbW{w:World}{p:Addr}{v:Value}(o:Obj)(h:w.cell? p=some v):(w.alloc o).cell? p=some v:=by rw[World.cell?_alloc_lt _ _ _ (qz2 w _ h)];exact h
def vWo(w:World)(c d:UInt8)(a b:Int):World:=(((((w.alloc (.cells #[.string ⟨#[c]⟩,.string ⟨#[d]⟩,.int .i64 2,.int .i64 a,.int .i64 b] 34)).alloc (.cells #[.string ⟨#[c]⟩] 9)).alloc (.cells #[.string ⟨#[d]⟩] 9)).alloc (.cells #[.int .i64 a,.int .i64 b] 24)).alloc
 (.cells #[.func (.func 130) #[] #[.pointer (some ⟨w.heap.size+1,0,none⟩)],.func (.func 130) #[] #[.pointer (some ⟨w.heap.size+1+1,0,none⟩)],.func (.func 104) #[] #[.pointer (some ⟨w.heap.size,0,none⟩)],.func (.func 132) #[] #[.pointer (some ⟨w.heap.size+1+1+1,0,none⟩)]] 182)).drew
def vS(n:Nat)(c d:UInt8)(a b:Int)(W:World):Prop:=W.cell? ⟨n,0,none⟩=some (.string ⟨#[c]⟩)/\W.cell? ⟨n,1,none⟩=some (.string ⟨#[d]⟩)/\W.cell? ⟨n,2,none⟩=some (.int .i64 2)/\W.cell? ⟨n,3,none⟩=some (.int .i64 a)/\W.cell? ⟨n,4,none⟩=some (.int .i64 b)
theorem qlh(w:World)(c d:UInt8)(a b:Int):vS w.heap.size c d a b (vWo w c d a b):=by refine⟨?_,?_,?_,?_,?_⟩<;>exact qbW _ (qbW _ (qbW _ (qbW _ (World.cell?_alloc_new w _ _ _))))
theorem qsv(w:World)(c d:UInt8)(hc:upc c)(hd:upc d)(hne:c≠d)(a b:Int)(h1:-100000<=a)(h2:a<=b)(h3:b<=100000) :Calls prog 102 #[.slice (some ⟨w.heap.size+1+1+1+1,0,none⟩) 4 4] (vWo w c d a b) fun e w'=>e=.returned (.int .i64 0)/\Below w.heap.size w w'/\vS w.heap.size c d a b w':=by
 have V:=qlh w c d a b;have hs:(vWo w c d a b).heap.size=w.heap.size+1+1+1+1+1:=by simp[vWo]
 obtain⟨v0,v1,v2,v3,v4⟩:=V;have e1:(vWo w c d a b).cell? ⟨w.heap.size+1,0,none⟩=some (chV c):=qbW _ (qbW _ (qbW _ (World.cell?_alloc_at _ _ _ _ (by simp))));have e2:(vWo w c d a b).cell? ⟨w.heap.size+1+1,0,none⟩=some (chV d):=qbW _ (qbW _ (World.cell?_alloc_at _ _ _ _ (by simp)));have e3:∀j v,(#[.int .i64 a,.int .i64 b]:Array Value)[j]?=some v->(vWo w c d a b).cell? ⟨w.heap.size+1+1+1,j,none⟩=some v:=fun j v h=>qbW _ ((World.cell?_alloc_at _ _ _ _ (by simp)).trans h);have e4:∀j v,(#[fnV 130 (w.heap.size+1),fnV 130 (w.heap.size+1+1),fnV 104 w.heap.size,fnV 132 (w.heap.size+1+1+1)]:Array Value)[j]?=some v->(vWo w c d a b).cell? ⟨w.heap.size+1+1+1+1,j,none⟩=some v:=fun j v h=>(World.cell?_alloc_at _ _ _ _ (by simp)).trans h;have hB0:Below w.heap.size w (vWo w c d a b):=(((((((Below.refl _ w).alloc (qxC _) _).alloc (by simp) _).alloc (by simp;omega) _).alloc (by simp;omega) _).alloc (by simp;omega) _)).drew;refine(qu2 (w.heap.size+1+1+1+1) _ _ _ _ (vWo w c d a b) (by omega) (fun w' hb=>qoh _ _ _ c hc e1 (by omega) (qxC _) w' hb) (fun w' hb=>qoh _ _ _ d hd e2 (by omega) (qxC _) w' hb)
  (fun w' hb=>qr9 _ _ _ c d hne v0 v1 v2 (by omega) (qxC _) w' hb) (fun w' hb=>qpN _ _ _ a b h1 h2 h3 (e3 0 _ rfl) (e3 1 _ rfl) (by omega) (qxC _) w' hb) (e4 0 _ rfl) (e4 1 _ rfl) (e4 2 _ rfl) (e4 3 _ rfl)).mono ?_
 rintro e w' ⟨rfl,hb⟩;have keep:∀(j:Nat) (v:Value),(vWo w c d a b).cell? ⟨w.heap.size,j,none⟩=some v->w'.cell? ⟨w.heap.size,j,none⟩=some v:=fun j v h=>(hb.cell (p:=⟨w.heap.size,j,none⟩) (by simp only[];omega)).trans h;exact⟨rfl,hB0.trans (hb.mono (by omega)),keep _ _ v0,keep _ _ v1,keep _ _ v2,keep _ _ v3,keep _ _ v4⟩
set_option maxHeartbeats 8000000 in
set_option maxRecDepth 100000 in
theorem qtW(c d:UInt8)(hc:upc c)(hd:upc d)(hne:c≠d)(a b:Int)(h1:-100000<=a)(h2:a<=b)(h3:b<=100000)(w:World) :Calls prog 75 #[.agg #[chV c,chV d,.int .i64 2,.int .i64 a,.int .i64 b]] w fun e w'=>e=.returned (.int .i64 0)/\Below w.heap.size w w':=by
 have vc:=qlh w c d a b;have key:=qsv w c d hc hd hne a b h1 h2 h3;have VC:=Lib.hid vc;have KEY:=Lib.hid key;clear key vc;unfold chV
 go_enter func75,ntmps75
 go_wp2_with fail
 go_region_held3 (fun W=>W.cell? ⟨w.heap.size,0,none⟩=some (.string ⟨#[c]⟩)/\W.cell? ⟨w.heap.size,1,none⟩=some (.string ⟨#[d]⟩)/\W.cell? ⟨w.heap.size,2,none⟩=some (.int .i64 2)/\W.cell? ⟨w.heap.size,3,none⟩=some (.int .i64 a)/\W.cell? ⟨w.heap.size,4,none⟩=some (.int .i64 b)) (first|exact VC.out|assumption|go_keep) (first
  | (go_at_call 103;refine(qt3 _ _).mono ?_;rintro e w' ⟨rfl,rfl⟩)
  | (go_at_call 105;refine(qpy _ _ _).mono ?_;rintro e w' ⟨rfl,rfl⟩)
  | (go_at_call 102;refine KEY.out.mono ?_;rintro e w' ⟨rfl,hb,hv⟩;unfold vS at hv))
 all_goals
  go_wp2
  go_ret
  exact⟨rfl,by assumption⟩
end Go.Eng

namespace Go.Eng
open Go.RowKit Go.Proofs Go.Maps
open Tryz
variable {P:Program}{w:World}
def qrc(W:World)(lb lo n:Nat)(nm:Nat->UInt8)(ax:Int)(a b:Nat->Int):Prop:=∀k,k<n ->
 W.cell? ⟨lb,lo+k*5,none⟩=some (.string ⟨#[nm k]⟩)/\W.cell? ⟨lb,lo+k*5+1,none⟩=some (.string ⟨#[nm (k+1)]⟩)/\W.cell? ⟨lb,lo+k*5+2,none⟩=some (.int .i64 ax) /\
 W.cell? ⟨lb,lo+k*5+3,none⟩=some (.int .i64 (a k))/\W.cell? ⟨lb,lo+k*5+4,none⟩=some (.int .i64 (b k))
set_option maxHeartbeats 4000000 in
set_option maxRecDepth 100000 in
theorem qvu (lb lo n cap:Nat)(nm:Nat->UInt8)(ax:Int)(a b:Nat->Int)(w:World)(hD:qrc w lb lo n nm ax a b)(k:Nat)(hk:k<n)(_:n<=9) :Calls prog 76 #[.slice (some ⟨lb,lo,none⟩) n cap,.agg #[.int .i64 k,.bool false]] w fun e w'=>e=.returned (.tuple #[.string ⟨#[nm k]⟩,.string ⟨#[nm (k+1)]⟩])/\Below w.heap.size w w':=by
 obtain⟨c0,c1,c2,c3,c4⟩:=hD k hk;have hlb:lb<w.heap.size:=qz2 w _ c0
 go_enter func76,ntmps76
 go_wp2_with fail
 go_region
 all_goals
  go_wp2
  refine bodyPost_ret (results_tmp2 rfl _ _ _) rfl ?_;exact⟨rfl,(((Below.refl w.heap.size w).alloc (qxC _) _).alloc (by simp) _).drew⟩
def qmK(P:Program)(k e b N:Nat)(S:Lit->Prop)(w:World):Prop:=∃D:DataW Unit,w.ownsMap P k (plainElem P e) b N D/\IsMap D/\∀kl,S kl->D.atKey kl (.lit (.bool false))=.lit (.bool false)
theorem qmK.start (P:Program)(k e:Nat)(S:Lit->Prop)(w:World):qmK P k e w.heap.size 0 S (w.alloc (.map #[] 0)):=⟨_,World.ownsMap_made w P k _,isMap_empty,fun _ _=>rfl⟩
theorem qmK.at {k e b N:Nat}{S:Lit->Prop}{w w':World}(h:qmK P k e b N S w)(hb:w'.heap[b]?=w.heap[b]?):qmK P k e b N S w':=by obtain⟨D,⟨es,clock,q1,q2⟩,h2⟩:=h;exact⟨D,⟨es,clock,hb.trans q1,q2⟩,h2⟩
theorem qmK.less {k e b N N':Nat}{S S':Lit->Prop}(h:qmK P k e b N S w)(hN:N<=N')(hS:∀x,S' x->S x):qmK P k e b N' S' w:=by obtain⟨D,h1,h2,h3⟩:=h;exact⟨D,h1.mono hN,h2,fun x hx=>h3 x (hS x hx)⟩
theorem qmK.no {t k e b N:Nat}{S:Lit->Prop}(h:qmK P k e b N S w)(K:Keyed P k)(ht:P.underlying t=some (.map k e))(he:P.underlying e=some .bool)(hz:(zeroValue e).run P w=.ok (.bool false) w){key:Value} {kl:Lit} (hkey:keyOf P k key=some kl) (hS:S kl):(Instr.lookup t (.map (some b)) key false).run P w=.ok (.bool false) w:=by obtain⟨D,h1,_,h3⟩:=h;obtain⟨v,ps,hrun,hv⟩:=h1.lookup K ht hz (plainElem_bool he false) hkey;rw[h3 kl hS] at hv;rw[hrun];unfold plainElem at hv;rw[he] at hv;cases v<;>simp at hv;rw[hv.1]
theorem qmK.put {t k e b N:Nat}{S S':Lit->Prop}(h:qmK P k e b N S w)(K:Keyed P k)(ht:P.underlying t=some (.map k e))(he:P.underlying e=some .bool)(hN:N<maxLen){key:Value} {kl:Lit} (hkey:keyOf P k key=some kl) (hS:∀x,S' x->S x/\x≠kl):∃w',(Instr.mapUpdate t (.map (some b)) key (.bool true)).run P w=.ok () w'/\qmK P k e b (N+1) S' w'/\w.grownBy w' (some b):=by obtain⟨D,h1,h2,h3⟩:=h;obtain⟨w',hrun,r1,r2⟩:=h1.update K ht hN hkey (plainElem_bool he true);exact⟨w',hrun,⟨_,r1,h2.put _ _,fun x hx=>by rw[atKey_put_other (hS x hx).2];exact h3 x (hS x hx).1⟩,r2⟩
end Go.Eng

namespace Go.Eng
open Go.RowKit Go.Proofs Go.Maps
open Tryz
def SU(k:Nat)(x:Lit):Prop:=∃i:Nat,k<=i/\x=.int .i64 i
def SB(nm:Nat->UInt8)(n k:Nat)(x:Lit):Prop:=∃i:Nat,k<=i/\i<=n/\x=.string [nm i]
theorem qr4(k:Nat)(x:Lit)(h:SU (k+1) x):SU k x/\x≠.int .i64 k:=by obtain⟨i,h1,rfl⟩:=h;refine⟨⟨i,by omega,rfl⟩,fun e=>?_⟩;injection e with _ e;omega
theorem qqI{nm:Nat->UInt8}{n k:Nat}(hk:k<=n)(hnm:∀i j,i<=n->j<=n->nm i=nm j->i=j)(x:Lit)(h:SB nm n (k+1) x):SB nm n k x/\x≠.string [nm k]:=by obtain⟨i,h1,h2,rfl⟩:=h;refine⟨⟨i,by omega,h2,rfl⟩,fun e=>?_⟩;injection e with e;injection e with e;have:=hnm _ _ h2 hk e;omega
theorem qrc.to{W W':World}{lb lo n B:Nat}{nm:Nat->UInt8}{ax:Int}{a b:Nat->Int}(h:qrc W lb lo n nm ax a b)(hB:Below B W W')(hb:lb<B):qrc W' lb lo n nm ax a b:=fun k hk=>by obtain⟨h0,h1,h2,h3,h4⟩:=h k hk;have key:∀(o:Nat) (v:Value),W.cell? ⟨lb,o,none⟩=some v->W'.cell? ⟨lb,o,none⟩=some v:=fun o v e=>(hB.cell (p:=⟨lb,o,none⟩) hb).trans e;exact⟨key _ _ h0,key _ _ h1,key _ _ h2,key _ _ h3,key _ _ h4⟩
def qol(W:World)(cb co n:Nat):Prop:=∀k:Nat,k<n->W.cell? ⟨cb,co+k*2,none⟩=some (.int .i64 k)/\W.cell? ⟨cb,co+k*2+1,none⟩=some (.bool false)
theorem qol.to{W W':World}{cb co n B:Nat}(h:qol W cb co n)(hB:Below B W W')(hb:cb<B):qol W' cb co n:=fun k hk=>by obtain⟨h0,h1⟩:=h k hk;have key:∀(o:Nat) (v:Value),W.cell? ⟨cb,o,none⟩=some v->W'.cell? ⟨cb,o,none⟩=some v:=fun o v e=>(hB.cell (p:=⟨cb,o,none⟩) hb).trans e;exact⟨key _ _ h0,key _ _ h1⟩
theorem qvA(k:Nat)(hk:k<=100):keyOf prog 3 (.int .i64 k)=some (.int .i64 k):=keyOf_int_mk underlying3 (by
 have h1:(-9223372036854775808:Int)<=k:=by omega
 have h2:(k:Int)<=9223372036854775807:=by omega
 have e1:IntKind.min .i64=-9223372036854775808:=by decide
 have e2:IntKind.max .i64=9223372036854775807:=by decide
 simp only[Lit.wf,e1,e2,qxL,decide_eq_true_eq];exact⟨h1,h2⟩)
theorem qrg(c:UInt8):keyOf prog 9 (.string ⟨#[c]⟩)=some (.string [c]):=WideMaps.keyOf_string_mk underlying9 (show 1<=maxLen by decide)
theorem qws(w:World):(zeroValue 4).run prog w=.ok (.bool false) w:=by kernel_rfl
end Go.Eng

namespace Go.Eng
open Go.RowKit Go.Proofs Go.Maps
open Tryz
def CI(w wr:World)(nm:Nat->UInt8)(n k:Nat):Prop:=Below w.heap.size w wr/\w.heap.size+2<=wr.heap.size/\qmK prog 3 4 w.heap.size k (SU k) wr/\qmK prog 9 4 (w.heap.size+1) k (SB nm n k) wr
theorem CI.round{w wr w2:World}{nm:Nat->UInt8}{n k:Nat}(h:CI w wr nm n k)(hk:k<n)(hn:n<=9)(hnm:∀i j,i<=n->j<=n->nm i=nm j->i=j)(hb:Below wr.heap.size wr w2) :((Instr.lookup 156 (.map (some w.heap.size)) (.int .i64 k) false).run prog w2=.ok (.bool false) w2/\(Instr.lookup 157 (.map (some (w.heap.size+1))) (.string ⟨#[nm (k+1)]⟩) false).run prog w2=.ok (.bool false) w2) /\(∃w3,(Instr.mapUpdate 156 (.map (some w.heap.size)) (.int .i64 k) (.bool true)).run prog w2=.ok () w3/\(k=0->CI w w3 nm n (k+1))) /\(∃w3,(Instr.mapUpdate 157 (.map (some (w.heap.size+1))) (.string ⟨#[nm k]⟩) (.bool true)).run prog w2=.ok () w3/\(∀j v,w2.cell? ⟨wr.heap.size,j,none⟩=some v->w3.cell? ⟨wr.heap.size,j,none⟩=some v) /\∃w4,(Instr.mapUpdate 156 (.map (some w.heap.size)) (.int .i64 k) (.bool true)).run prog w3=.ok () w4/\CI w w4 nm n (k+1)):=by
 obtain⟨h1,h2,h3,h4⟩:=h;have hs:=hb.size;have m3:=h3.at (hb.block w.heap.size (by omega));have m4:=h4.at (hb.block (w.heap.size+1) (by omega));have B2:Below w.heap.size w w2:=h1.trans (hb.mono (by omega));have ki:=qvA k (by omega);refine⟨⟨m3.no (int_keyed underlying3) underlying156 underlying4 (qws _) ki ⟨k,qxC _,rfl⟩,
  m4.no (string_keyed underlying9) underlying157 underlying4 (qws _) (qrg _) ⟨k+1,by omega,by omega,rfl⟩⟩,?_,?_⟩
 ·obtain⟨w3,r,q1,q2⟩:=m3.put (S':=SU (k+1)) (int_keyed underlying3) underlying156 underlying4 (by unfold maxLen;omega) ki (qr4 k);refine⟨w3,r,fun hk0=>⟨B2.grown q2 B2.size (fun j hj=>by cases hj;exact qxC _),qxJ (by omega) q2.size,q1,?_⟩⟩;exact(m4.at (q2.block _ (by omega) (by simp))).less (Nat.le_succ _) (fun x hx=>(qqI (by omega) hnm x hx).1)
 ·obtain⟨w3,r,q1,q2⟩:=m4.put (S':=SB nm n (k+1)) (string_keyed underlying9) underlying157 underlying4 (by unfold maxLen;omega) (qrg (nm k)) (qqI (by omega) hnm);have s3:=q2.size;refine⟨w3,r,fun j v e=>?_,?_⟩
  ·have:=qz2 w2 _ e;rw[qyt (q2.block _ this (by simp only[ne_eq,qxB];omega))];exact e
  ·have m3':=m3.at (q2.block w.heap.size (by omega) (by simp));obtain⟨w4,r4,p1,p2⟩:=m3'.put (S':=SU (k+1)) (int_keyed underlying3) underlying156 underlying4 (by unfold maxLen;omega) ki (qr4 k);have s4:=p2.size;refine⟨w4,r4,?_,by omega,p1,q1.at (p2.block _ (by omega) (by simp))⟩;exact(B2.grown q2 B2.size (fun j hj=>by cases hj;omega)).grown p2 (by omega) (fun j hj=>by cases hj;exact qxC _)
end Go.Eng

namespace Go.Eng
open Go.RowKit Go.Proofs Go.Maps
open Tryz
theorem _root_.Go.RowKit.Below.drewN{B:Nat}{a w:World}(h:Below B a w)(n:Nat):Below B a (w.drewN n):=⟨h.os,h.tape,h.output,h.size,h.block⟩
set_option maxHeartbeats 8000000 in
set_option maxRecDepth 100000 in
theorem qtO(lb lo lcap cb co ccap n:Nat)(hn0:0<n)(hn:n<=9)(nm:Nat->UInt8)(hnm:∀i j,i<=n->j<=n->nm i=nm j->i=j)(ax:Int)(a b:Nat->Int)(w:World)(hD:qrc w lb lo n nm ax a b)(hC:qol w cb co n) :Calls prog 57 #[.slice (some ⟨lb,lo,none⟩) n lcap,.slice (some ⟨cb,co,none⟩) n ccap] w fun e w'=>e=.returned (.int .i64 0)/\Below w.heap.size w w':=by
 have hmm:=@run_makeMap prog;have hlb:lb<w.heap.size:=qz2 w _ (hD 0 hn0).1;have hcb:cb<w.heap.size:=qz2 w _ (hC 0 hn0).1;have HD:=Lib.hid hD;have HC:=Lib.hid hC;have HN:=Lib.hid hnm;have hI0:CI w ((w.alloc (.map #[] 0)).alloc (.map #[] 0)) nm n 0:=by
  refine⟨((Below.refl _ w).alloc (qxC _) _).alloc (by simp) _,by simp,(qmK.start _ 3 4 _ w).at (Below.heap_alloc _ _ _ (by simp)),?_⟩;have:=qmK.start prog 9 4 (SB nm n 0) (w.alloc (.map #[] 0))
  rwa [World.size_alloc] at this
 have HI:=Lib.hid hI0;clear hD hC hnm hI0;have hz:((n:Int)==0)=false:=by simp;omega
 have hy:decide ((256:Int)<(n:Int))=false:=by simp;omega
 go_enter func57,ntmps57
 go_wp2
 go_loopw [7,8,25] (fun f l i wr=>∃k:Nat,k<=n/\i=.int .i64 k/\(∃F,f=.string F/\(0<k->F=⟨#[nm 0]⟩))/\(∃L,l=.string L/\(0<k->L=⟨#[nm k]⟩))/\CI w wr nm n k) (fun _ _ i _=>n-(intOf i).toNat)
 case atStart=>exact⟨0,by omega,rfl,⟨_,rfl,fun h=>absurd h (Nat.lt_irrefl 0)⟩,⟨_,rfl,fun h=>absurd h (Nat.lt_irrefl 0)⟩,HI.out⟩
 case round=>
  obtain⟨k,hk,rfl,⟨F,rfl,hF⟩,⟨L,rfl,hL⟩,hI⟩:=hrel;have HF:=Lib.hid (And.intro hF hL);clear hF hL;have HI:=Lib.hid hI;have hsz:=hI.1.size;clear hI;by_cases hlt:k<n
  ·obtain⟨c0,c1⟩:=HC.out.to HI.out.1 hcb k hlt;obtain⟨c2,_⟩:=HC.out.to HI.out.1 hcb 0 hn0;have HDr:=Lib.hid (HD.out.to HI.out.1 hlb);have hB1:Below wr.heap.size wr (wr.alloc (.cells #[.int .i64 k,.bool false] 36)):=(Below.refl _ wr).alloc (qxC _) _;have keyE:=qvu lb lo n lcap nm ax a b (wr.alloc (.cells #[.int .i64 k,.bool false] 36)) (HDr.out.to hB1 (by omega)) k hlt hn;have hlb':lb<wr.heap.size:=by omega
   have hcb':cb<wr.heap.size:=by omega
   have post:∀(w2:World),Below (wr.alloc (.cells #[.int .i64 k,.bool false] 36)).heap.size (wr.alloc (.cells #[.int .i64 k,.bool false] 36)) w2 ->
     w2.cell? ⟨wr.heap.size,0,none⟩=some (.int .i64 k)/\w2.cell? ⟨lb,lo+k*5+2,none⟩=some (.int .i64 ax)/\w2.cell? ⟨lb,lo+2,none⟩=some (.int .i64 ax)/\w2.cell? ⟨cb,co,none⟩=some (.int .i64 0):=fun w2 b2=>by
    have B2:Below wr.heap.size wr w2:=hB1.trans (b2.mono (by simp));have D2:=HDr.out.to B2 hlb';have e0:=(D2 0 hn0).2.2.1;have e1:=(D2 k hlt).2.2.1;refine⟨(b2.cell (p:=⟨wr.heap.size,0,none⟩) (by simp)).trans (World.cell?_alloc_new wr _ _ _),e1,by simpa using e0,(B2.cell (p:=⟨cb,co,none⟩) hcb').trans (by simpa using c2)⟩
   have POST:=Lib.hid post;have c2':wr.cell? ⟨cb,co,none⟩=some (.int .i64 0):=by simpa using c2
   clear post c2
   go_wp2_with (go_at_call 76;refine keyE.mono ?_;rintro e w2 ⟨rfl,b2⟩;obtain⟨d0,d1,d2,d3⟩:=POST.out w2 b2)
   have BD:=Lib.hid (hB1.trans (b2.mono (show wr.heap.size<=(wr.alloc (.cells #[.int .i64 k,.bool false] 36)).heap.size by simp)));clear b2 keyE hB1;rcases qyx k with hk0|hpos
   ·have z:¬(0:Int)<(k:Int):=by omega
    have zn:¬0<k:=by omega
    have zb:decide ((0:Int)<(k:Int))=false:=by simp;omega
    have zc:decide (0<k)=false:=by simp;omega
    have HK:=Lib.hid hk0;clear hk0
    go_quiet (fail)
    have z2:((k:Int)==0)=true:=by have:=HK.out;simp;omega
    obtain⟨⟨l1,l2⟩,⟨w3,r3,q3⟩,_⟩:=HI.out.round hlt hn HN.out (BD.out.drewN nq);have Q3:=Lib.hid (q3 HK.out);clear q3
    go_wp2
    go_roundw
    case rel=>exact⟨k+1,by omega,by go_num,⟨_,rfl,fun _=>by rw[HK.out]⟩,⟨_,rfl,fun _=>rfl⟩,Q3.out⟩
    case measure=>simp[intOf];omega
   ·have zn:(0:Int)<(k:Int):=by omega
    have zb:decide ((0:Int)<(k:Int))=true:=by simp;omega
    have zc:decide (0<k)=true:=by simp;omega
    have zf:(nm k==nm 0)=false:=by simp only[beq_eq_false_iff_ne];intro e;have:=HN.out _ _ hk (Nat.zero_le _) e;omega
    obtain rfl:=HF.out.1 hpos;obtain rfl:=HF.out.2 hpos
    go_quiet (fail)
    have z2:((k:Int)==0)=false:=by simp;omega
    obtain⟨⟨l1,l2⟩,_,⟨w3,r3,q3,w4,r4,q4⟩⟩:=HI.out.round hlt hn HN.out (BD.out.drewN nq);have d4:=q3 0 _ d0;have Q4:=Lib.hid q4;clear q3 q4
    go_wp2
    go_roundw
    case rel=>exact⟨k+1,by omega,by go_num,⟨_,rfl,fun _=>rfl⟩,⟨_,rfl,fun _=>rfl⟩,Q4.out⟩
    case measure=>simp[intOf];omega
  ·have:k=n:=by omega
   subst this
   go_wp2
   go_ret
   exact⟨rfl,HI.out.1⟩
end Go.Eng

namespace Go.Eng
open Go.RowKit Go.Proofs
open Tryz
instance:DecidablePred upc:=fun c=>by unfold upc;exact inferInstance
def qri:List PV->TR
 | [.s [c],.s [d],.i x,.i a,.i b]=>if upc c/\upc d/\c≠d/\x=2/\-100000<=a/\a<=b/\b<=100000 then .leaf (0,[.i 0]) else .fail
 | _=>.fail
theorem qnF{ps:List PV}(h:ps.map PV.kind=[.s,.s,.i,.i,.i]):∃a b c d e,ps=[.s a,.s b,.i c,.i d,.i e]:=by
 match ps,h with
 | [.s a,.s b,.i c,.i d,.i e],_=>exact⟨a,b,c,d,e,rfl⟩
theorem qtE{X:Ctx}{s t:Bs}{x a b:Int}{vargs:List Value}(h:RepL X [.agg [.str s,.str t,.int .i64 x,.int .i64 a,.int .i64 b]] vargs):vargs=[.agg #[.string ⟨s.toArray⟩,.string ⟨t.toArray⟩,.int .i64 x,.int .i64 a,.int .i64 b]]:=by
 cases h with
 | cons h1 t=>
  cases t;cases h1 with
  | agg _ vs h2=>
   cases h2 with
   | cons q1 t1=>
    cases q1;cases t1 with
    | cons q2 t2=>
     cases q2;cases t2 with
     | cons q3 t3=>
      cases q3;cases t3 with
      | cons q4 t4=>
       cases q4;cases t4 with
       | cons q5 t5=>
        cases q5;cases t5;rfl
theorem qn2{gl:List (Nat×AV)}:qV prog gl 75 (q9 ⟨[.agg [.str,.str,.int .i64,.int .i64,.int .i64]],[]⟩ [⟨.int .i64,[],none⟩] qri):=by
 refine qlj (yS func75 (by kernel_rfl) (by kernel_rfl)) rfl fun B X ps j qs vargs hs hgl hX ha hk hT=>?_;obtain⟨s,t,x,a,b,rfl⟩:=qnF hk;have ha:RepL X [.agg [.str s,.str t,.int .i64 x,.int .i64 a,.int .i64 b]] vargs:=ha;unfold qri at hT;split at hT
 ·rename_i c d x' a' b' heq;cases heq;split at hT
  ·rename_i hc;obtain⟨h1,h2,h3,rfl,h5,h6,h7⟩:=hc;cases hT;obtain rfl:=qtE ha;refine⟨rfl,rfl,(qtW c d h1 h2 h3 a b h5 h6 h7 X.w).mono ?_⟩;rintro e w' ⟨rfl,hb⟩;exact⟨_,X.M,rfl,hb,fun _ h=>h,fun _ h=>.inl h,.int _ _⟩
  ·cases hT
 ·cases hT
def nmC(k:Nat):UInt8:=UInt8.ofNat (65+k)
theorem qvq{n:Nat}(hn:n<=9)(i j:Nat)(hi:i<=n)(hj:j<=n)(h:nmC i=nmC j):i=j:=by have h2:=congrArg UInt8.toNat h;simp only[nmC,UInt8.toNat_ofNat'] at h2;omega
def qwY(l c:R):Prop:=0<l.length/\l.length<=9/\c.length=l.length/\(∀k,k<l.length->cS l k 0=[nmC k]/\cS l k 1=[nmC (k+1)]/\cI l k 2=2)/\∀k,k<l.length->cI c k 0=k/\cB c k 1=false
instance (l c:R):Decidable (qwY l c):=by unfold qwY;exact inferInstance
def qmo:List PV->TR
 | [.r l,.r c]=>if qwY l c then .leaf (0,[.i 0]) else .fail
 | _=>.fail
theorem qtb{ps:List PV}(h:ps.map PV.kind=[.r,.r]):∃a b,ps=[.r a,.r b]:=by
 match ps,h with
 | [.r a,.r b],_=>exact⟨a,b,rfl⟩
theorem qsf{X:Ctx}{sh sh':List Sh}{l c:R}{vargs:List Value}(h:RepL X [.imm sh l,.imm sh' c] vargs):∃v u,vargs=[v,u]/\q8A X.w X.M sh l v/\q8A X.w X.M sh' c u:=by
 cases h with
 | cons h1 t=>
  cases h1 with
  | imm _ _ _ hv=>
   cases t with
   | cons h2 t2=>
    cases t2;cases h2 with
    | imm _ _ _ hu=>exact⟨_,_,rfl,hv,hu⟩
theorem qoI{w:World}{M:Nat->Prop}{sh:List Sh}{l:R}{v:Value}(h:q8A w M sh l v)(h0:0<l.length):∃b o cap,v=.slice (some ⟨b,o,none⟩) l.length cap/\Rows w M sh l ⟨b,o,none⟩:=by
 rcases h with⟨_,rfl⟩|⟨a,cap,rfl,hsp,_,hr⟩
 ·exact absurd h0 (Nat.lt_irrefl 0)
 ·obtain⟨b,o,sp⟩:=a;have:sp=none:=hsp h0;subst this;exact⟨b,o,cap,rfl,hr⟩
theorem qmN{gl:List (Nat×AV)}:qV prog gl 57 (q9 ⟨[.imm [.str,.str,.int .i64,.int .i64,.int .i64],.imm [.int .i64,.bool]],[]⟩ [⟨.int .i64,[],none⟩] qmo):=by
 refine qlj (yS func57 (by kernel_rfl) (by kernel_rfl)) rfl fun B X ps j qs vargs hs hgl hX ha hk hT=>?_;obtain⟨l,c,rfl⟩:=qtb hk;have ha:RepL X [.imm [.str,.str,.int .i64,.int .i64,.int .i64] l,.imm [.int .i64,.bool] c] vargs:=ha;simp only[qmo] at hT;split at hT
 ·rename_i hc;obtain⟨h0,h9,hl,hd,hc⟩:=hc;cases hT;obtain⟨v,u,rfl,hv,hu⟩:=qsf ha;obtain⟨lb,lo,lcap,rfl,r1⟩:=qoI hv h0;obtain⟨cb,co,ccap,rfl,r2⟩:=qoI hu (by omega);rw[hl];refine⟨rfl,rfl,(qtO lb lo lcap cb co ccap l.length h0 h9 nmC (qvq h9) 2 (fun k=>cI l k 3) (fun k=>cI l k 4) X.w (fun k hk=>?_) (fun k hk=>?_)).mono ?_⟩
  ·obtain⟨e0,e1,e2⟩:=hd k hk;obtain⟨_,v0,p0,q0⟩:=r1 k 0 (by simp) hk;obtain⟨_,v1,p1,q1⟩:=r1 k 1 (by simp) hk;obtain⟨_,v2,p2,q2⟩:=r1 k 2 (by simp) hk;obtain⟨_,v3,p3,q3⟩:=r1 k 3 (by simp) hk;obtain⟨_,v4,p4,q4⟩:=r1 k 4 (by simp) hk;cases q0;cases q1;cases q2;cases q3;cases q4;unfold cS at e0 e1;unfold cI at e2;rw[e0] at p0;rw[e1] at p1;rw[e2] at p2;exact⟨p0,p1,p2,p3,p4⟩
  ·obtain⟨e0,e1⟩:=hc k hk;obtain⟨_,v0,p0,q0⟩:=r2 k 0 (by simp) (by omega);obtain⟨_,v1,p1,q1⟩:=r2 k 1 (by simp) (by omega);cases q0;cases q1;unfold cI at e0;unfold cB at e1;rw[e0] at p0;rw[e1] at p1;exact⟨p0,p1⟩
  ·rintro e w' ⟨rfl,hb⟩;exact⟨_,X.M,rfl,hb,fun _ h=>h,fun _ h=>.inl h,.int _ _⟩
 ·cases hT
end Go.Eng

namespace Go.Eng
open Go.Proofs
open Tryz
noncomputable def q2D:List (TypeId×TI):=[(1,(.mk .func 1 [.nilFunc] 8 false false)),(2,(.mk (.int .i64) 1 [(.int .i64 0)] 8 false false)),(3,(.mk (.int .i64) 1 [(.int .i64 0)] 8 false false)),(4,(.mk .bool 1 [(.bool false)] 1 false false)),(5,(.mk (.int .u8) 1 [(.int .u8 0)] 1 false false)),(6,(.mk (.int .u8) 1 [(.int .u8 0)] 1 false false)),(8,(.mk (.struct [(0,(2,1)),(1,(3,1)),(2,(4,1)),(3,(6,1))]) 4 [(.int .i64 0),(.int .i64 0),(.bool false),(.int .u8 0)] 24 true true)),(9,(.mk .str 1 [(.string (.mk (.mk [])))] 16 false false)),(10,(.mk .str 1 [(.string (.mk (.mk [])))] 16 false false)),(11,(.mk .str 1 [(.string (.mk (.mk [])))] 16 false false)),(12,(.mk (.int .u64) 1 [(.int .u64 0)] 8 false false)),(13,(.mk (.struct [(0,(9,1)),(1,(12,1))]) 2 [(.string (.mk (.mk []))),(.int .u64 0)] 24 false true)),(14,(.mk (.struct [(0,(9,1)),(1,(12,1))]) 2 [(.string (.mk (.mk []))),(.int .u64 0)] 24 false true)),(16,(.mk (.ptr 281) 1 [(.pointer .none)] 8 false false)),(22,(.mk (.slice 24 2) 1 [(.slice .none 0 0)] 24 false false)),(24,(.mk (.struct [(0,(3,1)),(1,(3,1))]) 2 [(.int .i64 0),(.int .i64 0)] 16 true true)),(25,(.mk (.int .i64) 1 [(.int .i64 0)] 8 false false)),(29,(.mk (.slice 34 5) 1 [(.slice .none 0 0)] 24 false false)),(30,(.mk (.slice 36 2) 1 [(.slice .none 0 0)] 24 false false)),(32,(.mk (.struct [(0,(29,1)),(1,(30,1)),(2,(24,2))]) 4 [(.slice .none 0 0),(.slice .none 0 0),(.int .i64 0),(.int .i64 0)] 64 true true)),(34,(.mk (.struct [(0,(9,1)),(1,(9,1)),(2,(3,1)),(3,(24,2))]) 5 [(.string (.mk (.mk []))),(.string (.mk (.mk []))),(.int .i64 0),(.int .i64 0),(.int .i64 0)] 56 true true)),(36,(.mk (.struct [(0,(3,1)),(1,(4,1))]) 2 [(.int .i64 0),(.bool false)] 16 true true)),(38,(.mk (.slice 3 1) 1 [(.slice .none 0 0)] 24 false false)),(47,(.mk (.slice 74 7) 1 [(.slice .none 0 0)] 24 false false)),(48,(.mk (.struct [(0,(47,1)),(1,(47,1))]) 2 [(.slice .none 0 0),(.slice .none 0 0)] 48 true true)),(49,(.mk (.struct [(0,(47,1)),(1,(47,1))]) 2 [(.slice .none 0 0),(.slice .none 0 0)] 48 true true)),(50,(.mk .func 1 [.nilFunc] 8 false false)),(51,(.mk (.struct [(0,(3,1)),(1,(3,1)),(2,(3,1))]) 3 [(.int .i64 0),(.int .i64 0),(.int .i64 0)] 24 true true)),(52,(.mk (.struct [(0,(3,1)),(1,(3,1)),(2,(3,1))]) 3 [(.int .i64 0),(.int .i64 0),(.int .i64 0)] 24 true true)),(54,(.mk .func 1 [.nilFunc] 8 false false)),(55,(.mk (.slice 81 3) 1 [(.slice .none 0 0)] 24 false false)),(56,(.mk (.struct [(0,(55,1)),(1,(55,1))]) 2 [(.slice .none 0 0),(.slice .none 0 0)] 48 true true)),(57,(.mk (.struct [(0,(55,1)),(1,(55,1))]) 2 [(.slice .none 0 0),(.slice .none 0 0)] 48 true true)),(59,(.mk .func 1 [.nilFunc] 8 false false)),(60,(.mk (.array 2 59 1) 2 [.nilFunc,.nilFunc] 16 false false)),(62,(.mk (.struct [(0,(32,4)),(4,(60,2))]) 6 [(.slice .none 0 0),(.slice .none 0 0),(.int .i64 0),(.int .i64 0),.nilFunc,.nilFunc] 80 true true)),(64,(.mk .func 1 [.nilFunc] 8 false false)),(65,(.mk .func 1 [.nilFunc] 8 false false)),(66,(.mk .func 1 [.nilFunc] 8 false false)),(67,(.mk .func 1 [.nilFunc] 8 false false)),(68,(.mk .func 1 [.nilFunc] 8 false false)),(69,(.mk .func 1 [.nilFunc] 8 false false)),(70,(.mk .func 1 [.nilFunc] 8 false false)),(71,(.mk (.struct [(0,(3,1)),(1,(3,1))]) 2 [(.int .i64 0),(.int .i64 0)] 16 true true)),(72,(.mk (.struct [(0,(3,1)),(1,(3,1))]) 2 [(.int .i64 0),(.int .i64 0)] 16 true true)),(73,(.mk (.struct [(0,(72,2)),(2,(24,2)),(4,(3,1)),(5,(3,1)),(6,(4,1))]) 7 [(.int .i64 0),(.int .i64 0),(.int .i64 0),(.int .i64 0),(.int .i64 0),(.int .i64 0),(.bool false)] 56 true true)),(74,(.mk (.struct [(0,(72,2)),(2,(24,2)),(4,(3,1)),(5,(3,1)),(6,(4,1))]) 7 [(.int .i64 0),(.int .i64 0),(.int .i64 0),(.int .i64 0),(.int .i64 0),(.int .i64 0),(.bool false)] 56 true true)),(78,(.mk (.slice 105 3) 1 [(.slice .none 0 0)] 24 false false)),(81,(.mk (.struct [(0,(72,2)),(2,(3,1))]) 3 [(.int .i64 0),(.int .i64 0),(.int .i64 0)] 24 true true)),(83,(.mk .func 1 [.nilFunc] 8 false false)),(84,(.mk .func 1 [.nilFunc] 8 false false)),(90,(.mk .func 1 [.nilFunc] 8 false false)),(92,(.mk (.ptr 94) 1 [(.pointer .none)] 8 false false)),(94,(.mk (.struct [(0,(25,1))]) 1 [(.int .i64 0)] 8 true true)),(97,(.mk .str 1 [(.string (.mk (.mk [])))] 16 false false)),(100,(.mk .func 1 [.nilFunc] 8 false false)),(103,(.mk (.struct [(0,(97,1)),(1,(97,1))]) 2 [(.string (.mk (.mk []))),(.string (.mk (.mk [])))] 32 true true)),(104,(.mk (.struct [(0,(103,2)),(2,(97,1))]) 3 [(.string (.mk (.mk []))),(.string (.mk (.mk []))),(.string (.mk (.mk [])))] 48 true true)),(105,(.mk (.struct [(0,(103,2)),(2,(97,1))]) 3 [(.string (.mk (.mk []))),(.string (.mk (.mk []))),(.string (.mk (.mk [])))] 48 true true)),(110,(.mk (.struct [(0,(74,7)),(7,(3,1))]) 8 [(.int .i64 0),(.int .i64 0),(.int .i64 0),(.int .i64 0),(.int .i64 0),(.int .i64 0),(.bool false),(.int .i64 0)] 64 true true)),(117,(.mk .func 1 [.nilFunc] 8 false false)),(118,(.mk .func 1 [.nilFunc] 8 false false)),(122,(.mk .str 1 [(.string (.mk (.mk [])))] 16 false false)),(125,(.mk (.ptr 145) 1 [(.pointer .none)] 8 false false)),(129,(.mk (.array 3 3 1) 3 [(.int .i64 0),(.int .i64 0),(.int .i64 0)] 24 false false)),(130,(.mk (.array 2 129 3) 6 [(.int .i64 0),(.int .i64 0),(.int .i64 0),(.int .i64 0),(.int .i64 0),(.int .i64 0)] 48 false false)),(132,(.mk (.slice 97 1) 1 [(.slice .none 0 0)] 24 false false)),(134,(.mk .func 1 [.nilFunc] 8 false false)),(136,(.mk (.struct [(0,(103,2)),(2,(103,2)),(4,(97,1))]) 5 [(.string (.mk (.mk []))),(.string (.mk (.mk []))),(.string (.mk (.mk []))),(.string (.mk (.mk []))),(.string (.mk (.mk [])))] 80 true true)),(140,(.mk .func 1 [.nilFunc] 8 false false)),(142,(.mk (.slice 122 1) 1 [(.slice .none 0 0)] 24 false false)),(145,(.mk (.struct [(0,(25,1))]) 1 [(.int .i64 0)] 8 true true)),(148,(.mk .func 1 [.nilFunc] 8 false false)),(153,(.mk .func 1 [.nilFunc] 8 false false)),(154,(.mk .func 1 [.nilFunc] 8 false false)),(177,(.mk (.ptr 190) 1 [(.pointer .none)] 8 false false)),(188,(.mk (.array 232 3 1) 232 (List.replicate 232 (.int .i64 0)) 1856 false false)),(190,(.mk (.struct [(0,(4,1)),(1,(3,1)),(2,(188,232))]) 234 (List.append [(.bool false)] (List.replicate 233 (.int .i64 0))) 1872 true true)),(229,(.mk (.int .u64) 1 [(.int .u64 0)] 8 false false)),(235,(.mk .func 1 [.nilFunc] 8 false false)),(241,(.mk (.array 20 229 1) 20 [(.int .u64 0),(.int .u64 0),(.int .u64 0),(.int .u64 0),(.int .u64 0),(.int .u64 0),(.int .u64 0),(.int .u64 0),(.int .u64 0),(.int .u64 0),(.int .u64 0),(.int .u64 0),(.int .u64 0),(.int .u64 0),(.int .u64 0),(.int .u64 0),(.int .u64 0),(.int .u64 0),(.int .u64 0),(.int .u64 0)] 160 false false)),(256,(.mk (.array 256 5 1) 256 [(.int .u8 0),(.int .u8 0),(.int .u8 0),(.int .u8 0),(.int .u8 0),(.int .u8 0),(.int .u8 0),(.int .u8 0),(.int .u8 0),(.int .u8 0),(.int .u8 0),(.int .u8 0),(.int .u8 0),(.int .u8 0),(.int .u8 0),(.int .u8 0),(.int .u8 0),(.int .u8 0),(.int .u8 0),(.int .u8 0),(.int .u8 0),(.int .u8 0),(.int .u8 0),(.int .u8 0),(.int .u8 0),(.int .u8 0),(.int .u8 0),(.int .u8 0),(.int .u8 0),(.int .u8 0),(.int .u8 0),(.int .u8 0),(.int .u8 0),(.int .u8 0),(.int .u8 0),(.int .u8 0),(.int .u8 0),(.int .u8 0),(.int .u8 0),(.int .u8 0),(.int .u8 0),(.int .u8 0),(.int .u8 0),(.int .u8 0),(.int .u8 0),(.int .u8 0),(.int .u8 0),(.int .u8 0),(.int .u8 0),(.int .u8 0),(.int .u8 0),(.int .u8 0),(.int .u8 0),(.int .u8 0),(.int .u8 0),(.int .u8 0),(.int .u8 0),(.int .u8 0),(.int .u8 0),(.int .u8 0),(.int .u8 0),(.int .u8 0),(.int .u8 0),(.int .u8 0),(.int .u8 0),(.int .u8 0),(.int .u8 0),(.int .u8 0),(.int .u8 0),(.int .u8 0),(.int .u8 0),(.int .u8 0),(.int .u8 0),(.int .u8 0),(.int .u8 0),(.int .u8 0),(.int .u8 0),(.int .u8 0),(.int .u8 0),(.int .u8 0),(.int .u8 0),(.int .u8 0),(.int .u8 0),(.int .u8 0),(.int .u8 0),(.int .u8 0),(.int .u8 0),(.int .u8 0),(.int .u8 0),(.int .u8 0),(.int .u8 0),(.int .u8 0),(.int .u8 0),(.int .u8 0),(.int .u8 0),(.int .u8 0),(.int .u8 0),(.int .u8 0),(.int .u8 0),(.int .u8 0),(.int .u8 0),(.int .u8 0),(.int .u8 0),(.int .u8 0),(.int .u8 0),(.int .u8 0),(.int .u8 0),(.int .u8 0),(.int .u8 0),(.int .u8 0),(.int .u8 0),(.int .u8 0),(.int .u8 0),(.int .u8 0),(.int .u8 0),(.int .u8 0),(.int .u8 0),(.int .u8 0),(.int .u8 0),(.int .u8 0),(.int .u8 0),(.int .u8 0),(.int .u8 0),(.int .u8 0),(.int .u8 0),(.int .u8 0),(.int .u8 0),(.int .u8 0),(.int .u8 0),(.int .u8 0),(.int .u8 0),(.int .u8 0),(.int .u8 0),(.int .u8 0),(.int .u8 0),(.int .u8 0),(.int .u8 0),(.int .u8 0),(.int .u8 0),(.int .u8 0),(.int .u8 0),(.int .u8 0),(.int .u8 0),(.int .u8 0),(.int .u8 0),(.int .u8 0),(.int .u8 0),(.int .u8 0),(.int .u8 0),(.int .u8 0),(.int .u8 0),(.int .u8 0),(.int .u8 0),(.int .u8 0),(.int .u8 0),(.int .u8 0),(.int .u8 0),(.int .u8 0),(.int .u8 0),(.int .u8 0),(.int .u8 0),(.int .u8 0),(.int .u8 0),(.int .u8 0),(.int .u8 0),(.int .u8 0),(.int .u8 0),(.int .u8 0),(.int .u8 0),(.int .u8 0),(.int .u8 0),(.int .u8 0),(.int .u8 0),(.int .u8 0),(.int .u8 0),(.int .u8 0),(.int .u8 0),(.int .u8 0),(.int .u8 0),(.int .u8 0),(.int .u8 0),(.int .u8 0),(.int .u8 0),(.int .u8 0),(.int .u8 0),(.int .u8 0),(.int .u8 0),(.int .u8 0),(.int .u8 0),(.int .u8 0),(.int .u8 0),(.int .u8 0),(.int .u8 0),(.int .u8 0),(.int .u8 0),(.int .u8 0),(.int .u8 0),(.int .u8 0),(.int .u8 0),(.int .u8 0),(.int .u8 0),(.int .u8 0),(.int .u8 0),(.int .u8 0),(.int .u8 0),(.int .u8 0),(.int .u8 0),(.int .u8 0),(.int .u8 0),(.int .u8 0),(.int .u8 0),(.int .u8 0),(.int .u8 0),(.int .u8 0),(.int .u8 0),(.int .u8 0),(.int .u8 0),(.int .u8 0),(.int .u8 0),(.int .u8 0),(.int .u8 0),(.int .u8 0),(.int .u8 0),(.int .u8 0),(.int .u8 0),(.int .u8 0),(.int .u8 0),(.int .u8 0),(.int .u8 0),(.int .u8 0),(.int .u8 0),(.int .u8 0),(.int .u8 0),(.int .u8 0),(.int .u8 0),(.int .u8 0),(.int .u8 0),(.int .u8 0),(.int .u8 0),(.int .u8 0),(.int .u8 0),(.int .u8 0),(.int .u8 0),(.int .u8 0),(.int .u8 0),(.int .u8 0),(.int .u8 0),(.int .u8 0),(.int .u8 0),(.int .u8 0),(.int .u8 0),(.int .u8 0),(.int .u8 0),(.int .u8 0),(.int .u8 0),(.int .u8 0)] 256 false false)),(279,(.mk (.array 0 16 1) 0 [] 0 false false)),(281,(.mk (.struct [(0,(279,0))]) 0 [] 0 false true))]
noncomputable def qa:List (Nat×AV):=[(1,(.eptr [.int .u64,.int .u64,.int .u64,.int .u64,.int .u64,.int .u64,.int .u64,.int .u64,.int .u64,.int .u64,.int .u64,.int .u64,.int .u64,.int .u64,.int .u64,.int .u64,.int .u64,.int .u64,.int .u64,.int .u64] [[.i 1,.i 10,.i 100,.i 1000,.i 10000,.i 100000,.i 1000000,.i 10000000,.i 100000000,.i 1000000000,.i 10000000000,.i 100000000000,.i 1000000000000,.i 10000000000000,.i 100000000000000,.i 1000000000000000,.i 10000000000000000,.i 100000000000000000,.i 1000000000000000000,.i 10000000000000000000]] 0 0)),(0,(.eptr [.int .i64,.int .i64,.int .i64,.int .i64,.int .i64,.int .i64] [[.i (-1),.i (-1),.i 1,.i 1,.i 1,.i (-1)]] 0 0))]
theorem q8:q2D.map (fun x=>qlw prog x.1)=q2D.map (·.2):=by kernel_rfl
theorem qc:prog.follows .mixedOrders=true:=by kernel_rfl
noncomputable def qe(s:List (FuncId×(List AV->List Blk->Tree (AV×List Blk))))(b:List (FuncId×Func))(l:List ((FuncId×Nat)×(St->Tree (Ex×St))))(n:Nat):Env:=⟨q2D,qa,s,b,l,n,[],[],[]⟩
def q2u:FIn:=⟨[(.int .i64)],[]⟩
def q2r:List FOut:=[⟨.bool,[],none⟩]
noncomputable def q6Q:=qe [] [(30,f30)] [] 0
noncomputable def zF:=qo q6Q 30 f30 true q2u q2r
theorem q9X:qV prog qa 30 (q9 q2u q2r zF):=sk q6Q qc q8 aln aln (b1 func30) func30
def yR:FIn:=⟨[(.agg [(.int .i64),(.int .i64)])],[]⟩
def u6:List FOut:=[⟨(.int .i64),[],none⟩]
noncomputable def q7T:=qe [(30,q9 q2u q2r zF)] [(19,f19)] [] 0
noncomputable def zV:=qo q7T 19 f19 true yR u6
theorem q0F:qV prog qa 19 (q9 yR u6 zV):=sk q7T qc q8 (alc q9X aln) aln (b1 func19) func19
def wV:FIn:=⟨[(.imm [(.int .i64),(.int .i64)])],[]⟩
def wU:List FOut:=[⟨(.int .i64),[],none⟩]
def u4:Tmpl:={ t:=(zl 14 ((.imm [(.int .i64),(.int .i64)])::(.int .i64)::(.int .i64)::zl 12 [])),h:=[] }
def yP:List Out:=[⟨(.exit 1),{ t:=(zl 29 []),h:=[] }⟩,⟨.ret,{ t:=(.any::.any::(.int .i64)::zl 26 []),h:=[] }⟩]
noncomputable def vT:=qe [(19,q9 yR u6 zV)] [(9,f9)] [] 0
noncomputable def wc:=q0G vT 9 f9 8 u4 yP
theorem q5j:qu prog qa vT.nimp (qK prog vT.iter 9) (wB f9 8) (qp u4 yP (qm wc)):=gk vT qc q8 (alc q0F aln) aln (b1 func9) func9
noncomputable def q2O:=qe [(19,q9 yR u6 zV)] [(9,f9)] [((9,8),qp u4 yP (qm wc))] 0
noncomputable def qP:=qo q2O 9 f9 true wV wU
theorem ya:qV prog qa 9 (q9 wV wU qP):=sk q2O qc q8 (alc q0F aln) (alc (lk func9 q5j) aln) (b1 func9) func9
def q2F:FIn:=⟨[(.imm [(.int .i64),(.int .i64)])],[]⟩
def q2J:List FOut:=[⟨(.tuple [(.agg [(.int .i64),(.int .i64)]),(.int .i64)]),[],none⟩]
def q0S:Tmpl:={ t:=(.any::.any::(.ptr 0 0)::.any::.any::(.ptr 1 0)::zl 8 ((.imm [(.int .i64),(.int .i64)])::(.int .i64)::(.int .i64)::zl 17 [])),h:=[.cells [(.int .i64),(.int .i64)],.cells [(.int .i64),(.int .i64)]] }
def q0I:List Out:=[⟨(.exit 0),{ t:=(.any::.any::(.ptr 0 0)::.any::.any::(.ptr 1 0)::zl 28 []),h:=[.cells [(.int .i64),(.int .i64)],.cells [(.int .i64),(.int .i64)]] }⟩]
noncomputable def yH:=qe [(9,q9 wV wU qP)] [(4,f4)] [] 0
noncomputable def wN:=q0G yH 4 f4 8 q0S q0I
theorem q8y:qu prog qa yH.nimp (qK prog yH.iter 4) (wB f4 8) (qp q0S q0I (qm wN)):=gk yH qc q8 (alc ya aln) aln (b1 func4) func4
noncomputable def q6D:=qe [(9,q9 wV wU qP)] [(4,f4)] [((4,8),qp q0S q0I (qm wN))] 0
noncomputable def jN:=qo q6D 4 f4 true q2F q2J
theorem qb1:qV prog qa 4 (q9 q2F q2J jN):=sk q6D qc q8 (alc ya aln) (alc (lk func4 q8y) aln) (b1 func4) func4
def qbc:FIn:=⟨[(.int .i64)],[]⟩
def qbl:List FOut:=[⟨.bool,[],none⟩]
noncomputable def qju:=qe [] [(58,f58)] [] 0
noncomputable def jp:=qo qju 58 f58 true qbc qbl
theorem qdi:qV prog qa 58 (q9 qbc qbl jp):=sk qju qc q8 aln aln (b1 func58) func58
def q6z:FIn:=⟨[(.int .i64)],[]⟩
def q6B:List FOut:=[⟨.bool,[],none⟩]
noncomputable def qfw:=qe [] [(59,f59)] [] 0
noncomputable def vz:=qo qfw 59 f59 true q6z q6B
theorem qaY:qV prog qa 59 (q9 q6z q6B vz):=sk qfw qc q8 aln aln (b1 func59) func59
def q0v:FIn:=⟨[(.agg [(.int .i64),(.int .i64),(.int .i64),(.int .i64),(.int .i64),(.int .i64),.bool])],[]⟩
def q0n:List FOut:=[⟨(.int .i64),[],none⟩]
noncomputable def qdo:=qe [(58,q9 qbc qbl jp),(59,q9 q6z q6B vz)] [(43,f43)] [] 0
noncomputable def vt:=qo qdo 43 f43 true q0v q0n
theorem q1l:qV prog qa 43 (q9 q0v q0n vt):=sk qdo qc q8 (alc qdi (alc qaY aln)) aln (b1 func43) func43
def q26:FIn:=⟨[(.agg [(.int .i64),(.int .i64),(.int .i64),(.int .i64),(.int .i64),(.int .i64),.bool]),(.agg [(.int .i64),(.int .i64),(.int .i64),(.int .i64),(.int .i64),(.int .i64),.bool])],[]⟩
def q28:List FOut:=[⟨(.int .i64),[],none⟩]
def q2Y:Tmpl:={ t:=(.any::.any::(.ptr 0 0)::(.ptr 1 0)::zl 6 ((.vec 2)::(.int .i64)::(.int .i64)::zl 31 [])),h:=[.cells [(.int .i64),(.int .i64),(.int .i64),(.int .i64),(.int .i64),(.int .i64),.bool],.cells [(.int .i64),(.int .i64),(.int .i64),(.int .i64),(.int .i64),(.int .i64),.bool],.vec 74 [(.int .i64),(.int .i64),(.int .i64),(.int .i64),(.int .i64),(.int .i64),.bool]] }
def q30:List Out:=[⟨(.exit 0),{ t:=(.any::.any::(.ptr 0 0)::(.ptr 1 0)::zl 40 []),h:=[.cells [(.int .i64),(.int .i64),(.int .i64),(.int .i64),(.int .i64),(.int .i64),.bool],.cells [(.int .i64),(.int .i64),(.int .i64),(.int .i64),(.int .i64),(.int .i64),.bool]] }⟩,⟨.ret,{ t:=(zl 4 ((.int .i64)::zl 39 [])),h:=[] }⟩]
noncomputable def q0h:=qe [(43,q9 q0v q0n vt)] [(42,f42)] [] 0
noncomputable def jq:=q0G q0h 42 f42 3 q2Y q30
theorem qbH:qu prog qa q0h.nimp (qK prog q0h.iter 42) (wB f42 3) (qp q2Y q30 (qm jq)):=gk q0h qc q8 (alc q1l aln) aln (b1 func42) func42
noncomputable def qa3:=qe [(43,q9 q0v q0n vt)] [(42,f42)] [((42,3),qp q2Y q30 (qm jq))] 0
noncomputable def uc:=qo qa3 42 f42 true q26 q28
theorem q6S:qV prog qa 42 (q9 q26 q28 uc):=sk qa3 qc q8 (alc q1l aln) (alc (lk func42 qbH) aln) (b1 func42) func42
def uJ:FIn:=⟨[(.agg [(.imm [(.int .i64),(.int .i64),(.int .i64),(.int .i64),(.int .i64),(.int .i64),.bool]),(.imm [(.int .i64),(.int .i64),(.int .i64),(.int .i64),(.int .i64),(.int .i64),.bool])])],[]⟩
def uS:List FOut:=[⟨(.int .i64),[],none⟩]
def q1D:Tmpl:={ t:=(.any::(.ptr 0 0)::zl 23 ((.int .i64)::(.int .i64)::zl 17 [])),h:=[.cells [(.imm [(.int .i64),(.int .i64),(.int .i64),(.int .i64),(.int .i64),(.int .i64),.bool]),(.imm [(.int .i64),(.int .i64),(.int .i64),(.int .i64),(.int .i64),(.int .i64),.bool])]] }
def q1v:List Out:=[⟨(.exit 1),{ t:=(zl 44 []),h:=[] }⟩,⟨.ret,{ t:=(.any::.any::(.int .i64)::zl 41 []),h:=[] }⟩]
noncomputable def uD:=qe [(42,q9 q26 q28 uc)] [(31,f31)] [] 0
noncomputable def jv:=q0G uD 31 f31 10 q1D q1v
theorem q9P:qu prog qa uD.nimp (qK prog uD.iter 31) (wB f31 10) (qp q1D q1v (qm jv)):=gk uD qc q8 (alc q6S aln) aln (b1 func31) func31
noncomputable def q9f:=qe [(42,q9 q26 q28 uc)] [(31,f31)] [((31,10),qp q1D q1v (qm jv))] 0
noncomputable def wR:=qo q9f 31 f31 true uJ uS
theorem q1z:qV prog qa 31 (q9 uJ uS wR):=sk q9f qc q8 (alc q6S aln) (alc (lk func31 q9P) aln) (b1 func31) func31
def qfi:FIn:=⟨[(.agg [(.int .i64),(.int .i64),(.int .i64),(.int .i64),(.int .i64),(.int .i64),.bool])],[]⟩
def qeI:List FOut:=[⟨(.agg [(.int .i64),(.int .i64),(.int .i64),(.int .i64),(.int .i64),(.int .i64),.bool,(.int .i64)]),[],none⟩]
noncomputable def qjs:=qe [] [(44,f44)] [] 0
noncomputable def q89:=qo qjs 44 f44 true qfi qeI
theorem qk2:qV prog qa 44 (q9 qfi qeI q89):=sk qjs qc q8 aln aln (b1 func44) func44
def kR:FIn:=⟨[(.agg [(.int .i64),(.int .i64),(.int .i64),(.int .i64),(.int .i64),(.int .i64),.bool,(.int .i64)]),(.int .i64)],[]⟩
def q02:List FOut:=[⟨(.int .i64),[],none⟩]
noncomputable def q42:=qe [] [(45,f45)] [] 0
noncomputable def vC:=qo q42 45 f45 true kR q02
theorem q7X:qV prog qa 45 (q9 kR q02 vC):=sk q42 qc q8 aln aln (b1 func45) func45
def q2i:FIn:=⟨[(.agg [(.int .i64),(.int .i64),(.int .i64),(.int .i64),(.int .i64),(.int .i64),.bool])],[]⟩
def q22:List FOut:=[⟨(.tuple [(.int .i64),(.int .i64)]),[],none⟩]
noncomputable def qa1:=qe [(43,q9 q0v q0n vt),(44,q9 qfi qeI q89),(45,q9 kR q02 vC)] [(32,f32)] [] 0
noncomputable def vA:=qo qa1 32 f32 true q2i q22
theorem q6M:qV prog qa 32 (q9 q2i q22 vA):=sk qa1 qc q8 (alc q1l (alc qk2 (alc q7X aln))) aln (b1 func32) func32
def q2C:FIn:=⟨[(.agg [(.imm [(.int .i64),(.int .i64),(.int .i64),(.int .i64),(.int .i64),(.int .i64),.bool]),(.imm [(.int .i64),(.int .i64),(.int .i64),(.int .i64),(.int .i64),(.int .i64),.bool])])],[]⟩
def q2k:List FOut:=[⟨(.tuple [(.imm [(.int .i64)]),(.int .i64)]),[],none⟩]
def q0P:Tmpl:={ t:=(.any::(.ptr 0 0)::.any::.any::.any::(.vec 1)::zl 12 ((.imm [(.int .i64),(.int .i64),(.int .i64),(.int .i64),(.int .i64),(.int .i64),.bool])::(.int .i64)::(.int .i64)::zl 37 [])),h:=[.cells [(.imm [(.int .i64),(.int .i64),(.int .i64),(.int .i64),(.int .i64),(.int .i64),.bool]),(.imm [(.int .i64),(.int .i64),(.int .i64),(.int .i64),(.int .i64),(.int .i64),.bool])],.vec 3 [(.int .i64)]],pro:=[(5,3,[(.int .i64)])] }
def q0A:List Out:=[⟨(.exit 0),{ t:=(zl 5 ((.vec 1)::zl 52 [])),h:=[.dead,.vec 3 [(.int .i64)]] }⟩,⟨.ret,{ t:=(.any::.any::.nils::(.int .i64)::zl 54 []),h:=[] }⟩]
noncomputable def yA:=qe [(31,q9 uJ uS wR),(32,q9 q2i q22 vA)] [(20,f20)] [] 0
noncomputable def wM:=q0G yA 20 f20 8 q0P q0A
theorem q8U:qu prog qa yA.nimp (qK prog yA.iter 20) (wB f20 8) (qp q0P q0A (qm wM)):=gk yA qc q8 (alc q1z (alc q6M aln)) aln (b1 func20) func20
noncomputable def q6H:=qe [(31,q9 uJ uS wR),(32,q9 q2i q22 vA)] [(20,f20)] [((20,8),qp q0P q0A (qm wM))] 0
noncomputable def jU:=qo q6H 20 f20 true q2C q2k
theorem qae:qV prog qa 20 (q9 q2C q2k jU):=sk q6H qc q8 (alc q1z (alc q6M aln)) (alc (lk func20 q8U) aln) (b1 func20) func20
def v8:FIn:=⟨[(.int .i64),(.int .i64)],[]⟩
def v6:List FOut:=[⟨.bool,[],none⟩]
noncomputable def q5H:=qe [] [(21,f21)] [] 0
noncomputable def zS:=qo q5H 21 f21 true v8 v6
theorem jD:qV prog qa 21 (q9 v8 v6 zS):=sk q5H qc q8 aln aln (b1 func21) func21
def qJ:FIn:=⟨[(.imm [(.int .i64)]),(.fn 21 [] [])],[]⟩
def qI:List FOut:=[⟨(.imm [(.int .i64)]),[],none⟩]
def qZ:Tmpl:={ t:=(.any::(.fn 21 [] [])::.any::.any::.any::(.vec 0)::.any::.any::(.imm [(.int .i64)])::(.int .i64)::(.int .i64)::zl 14 []),h:=[.vec 3 [(.int .i64)]],pro:=[(5,3,[(.int .i64)])] }
def qX:List Out:=[⟨(.exit 0),{ t:=(zl 5 ((.vec 0)::zl 19 [])),h:=[.vec 3 [(.int .i64)]] }⟩]
noncomputable def qD:=qe [(21,q9 v8 v6 zS)] [(17,f17)] [] 0
noncomputable def ql:=q0G qD 17 f17 4 qZ qX
theorem yw:qu prog qa qD.nimp (qK prog qD.iter 17) (wB f17 4) (qp qZ qX (qm ql)):=gk qD qc q8 (alc jD aln) aln (b1 func17) func17
noncomputable def wW:=qe [(21,q9 v8 v6 zS)] [(17,f17)] [((17,4),qp qZ qX (qm ql))] 0
noncomputable def qg:=qo wW 17 f17 true qJ qI
theorem wt:qV prog qa 17 (q9 qJ qI qg):=sk wW qc q8 (alc jD aln) (alc (lk func17 yw) aln) (b1 func17) func17
def q5Y:FIn:=⟨[(.agg [(.imm [(.int .i64),(.int .i64),(.int .i64),(.int .i64),(.int .i64),(.int .i64),.bool]),(.imm [(.int .i64),(.int .i64),(.int .i64),(.int .i64),(.int .i64),(.int .i64),.bool])])],[]⟩
def q5W:List FOut:=[⟨(.tuple [.bool,(.int .i64)]),[],none⟩]
noncomputable def qaC:=qe [(20,q9 q2C q2k jU),(21,q9 v8 v6 zS),(17,q9 qJ qI qg)] [(10,f10)] [] 0
noncomputable def kZ:=qo qaC 10 f10 true q5Y q5W
theorem qdN:qV prog qa 10 (q9 q5Y q5W kZ):=sk qaC qc q8 (alc qae (alc jD (alc wt aln))) aln (b1 func10) func10
def qcq:FIn:=⟨[],[]⟩
def qcZ:List FOut:=[⟨(.agg [(.imm [(.int .i64),(.int .i64),(.int .i64),(.int .i64),(.int .i64),(.int .i64),.bool]),(.imm [(.int .i64),(.int .i64),(.int .i64),(.int .i64),(.int .i64),(.int .i64),.bool])]),[],none⟩]
def q96:Tmpl:={ t:=((.ptr 0 0)::(.ptr 1 0)::.any::.any::.any::(.vec 2)::(.int .i64)::(.int .i64)::zl 24 []),h:=[.cells [.nils,.nils],.cells [(.vec 3),(.vec 4)],.vec 3 [(.int .i64)],.vec 74 [(.int .i64),(.int .i64),(.int .i64),(.int .i64),(.int .i64),(.int .i64),.bool],.vec 74 [(.int .i64),(.int .i64),(.int .i64),(.int .i64),(.int .i64),(.int .i64),.bool]],prc:=[(1,0,74,[(.int .i64),(.int .i64),(.int .i64),(.int .i64),(.int .i64),(.int .i64),.bool]),(1,1,74,[(.int .i64),(.int .i64),(.int .i64),(.int .i64),(.int .i64),(.int .i64),.bool])] }
def q8P:List Out:=[⟨(.exit 0),{ t:=((.ptr 0 0)::(.ptr 1 0)::zl 30 []),h:=[.cells [.nils,.nils],.cells [(.vec 3),(.vec 4)],.dead,.vec 74 [(.int .i64),(.int .i64),(.int .i64),(.int .i64),(.int .i64),(.int .i64),.bool],.vec 74 [(.int .i64),(.int .i64),(.int .i64),(.int .i64),(.int .i64),(.int .i64),.bool]] }⟩]
noncomputable def q55:=qe [] [(11,f11)] [] 0
noncomputable def q0w:=q0G q55 11 f11 4 q96 q8P
theorem qgc:qu prog qa q55.nimp (qK prog q55.iter 11) (wB f11 4) (qp q96 q8P (qm q0w)):=gk q55 qc q8 aln aln (b1 func11) func11
noncomputable def qi6:=qe [] [(11,f11)] [((11,4),qp q96 q8P (qm q0w))] 0
noncomputable def q5R:=qo qi6 11 f11 true qcq qcZ
theorem qiH:qV prog qa 11 (q9 qcq qcZ q5R):=sk qi6 qc q8 aln (alc (lk func11 qgc) aln) (b1 func11) func11
def qaN:FIn:=⟨[(.agg [(.int .i64),(.int .i64),(.int .i64)])],[]⟩
def qaP:List FOut:=[⟨(.int .i64),[],none⟩]
noncomputable def qfu:=qe [(58,q9 qbc qbl jp),(59,q9 q6z q6B vz)] [(60,f60)] [] 0
noncomputable def q3L:=qo qfu 60 f60 true qaN qaP
theorem qi5:qV prog qa 60 (q9 qaN qaP q3L):=sk qfu qc q8 (alc qdi (alc qaY aln)) aln (b1 func60) func60
def qaU:FIn:=⟨[(.agg [(.int .i64),(.int .i64),(.int .i64),(.int .i64),(.int .i64),(.int .i64),.bool]),(.agg [(.int .i64),(.int .i64),(.int .i64)])],[]⟩
def q9U:List FOut:=[⟨(.int .i64),[],none⟩]
noncomputable def qfy:=qe [(43,q9 q0v q0n vt),(60,q9 qaN qaP q3L)] [(46,f46)] [] 0
noncomputable def q01:=qo qfy 46 f46 true qaU q9U
theorem qik:qV prog qa 46 (q9 qaU q9U q01):=sk qfy qc q8 (alc q1l (alc qi5 aln)) aln (b1 func46) func46
def qcT:FIn:=⟨[(.agg [(.int .i64),(.int .i64),(.int .i64),(.int .i64),(.int .i64),(.int .i64),.bool]),(.agg [(.int .i64),(.int .i64),(.int .i64)])],[]⟩
def qcW:List FOut:=[⟨(.tuple [(.int .i64),(.int .i64)]),[],none⟩]
noncomputable def qih:=qe [] [(47,f47)] [] 0
noncomputable def q91:=qo qih 47 f47 true qcT qcW
theorem qix:qV prog qa 47 (q9 qcT qcW q91):=sk qih qc q8 aln aln (b1 func47) func47
def q4o:FIn:=⟨[(.agg [(.int .i64),(.int .i64),(.int .i64),(.int .i64),(.int .i64),(.int .i64),.bool]),(.agg [(.int .i64),(.int .i64),(.int .i64)])],[]⟩
def q4q:List FOut:=[⟨(.tuple [(.int .i64),(.int .i64)]),[],none⟩]
noncomputable def q9v:=qe [(46,q9 qaU q9U q01),(47,q9 qcT qcW q91)] [(33,f33)] [] 0
noncomputable def z7:=qo q9v 33 f33 true q4o q4q
theorem qd1:qV prog qa 33 (q9 q4o q4q z7):=sk q9v qc q8 (alc qik (alc qix aln)) aln (b1 func33) func33
def q2T:FIn:=⟨[(.agg [(.int .i64),(.int .i64),(.int .i64),(.int .i64),(.int .i64),(.int .i64),.bool]),(.agg [(.int .i64),(.int .i64),(.int .i64)])],[]⟩
def q33:List FOut:=[⟨.bool,[],none⟩]
noncomputable def q7K:=qe [] [(34,f34)] [] 0
noncomputable def w9:=qo q7K 34 f34 true q2T q33
theorem qbO:qV prog qa 34 (q9 q2T q33 w9):=sk q7K qc q8 aln aln (b1 func34) func34
def q3t:FIn:=⟨[(.agg [(.imm [(.int .i64),(.int .i64),(.int .i64),(.int .i64),(.int .i64),(.int .i64),.bool]),(.imm [(.int .i64),(.int .i64),(.int .i64),(.int .i64),(.int .i64),(.int .i64),.bool])]),(.agg [(.imm [(.int .i64),(.int .i64),(.int .i64)]),(.imm [(.int .i64),(.int .i64),(.int .i64)])])],[]⟩
def q37:List FOut:=[⟨(.int .i64),[],none⟩]
def q0L:Tmpl:={ t:=(.any::.any::(.ptr 0 0)::(.ptr 1 0)::zl 30 ((.int .i64)::(.int .i64)::zl 63 [])),h:=[.cells [(.imm [(.int .i64),(.int .i64),(.int .i64),(.int .i64),(.int .i64),(.int .i64),.bool]),(.imm [(.int .i64),(.int .i64),(.int .i64),(.int .i64),(.int .i64),(.int .i64),.bool])],.cells [(.imm [(.int .i64),(.int .i64),(.int .i64)]),(.imm [(.int .i64),(.int .i64),(.int .i64)])]] }
def q0K:List Out:=[⟨(.exit 0),{ t:=(zl 99 []),h:=[] }⟩,⟨.ret,{ t:=(zl 4 ((.int .i64)::zl 94 [])),h:=[] }⟩]
noncomputable def q2b:List (FuncId×wk):=[(31,q9 uJ uS wR),(33,q9 q4o q4q z7),(34,q9 q2T q33 w9)]
theorem q5S:∀x,x∈q2b->qV prog qa x.1 x.2:=(alc q1z (alc qd1 (alc qbO aln)))
noncomputable def yG:=qe q2b [(22,f22)] [] 0
noncomputable def j5:=q0G yG 22 f22 10 q0L q0K
theorem q8q:qu prog qa yG.nimp (qK prog yG.iter 22) (wB f22 10) (qp q0L q0K (qm j5)):=gk yG qc q8 q5S aln (b1 func22) func22
noncomputable def q7M:=qe q2b [(22,f22)] [((22,10),qp q0L q0K (qm j5))] 0
noncomputable def yQ:=qo q7M 22 f22 true q3t q37
theorem qbG:qV prog qa 22 (q9 q3t q37 yQ):=sk q7M qc q8 q5S (alc (lk func22 q8q) aln) (b1 func22) func22
def q1p:FIn:=⟨[(.agg [(.imm [(.int .i64),(.int .i64),(.int .i64),(.int .i64),(.int .i64),(.int .i64),.bool]),(.imm [(.int .i64),(.int .i64),(.int .i64),(.int .i64),(.int .i64),(.int .i64),.bool])]),(.agg [(.imm [(.int .i64),(.int .i64),(.int .i64)]),(.imm [(.int .i64),(.int .i64),(.int .i64)])])],[]⟩
def q1k:List FOut:=[⟨(.imm [(.int .i64)]),[],none⟩]
def q2B:Tmpl:={ t:=(.any::.any::.any::(.ptr 1 0)::.any::(.vec 2)::zl 4 ((.imm [(.int .i64),(.int .i64),(.int .i64),(.int .i64),(.int .i64),(.int .i64),.bool])::(.int .i64)::(.int .i64)::zl 27 [])),h:=[.dead,.cells [(.imm [(.int .i64),(.int .i64),(.int .i64)]),(.imm [(.int .i64),(.int .i64),(.int .i64)])],.vec 3 [(.int .i64)]],pro:=[(5,3,[(.int .i64)])] }
def q2f:List Out:=[⟨(.exit 0),{ t:=(zl 5 ((.vec 2)::zl 34 [])),h:=[.dead,.dead,.vec 3 [(.int .i64)]] }⟩]
noncomputable def ku:=qe [] [(23,f23)] [] 0
noncomputable def vJ:=q0G ku 23 f23 4 q2B q2f
theorem qb2:qu prog qa ku.nimp (qK prog ku.iter 23) (wB f23 4) (qp q2B q2f (qm vJ)):=gk ku qc q8 aln aln (b1 func23) func23
noncomputable def q9o:=qe [] [(23,f23)] [((23,4),qp q2B q2f (qm vJ))] 0
noncomputable def vX:=qo q9o 23 f23 true q1p q1k
theorem q5p:qV prog qa 23 (q9 q1p q1k vX):=sk q9o qc q8 aln (alc (lk func23 qb2) aln) (b1 func23) func23
def zo:FIn:=⟨[.str,.str],[]⟩
def zp:List FOut:=[⟨.bool,[],none⟩]
noncomputable def yt:=qe [] [(122,f122)] [] 0
noncomputable def qv:=qo yt 122 f122 true zo zp
theorem jz:qV prog qa 122 (q9 zo zp qv):=sk yt qc q8 aln aln (b1 func122) func122
def wz:FIn:=⟨[.str,.str],[]⟩
def wy:List FOut:=[⟨.str,[],none⟩]
noncomputable def jQ:=qe [(122,q9 zo zp qv)] [(114,f114)] [] 0
noncomputable def qN:=qo jQ 114 f114 true wz wy
theorem q1h:qV prog qa 114 (q9 wz wy qN):=sk jQ qc q8 (alc jz aln) aln (b1 func114) func114
def j1:FIn:=⟨[.str,.str],[]⟩
def j3:List FOut:=[⟨.str,[],none⟩]
noncomputable def q4v:=qe [(114,q9 wz wy qN)] [(88,f88)] [] 0
noncomputable def qL:=qo q4v 88 f88 true j1 j3
theorem uG:qV prog qa 88 (q9 j1 j3 qL):=sk q4v qc q8 (alc q1h aln) aln (b1 func88) func88
def qc0:FIn:=⟨[.str,.str],[]⟩
def qcb:List FOut:=[⟨.str,[],none⟩]
noncomputable def q3F:List PV->TR:=qr3
set_option maxRecDepth 100000 in
theorem qeK:qV prog qa 89 (q9 qc0 qcb q3F):=qpI lays160 (yS func89 (by kernel_rfl) (by kernel_rfl)) (by kernel_rfl)
def vk:FIn:=⟨[.str],[]⟩
def vl:List FOut:=[⟨(.int .i64),[],none⟩]
noncomputable def qdm:=qe [(88,q9 j1 j3 qL),(89,q9 qc0 qcb q3F)] [(68,f68)] [] 0
noncomputable def qy:=qo qdm 68 f68 true vk vl
theorem wO:qV prog qa 68 (q9 vk vl qy):=sk qdm qc q8 (alc uG (alc qeK aln)) aln (b1 func68) func68
def kz:FIn:=⟨[.str,.str],[]⟩
def ky:List FOut:=[⟨(.int .i64),[],none⟩]
noncomputable def wi:List PV->TR:=qm1
set_option maxRecDepth 100000 in
theorem q3p:qV prog qa 154 (q9 kz ky wi):=qnH lays219 (yS func154 (by kernel_rfl) (by kernel_rfl))
def jH:FIn:=⟨[.str,.str],[]⟩
def jI:List FOut:=[⟨(.tuple [.str,.str,.bool]),[],none⟩]
noncomputable def q0z:=qe [(154,q9 kz ky wi)] [(126,f126)] [] 0
noncomputable def zB:=qo q0z 126 f126 true jH jI
theorem q4k:qV prog qa 126 (q9 jH jI zB):=sk q0z qc q8 (alc q3p aln) aln (b1 func126) func126
def q8v:FIn:=⟨[.str,.str],[]⟩
def q8B:List FOut:=[⟨(.tuple [.str,.str,.bool]),[],none⟩]
noncomputable def qel:=qe [(126,q9 jH jI zB)] [(95,f95)] [] 0
noncomputable def q25:=qo qel 95 f95 true q8v q8B
theorem qfZ:qV prog qa 95 (q9 q8v q8B q25):=sk qel qc q8 (alc q4k aln) aln (b1 func95) func95
def kO:FIn:=⟨[.str],[]⟩
def kJ:List FOut:=[⟨(.tuple [.str,.str,.bool]),[],none⟩]
noncomputable def qi3:=qe [(95,q9 q8v q8B q25)] [(72,f72)] [] 0
noncomputable def qA:=qo qi3 72 f72 true kO kJ
theorem kg:qV prog qa 72 (q9 kO kJ qA):=sk qi3 qc q8 (alc qfZ aln) aln (b1 func72) func72
def kK:FIn:=⟨[(.imm [.str])],[]⟩
def q05:List FOut:=[⟨(.int .i64),[],none⟩]
def q8H:Tmpl:={ t:=(zl 6 ((.imm [.str])::(.int .i64)::(.int .i64)::zl 9 [])),h:=[] }
def q8Z:List Out:=[⟨(.exit 0),{ t:=(zl 18 []),h:=[] }⟩,⟨.ret,{ t:=(.any::.any::(.int .i64)::zl 15 []),h:=[] }⟩]
noncomputable def q53:=qe [(68,q9 vk vl qy)] [(96,f96)] [] 0
noncomputable def q2c:=q0G q53 96 f96 3 q8H q8Z
theorem qgb:qu prog qa q53.nimp (qK prog q53.iter 96) (wB f96 3) (qp q8H q8Z (qm q2c)):=gk q53 qc q8 (alc wO aln) aln (b1 func96) func96
noncomputable def qhB:=qe [(68,q9 vk vl qy)] [(96,f96)] [((96,3),qp q8H q8Z (qm q2c))] 0
noncomputable def zC:=qo qhB 96 f96 true kK q05
theorem kf:qV prog qa 96 (q9 kK q05 zC):=sk qhB qc q8 (alc wO aln) (alc (lk func96 qgb) aln) (b1 func96) func96
def q3X:FIn:=⟨[.str],[]⟩
def q3R:List FOut:=[⟨(.int .i64),[],none⟩]
noncomputable def qfC:=qe [] [(106,f106)] [] 0
noncomputable def jm:=qo qfC 106 f106 true q3X q3R
theorem q5n:qV prog qa 106 (q9 q3X q3R jm):=sk qfC qc q8 aln aln (b1 func106) func106
def q7I:FIn:=⟨[.str,.str],[]⟩
def q88:List FOut:=[⟨(.int .i64),[],none⟩]
noncomputable def q0o:List PV->TR:=qgm
set_option maxRecDepth 100000 in
theorem qbM:qV prog qa 133 (q9 q7I q88 q0o):=qkx lays106 (yS func133 (by kernel_rfl) (by kernel_rfl))
def q98:FIn:=⟨[.str,.str],[]⟩
def q8M:List FOut:=[⟨(.int .i64),[],none⟩]
noncomputable def qdb:=qe [(133,q9 q7I q88 q0o)] [(107,f107)] [] 0
noncomputable def q2L:=qo qdb 107 f107 true q98 q8M
theorem qg3:qV prog qa 107 (q9 q98 q8M q2L):=sk qdb qc q8 (alc qbM aln) aln (b1 func107) func107
def q65:FIn:=⟨[.str,.str],[]⟩
def q61:List FOut:=[⟨(.tuple [(.int .i64),(.int .i64)]),[],none⟩]
noncomputable def qaF:=qe [(88,q9 j1 j3 qL),(96,q9 kK q05 zC),(106,q9 q3X q3R jm),(107,q9 q98 q8M q2L)] [(77,f77)] [] 0
noncomputable def kQ:=qo qaF 77 f77 true q65 q61
theorem qdF:qV prog qa 77 (q9 q65 q61 kQ):=sk qaF qc q8 (alc uG (alc kf (alc q5n (alc qg3 aln)))) aln (b1 func77) func77
def qbQ:FIn:=⟨[(.int .i64)],[]⟩
def qbS:List FOut:=[⟨.str,[],none⟩]
noncomputable def q13:List PV->TR:=qst
set_option maxRecDepth 100000 in
theorem qeE:qV prog qa 70 (q9 qbQ qbS q13):=qqm laysM171 (yS func70 (by kernel_rfl) (by kernel_rfl)) (by kernel_rfl) (by unfold qa;exact qxM)
def q3r:FIn:=⟨[(.int .i64)],[]⟩
def q3w:List FOut:=[⟨.str,[],none⟩]
noncomputable def qjc:=qe [(70,q9 qbQ qbS q13)] [(52,f52)] [] 0
noncomputable def zh:=qo qjc 52 f52 true q3r q3w
theorem q2H:qV prog qa 52 (q9 q3r q3w zh):=sk qjc qc q8 (alc qeE aln) aln (b1 func52) func52
def q7f:FIn:=⟨[.str],[]⟩
def q7a:List FOut:=[⟨(.tuple [(.int .i64),.any]),[],none⟩]
noncomputable def vo:List PV->TR:=qse
set_option maxRecDepth 100000 in
theorem q7R:qV prog qa 127 (q9 q7f q7a vo):=qq9 lays172 (yS func127 (by kernel_rfl) (by kernel_rfl))
def wK:FIn:=⟨[(.ptr 0 0)],[.big [.bool,(.int .i64)] .i64 232]⟩
def wF:List FOut:=[⟨(.ptr 0 0),[.big [.bool,(.int .i64)] .i64 232],none⟩]
def ko:Tmpl:={ t:=((.ptr 0 0)::zl 28 []),h:=[.big [.bool,(.int .i64)] .i64 232] }
def kp:List Out:=[⟨(.exit 0),{ t:=((.ptr 0 0)::zl 28 []),h:=[.big [.bool,(.int .i64)] .i64 232] }⟩]
noncomputable def jF:=qe [] [(128,f128)] [] 1
noncomputable def wX:=q0G jF 128 f128 2 ko kp
theorem q6W:qu prog qa jF.nimp (qK prog jF.iter 128) (wB f128 2) (qp ko kp (qm wX)):=gk jF qc q8 aln aln (b1 func128) func128
noncomputable def q4y:=qe [] [(128,f128)] [((128,2),qp ko kp (qm wX))] 1
noncomputable def qB:=qo q4y 128 f128 false wK wF
theorem jd:qV prog qa 128 (q9 wK wF qB):=qib (E:=q4y) qc ⟨q5D q8,⟨aln,aln⟩,(alc (lk func128 q6W) aln),(b1 func128)⟩ func128 (by kernel_rfl) (by kernel_rfl) (fun _=>rfl)
def q1X:FIn:=⟨[.str],[]⟩
def q1V:List FOut:=[⟨(.ptr 0 0),[.big [.bool,(.int .i64)] .i64 232],none⟩]
def q7v:Tmpl:={ t:=(.any::.any::.any::.str::(.ptr 0 0)::zl 43 []),h:=[.big [.bool,(.int .i64)] .i64 232] }
def q7h:List Out:=[⟨(.exit 0),{ t:=(zl 4 ((.ptr 0 0)::zl 43 [])),h:=[.big [.bool,(.int .i64)] .i64 232] }⟩]
noncomputable def q8L:List (FuncId×wk):=[(88,q9 j1 j3 qL),(127,q9 q7f q7a vo),(128,q9 wK wF qB)]
theorem qcc:∀x,x∈q8L->qV prog qa x.1 x.2:=(alc uG (alc q7R (alc jd aln)))
noncomputable def q3D:=qe q8L [(99,f99)] [] 0
noncomputable def q1j:=q0G q3D 99 f99 5 q7v q7h
theorem qeZ:qu prog qa q3D.nimp (qK prog q3D.iter 99) (wB f99 5) (qp q7v q7h (qm q1j)):=gk q3D qc q8 qcc aln (b1 func99) func99
noncomputable def qfH:=qe q8L [(99,f99)] [((99,5),qp q7v q7h (qm q1j))] 0
noncomputable def zI:=qo qfH 99 f99 false q1X q1V
theorem q2l:qV prog qa 99 (q9 q1X q1V zI):=qib (E:=qfH) qc ⟨q5D q8,⟨qcc,aln⟩,(alc (lk func99 qeZ) aln),(b1 func99)⟩ func99 (by kernel_rfl) (by kernel_rfl) (fun _=>rfl)
def vK:FIn:=⟨[(.ptr 0 0),(.ptr 1 0),(.int .i64),(.int .i64)],[.big [.bool,(.int .i64)] .i64 232,.big [.bool,(.int .i64)] .i64 232]⟩
def vF:List FOut:=[⟨(.tuple []),[.big [.bool,(.int .i64)] .i64 232,.big [.bool,(.int .i64)] .i64 232],none⟩]
def q0T:Tmpl:={ t:=((.ptr 0 0)::(.ptr 1 0)::(.int .i64)::(.int .i64)::zl 4 ((.int .i64)::(.int .i64)::zl 73 [])),h:=[.big [.bool,(.int .i64)] .i64 232,.big [.bool,(.int .i64)] .i64 232] }
def q0H:List Out:=[⟨(.exit 0),{ t:=((.ptr 0 0)::zl 82 []),h:=[.big [.bool,(.int .i64)] .i64 232,.big [.bool,(.int .i64)] .i64 232] }⟩]
noncomputable def yx:=qe [(128,q9 wK wF qB)] [(129,f129)] [] 2
noncomputable def wI:=q0G yx 129 f129 3 q0T q0H
theorem q8S:qu prog qa yx.nimp (qK prog yx.iter 129) (wB f129 3) (qp q0T q0H (qm wI)):=gk yx qc q8 (alc jd aln) aln (b1 func129) func129
noncomputable def q6A:=qe [(128,q9 wK wF qB)] [(129,f129)] [((129,3),qp q0T q0H (qm wI))] 2
noncomputable def qH:=qo q6A 129 f129 true vK vF
theorem jM:qV prog qa 129 (q9 vK vF qH):=sk q6A qc q8 (alc jd aln) (alc (lk func129 q8S) aln) (b1 func129) func129
def ur:FIn:=⟨[(.ptr 0 0),(.ptr 1 0)],[.big [.bool,(.int .i64)] .i64 232,.big [.bool,(.int .i64)] .i64 232]⟩
def uo:List FOut:=[⟨(.int .i64),[.big [.bool,(.int .i64)] .i64 232,.big [.bool,(.int .i64)] .i64 232],none⟩]
def kI:Tmpl:={ t:=((.ptr 0 0)::(.ptr 1 0)::.any::.any::.any::(.int .i64)::zl 53 []),h:=[.big [.bool,(.int .i64)] .i64 232,.big [.bool,(.int .i64)] .i64 232] }
def q04:List Out:=[⟨(.exit 0),{ t:=(zl 59 []),h:=[.big [.bool,(.int .i64)] .i64 232,.big [.bool,(.int .i64)] .i64 232] }⟩,⟨.ret,{ t:=(zl 4 ((.int .i64)::zl 54 [])),h:=[.big [.bool,(.int .i64)] .i64 232,.big [.bool,(.int .i64)] .i64 232] }⟩]
noncomputable def jS:=qe [] [(134,f134)] [] 2
noncomputable def vB:=q0G jS 134 f134 6 kI q04
theorem q7N:qu prog qa jS.nimp (qK prog jS.iter 134) (wB f134 6) (qp kI q04 (qm vB)):=gk jS qc q8 aln aln (b1 func134) func134
noncomputable def q60:=qe [] [(134,f134)] [((134,6),qp kI q04 (qm vB))] 2
noncomputable def zT:=qo q60 134 f134 true ur uo
theorem q2P:qV prog qa 134 (q9 ur uo zT):=sk q60 qc q8 aln (alc (lk func134 q7N) aln) (b1 func134) func134
def q4a:FIn:=⟨[(.ptr 0 0),(.ptr 1 0)],[.big [.bool,(.int .i64)] .i64 232,.big [.bool,(.int .i64)] .i64 232]⟩
def q4p:List FOut:=[⟨(.int .i64),[.big [.bool,(.int .i64)] .i64 232,.big [.bool,(.int .i64)] .i64 232],none⟩]
noncomputable def q9z:=qe [] [(135,f135),(160,f160)] [] 2
noncomputable def uQ:=qo q9z 135 f135 true q4a q4p
theorem qcL:qV prog qa 135 (q9 q4a q4p uQ):=sk q9z qc q8 aln aln (alc (bk func135) (alc (bk func160) aln)) func135
def q2q:FIn:=⟨[(.ptr 0 0),(.ptr 1 0)],[.big [.bool,(.int .i64)] .i64 232,.big [.bool,(.int .i64)] .i64 232]⟩
def q27:List FOut:=[⟨(.tuple [(.ptr 2 0),(.ptr 3 0)]),[.big [.bool,(.int .i64)] .i64 232,.big [.bool,(.int .i64)] .i64 232,.big [.bool,(.int .i64)] .i64 232,.big [.bool,(.int .i64)] .i64 232],none⟩]
def q21:Tmpl:={ t:=((.ptr 0 0)::(.ptr 1 0)::zl 4 ((.ptr 2 0)::(.ptr 3 0)::(.int .i64)::(.int .i64)::zl 80 [])),h:=[.big [.bool,(.int .i64)] .i64 232,.big [.bool,(.int .i64)] .i64 232,.big [.bool,(.int .i64)] .i64 232,.big [.bool,(.int .i64)] .i64 232] }
def q2E:List Out:=[⟨(.exit 2),{ t:=((.ptr 0 0)::(.ptr 1 0)::zl 4 ((.ptr 2 0)::(.ptr 3 0)::(.int .i64)::(.int .i64)::zl 80 [])),h:=[.big [.bool,(.int .i64)] .i64 232,.big [.bool,(.int .i64)] .i64 232,.big [.bool,(.int .i64)] .i64 232,.big [.bool,(.int .i64)] .i64 232] }⟩]
noncomputable def q1r:List (FuncId×wk):=[(128,q9 wK wF qB),(129,q9 vK vF qH),(134,q9 ur uo zT),(135,q9 q4a q4p uQ)]
theorem q3o:∀x,x∈q1r->qV prog qa x.1 x.2:=(alc jd (alc jM (alc q2P (alc qcL aln))))
noncomputable def kx:=qe q1r [(108,f108)] [] 2
noncomputable def vN:=q0G kx 108 f108 14 q21 q2E
theorem qb7:qu prog qa kx.nimp (qK prog kx.iter 108) (wB f108 14) (qp q21 q2E (qm vN)):=gk kx qc q8 q3o aln (b1 func108) func108
def q3b:Tmpl:={ t:=((.ptr 0 0)::(.ptr 1 0)::zl 4 ((.ptr 2 0)::(.ptr 3 0)::(.int .i64)::zl 81 [])),h:=[.big [.bool,(.int .i64)] .i64 232,.big [.bool,(.int .i64)] .i64 232,.big [.bool,(.int .i64)] .i64 232,.big [.bool,(.int .i64)] .i64 232] }
def q3f:List Out:=[⟨(.exit 0),{ t:=(zl 6 ((.ptr 2 0)::(.ptr 3 0)::zl 82 [])),h:=[.big [.bool,(.int .i64)] .i64 232,.big [.bool,(.int .i64)] .i64 232,.big [.bool,(.int .i64)] .i64 232,.big [.bool,(.int .i64)] .i64 232] }⟩]
noncomputable def q0l:=qe q1r [(108,f108)] [((108,14),qp q21 q2E (qm vN))] 2
noncomputable def u9:=q0G q0l 108 f108 4 q3b q3f
theorem qbP:qu prog qa q0l.nimp (qK prog q0l.iter 108) (wB f108 4) (qp q3b q3f (qm u9)):=gk q0l qc q8 q3o (alc (lk func108 qb7) aln) (b1 func108) func108
noncomputable def q9Q:=qe q1r [(108,f108)] [((108,4),qp q3b q3f (qm u9))] 2
noncomputable def jt:=qo q9Q 108 f108 false q2q q27
theorem q6E:qV prog qa 108 (q9 q2q q27 jt):=qib (E:=q9Q) qc ⟨q5D q8,⟨q3o,aln⟩,(alc (lk func108 qbP) aln),(b1 func108)⟩ func108 (by kernel_rfl) (by kernel_rfl) (fun _=>rfl)
def q0u:FIn:=⟨[(.ptr 0 0)],[.big [.bool,(.int .i64)] .i64 232]⟩
def q08:List FOut:=[⟨.str,[.big [.bool,(.int .i64)] .i64 232],none⟩]
noncomputable def qR:List PV->TR:=qs1
theorem q0E:qV prog qa 109 (q9 q0u q08 qR):=qqo (by unfold qa;exact qxM)
def q5s:FIn:=⟨[.str,.str],[]⟩
def q6b:List FOut:=[⟨(.tuple [.str,(.int .i64)]),[],none⟩]
def q75:Tmpl:={ t:=(zl 9 ((.int .i64)::(.int .i64)::zl 61 [])),h:=[] }
def q7t:List Out:=[⟨(.exit 2),{ t:=(zl 9 ((.int .i64)::zl 62 [])),h:=[] }⟩]
noncomputable def q6N:List (FuncId×wk):=[(52,q9 q3r q3w zh),(96,q9 kK q05 zC),(99,q9 q1X q1V zI),(108,q9 q2q q27 jt),(109,q9 q0u q08 qR)]
theorem q8F:∀x,x∈q6N->qV prog qa x.1 x.2:=(alc q2H (alc kf (alc q2l (alc q6E (alc q0E aln)))))
noncomputable def q3C:=qe q6N [(78,f78)] [] 0
noncomputable def uZ:=q0G q3C 78 f78 14 q75 q7t
theorem qeu:qu prog qa q3C.nimp (qK prog q3C.iter 78) (wB f78 14) (qp q75 q7t (qm uZ)):=gk q3C qc q8 q8F aln (b1 func78) func78
def q8G:Tmpl:={ t:=(zl 7 ((.ptr 1 0)::(.ptr 2 0)::zl 63 [])),h:=[.dead,.big [.bool,(.int .i64)] .i64 232,.big [.bool,(.int .i64)] .i64 232],sw:=[(7,1),(8,2)],swn:=0 }
def q8V:List Out:=[⟨(.exit 0),{ t:=(zl 7 ((.ptr 1 0)::zl 64 [])),h:=[.dead,.big [.bool,(.int .i64)] .i64 232] }⟩,⟨.ret,{ t:=(zl 4 (.str::(.int .i64)::zl 66 [])),h:=[] }⟩]
noncomputable def q54:=qe q6N [(78,f78)] [((78,14),qp q75 q7t (qm uZ))] 0
noncomputable def q2p:=q0G q54 78 f78 7 q8G q8V
theorem qfW:qu prog qa q54.nimp (qK prog q54.iter 78) (wB f78 7) (qp q8G q8V (qm q2p)):=gk q54 qc q8 q8F (alc (lk func78 qeu) aln) (b1 func78) func78
noncomputable def qhg:=qe q6N [(78,f78)] [((78,7),qp q8G q8V (qm q2p))] 0
noncomputable def kY:=qo qhg 78 f78 true q5s q6b
theorem q7s:qV prog qa 78 (q9 q5s q6b kY):=sk qhg qc q8 q8F (alc (lk func78 qfW) aln) (b1 func78) func78
def q0r:FIn:=⟨[.str],[]⟩
def q0a:List FOut:=[⟨(.int .i64),[],none⟩]
noncomputable def qdu:=qe [(68,q9 vk vl qy),(72,q9 kO kJ qA),(77,q9 q65 q61 kQ),(78,q9 q5s q6b kY)] [(61,f61)] [] 0
noncomputable def wD:=qo qdu 61 f61 true q0r q0a
theorem q1u:qV prog qa 61 (q9 q0r q0a wD):=sk qdu qc q8 (alc wO (alc kg (alc qdF (alc q7s aln)))) aln (b1 func61) func61
def q4L:FIn:=⟨[(.agg [.str,.str,.str])],[]⟩
def q4D:List FOut:=[⟨(.int .i64),[],none⟩]
def q5v:Tmpl:={ t:=(.any::(.ptr 0 0)::zl 12 ((.vec 1)::(.int .i64)::(.int .i64)::zl 13 [])),h:=[.cells [.str,.str,.str],.vec 97 [.str]] }
def q5x:List Out:=[⟨(.exit 0),{ t:=(.any::(.ptr 0 0)::zl 28 []),h:=[.cells [.str,.str,.str]] }⟩,⟨.ret,{ t:=(.any::.any::(.int .i64)::zl 27 []),h:=[] }⟩]
noncomputable def q2d:=qe [(61,q9 q0r q0a wD)] [(48,f48)] [] 0
noncomputable def q03:=q0G q2d 48 f48 3 q5v q5x
theorem qdL:qu prog qa q2d.nimp (qK prog q2d.iter 48) (wB f48 3) (qp q5v q5x (qm q03)):=gk q2d qc q8 (alc q1u aln) aln (b1 func48) func48
noncomputable def qdp:=qe [(61,q9 q0r q0a wD)] [(48,f48)] [((48,3),qp q5v q5x (qm q03))] 0
noncomputable def q09:=qo qdp 48 f48 true q4L q4D
theorem q9I:qV prog qa 48 (q9 q4L q4D q09):=sk qdp qc q8 (alc q1u aln) (alc (lk func48 qdL) aln) (b1 func48) func48
def q9Y:FIn:=⟨[(.imm [.str,.str,.str])],[]⟩
def qaV:List FOut:=[⟨(.int .i64),[],none⟩]
def q7z:Tmpl:={ t:=((.imm [.str,.str,.str])::zl 8 ((.imm [.str,.str,.str])::(.int .i64)::(.int .i64)::zl 12 [])),h:=[] }
def q7C:List Out:=[⟨(.exit 0),{ t:=((.imm [.str,.str,.str])::zl 23 []),h:=[] }⟩,⟨.ret,{ t:=(.any::.any::(.int .i64)::zl 21 []),h:=[] }⟩]
noncomputable def q3y:=qe [(48,q9 q4L q4D q09)] [(35,f35)] [] 0
noncomputable def q1b:=q0G q3y 35 f35 6 q7z q7C
theorem qfg:qu prog qa q3y.nimp (qK prog q3y.iter 35) (wB f35 6) (qp q7z q7C (qm q1b)):=gk q3y qc q8 (alc q9I aln) aln (b1 func35) func35
noncomputable def qfB:=qe [(48,q9 q4L q4D q09)] [(35,f35)] [((35,6),qp q7z q7C (qm q1b))] 0
noncomputable def q1W:=qo qfB 35 f35 true q9Y qaV
theorem qie:qV prog qa 35 (q9 q9Y qaV q1W):=sk qfB qc q8 (alc q9I aln) (alc (lk func35 qfg) aln) (b1 func35) func35
def q2a:FIn:=⟨[.str,.str],[]⟩
def q2K:List FOut:=[⟨(.tuple [(.int .i64),(.int .i64),.bool]),[],none⟩]
noncomputable def qdE:=qe [(127,q9 q7f q7a vo)] [(97,f97)] [] 0
noncomputable def jf:=qo qdE 97 f97 true q2a q2K
theorem q4c:qV prog qa 97 (q9 q2a q2K jf):=sk qdE qc q8 (alc q7R aln) aln (b1 func97) func97
def q3H:FIn:=⟨[(.int .i64)],[]⟩
def q3G:List FOut:=[⟨(.tuple [.str,(.int .i64)]),[],none⟩]
noncomputable def qcf:=qe [(52,q9 q3r q3w zh)] [(98,f98)] [] 0
noncomputable def yq:=qo qcf 98 f98 true q3H q3G
theorem q7Y:qV prog qa 98 (q9 q3H q3G yq):=sk qcf qc q8 (alc q2H aln) aln (b1 func98) func98
def q2n:FIn:=⟨[(.ptr 0 0),(.ptr 1 0)],[.big [.bool,(.int .i64)] .i64 232,.big [.bool,(.int .i64)] .i64 232]⟩
def q2e:List FOut:=[⟨(.ptr 2 0),[.big [.bool,(.int .i64)] .i64 232,.big [.bool,(.int .i64)] .i64 232,.big [.bool,(.int .i64)] .i64 232],none⟩]
def q0Q:Tmpl:={ t:=((.ptr 0 0)::(.ptr 1 0)::.any::.any::.any::(.ptr 2 0)::zl 15 ((.int .i64)::(.int .i64)::zl 14 [])),h:=[.big [.bool,(.int .i64)] .i64 232,.big [.bool,(.int .i64)] .i64 232,.big [.bool,(.int .i64)] .i64 232] }
def q0M:List Out:=[⟨(.exit 0),{ t:=(zl 5 ((.ptr 2 0)::zl 31 [])),h:=[.big [.bool,(.int .i64)] .i64 232,.big [.bool,(.int .i64)] .i64 232,.big [.bool,(.int .i64)] .i64 232] }⟩]
noncomputable def yC:=qe [(129,q9 vK vF qH)] [(100,f100)] [] 2
noncomputable def j2:=q0G yC 100 f100 4 q0Q q0M
theorem q8r:qu prog qa yC.nimp (qK prog yC.iter 100) (wB f100 4) (qp q0Q q0M (qm j2)):=gk yC qc q8 (alc jM aln) aln (b1 func100) func100
noncomputable def q6F:=qe [(129,q9 vK vF qH)] [(100,f100)] [((100,4),qp q0Q q0M (qm j2))] 2
noncomputable def jP:=qo q6F 100 f100 false q2n q2e
theorem qaJ:qV prog qa 100 (q9 q2n q2e jP):=qib (E:=q6F) qc ⟨q5D q8,⟨(alc jM aln),aln⟩,(alc (lk func100 q8r) aln),(b1 func100)⟩ func100 (by kernel_rfl) (by kernel_rfl) (fun _=>rfl)
def yJ:FIn:=⟨[(.ptr 0 0)],[.big [.bool,(.int .i64)] .i64 232]⟩
def yF:List FOut:=[⟨(.tuple [.str,(.int .i64)]),[.big [.bool,(.int .i64)] .i64 232],none⟩]
noncomputable def q4B:=qe [(68,q9 vk vl qy),(109,q9 q0u q08 qR)] [(101,f101)] [] 1
noncomputable def zE:=qo q4B 101 f101 true yJ yF
theorem q2v:qV prog qa 101 (q9 yJ yF zE):=sk q4B qc q8 (alc wO (alc q0E aln)) aln (b1 func101) func101
def q5I:FIn:=⟨[.str,.str],[]⟩
def q5m:List FOut:=[⟨(.tuple [.str,(.int .i64)]),[],none⟩]
noncomputable def qhC:=qe [(96,q9 kK q05 zC),(97,q9 q2a q2K jf),(98,q9 q3H q3G yq),(99,q9 q1X q1V zI),(100,q9 q2n q2e jP),(101,q9 yJ yF zE)] [(74,f74)] [] 0
noncomputable def q1G:=qo qhC 74 f74 true q5I q5m
theorem q70:qV prog qa 74 (q9 q5I q5m q1G):=sk qhC qc q8 (alc kf (alc q4c (alc q7Y (alc q2l (alc qaJ (alc q2v aln)))))) aln (b1 func74) func74
def vu:FIn:=⟨[(.ptr 0 0),(.fn 74 [] []),.str,.str],[.cells [(.int .i64)]]⟩
def vw:List FOut:=[⟨.str,[.cells [(.int .i64)]],none⟩]
noncomputable def q1f:=qe [(74,q9 q5I q5m q1G)] [(73,f73)] [] 1
noncomputable def zd:=qo q1f 73 f73 true vu vw
theorem kv:qV prog qa 73 (q9 vu vw zd):=sk q1f qc q8 (alc q70 aln) aln (b1 func73) func73
def wP:FIn:=⟨[(.ptr 0 0),(.imm [.str])],[.cells [(.int .i64)]]⟩
def wQ:List FOut:=[⟨.str,[.cells [(.int .i64)]],none⟩]
def q2G:Tmpl:={ t:=(zl 5 (.str::(.fn 73 [(.ptr 0 0)] [])::zl 4 ((.imm [.str])::(.int .i64)::(.int .i64)::zl 9 []))),h:=[.cells [(.int .i64)]] }
def q2A:List Out:=[⟨(.exit 0),{ t:=(zl 5 (.str::zl 17 [])),h:=[.cells [(.int .i64)]] }⟩]
noncomputable def kD:=qe [(74,q9 q5I q5m q1G),(73,q9 vu vw zd)] [(55,f55)] [] 1
noncomputable def vQ:=q0G kD 55 f55 4 q2G q2A
theorem qaZ:qu prog qa kD.nimp (qK prog kD.iter 55) (wB f55 4) (qp q2G q2A (qm vQ)):=gk kD qc q8 (alc q70 (alc kv aln)) aln (b1 func55) func55
noncomputable def q9A:=qe [(74,q9 q5I q5m q1G),(73,q9 vu vw zd)] [(55,f55)] [((55,4),qp q2G q2A (qm vQ))] 1
noncomputable def qf:=qo q9A 55 f55 true wP wQ
theorem vg:qV prog qa 55 (q9 wP wQ qf):=sk q9A qc q8 (alc q70 (alc kv aln)) (alc (lk func55 qaZ) aln) (b1 func55) func55
def q0p:FIn:=⟨[(.ptr 0 0),(.ptr 1 0)],[.big [.bool,(.int .i64)] .i64 232,.big [.bool,(.int .i64)] .i64 232]⟩
def q0q:List FOut:=[⟨(.tuple []),[.big [.bool,(.int .i64)] .i64 232,.big [.bool,(.int .i64)] .i64 232],none⟩]
noncomputable def q8f:=qe [(129,q9 vK vF qH),(134,q9 ur uo zT)] [(149,f149)] [] 2
noncomputable def wg:=qo q8f 149 f149 true q0p q0q
theorem q4w:qV prog qa 149 (q9 q0p q0q wg):=sk q8f qc q8 (alc jM (alc q2P aln)) aln (b1 func149) func149
def qcR:FIn:=⟨[(.imm [.str])],[]⟩
def qcB:List FOut:=[⟨(.tuple [.str,(.int .i64)]),[],none⟩]
def q8N:Tmpl:={ t:=(zl 4 ((.ptr 0 0)::zl 4 ((.imm [.str])::(.int .i64)::(.int .i64)::zl 12 []))),h:=[.big [.bool,(.int .i64)] .i64 232] }
def q8O:List Out:=[⟨(.exit 0),{ t:=(zl 4 ((.ptr 0 0)::zl 19 [])),h:=[.big [.bool,(.int .i64)] .i64 232] }⟩]
noncomputable def qac:List (FuncId×wk):=[(99,q9 q1X q1V zI),(101,q9 yJ yF zE),(149,q9 q0p q0q wg)]
theorem qef:∀x,x∈qac->qV prog qa x.1 x.2:=(alc q2l (alc q2v (alc q4w aln)))
noncomputable def q4G:=qe qac [(167,f167)] [] 0
noncomputable def q24:=q0G q4G 167 f167 4 q8N q8O
theorem qg7:qu prog qa q4G.nimp (qK prog q4G.iter 167) (wB f167 4) (qp q8N q8O (qm q24)):=gk q4G qc q8 qef aln (b1 func167) func167
noncomputable def qh8:=qe qac [(167,f167)] [((167,4),qp q8N q8O (qm q24))] 0
noncomputable def q62:=qo qh8 167 f167 true qcR qcB
theorem qis:qV prog qa 167 (q9 qcR qcB q62):=sk qh8 qc q8 qef (alc (lk func167 qg7) aln) (b1 func167) func167
def q5G:FIn:=⟨[.str,.str],[]⟩
def q5X:List FOut:=[⟨(.tuple [.str,(.int .i64)]),[],none⟩]
noncomputable def qhO:=qe [(96,q9 kK q05 zC),(97,q9 q2a q2K jf),(98,q9 q3H q3G yq),(167,q9 qcR qcB q62)] [(147,f147)] [] 0
noncomputable def kN:=qo qhO 147 f147 true q5G q5X
theorem q7G:qV prog qa 147 (q9 q5G q5X kN):=sk qhO qc q8 (alc kf (alc q4c (alc q7Y (alc qis aln)))) aln (b1 func147) func147
def q4n:FIn:=⟨[.str],[]⟩
def q4l:List FOut:=[⟨.str,[],none⟩]
noncomputable def q9m:=qe [(106,q9 q3X q3R jm)] [(148,f148)] [] 0
noncomputable def uK:=qo q9m 148 f148 true q4n q4l
theorem qcQ:qV prog qa 148 (q9 q4n q4l uK):=sk q9m qc q8 (alc q5n aln) aln (b1 func148) func148
def q8m:FIn:=⟨[.str,.str],[]⟩
def q8I:List FOut:=[⟨(.tuple [.str,(.int .i64)]),[],none⟩]
noncomputable def qhm:=qe [(96,q9 kK q05 zC),(147,q9 q5G q5X kN),(148,q9 q4n q4l uK)] [(123,f123)] [] 0
noncomputable def q3h:=qo qhm 123 f123 true q8m q8I
theorem qc6:qV prog qa 123 (q9 q8m q8I q3h):=sk qhm qc q8 (alc kf (alc q7G (alc qcQ aln))) aln (b1 func123) func123
def jW:FIn:=⟨[(.ptr 0 0),(.fn 123 [] []),.str,.str],[.cells [(.int .i64)]]⟩
def yg:List FOut:=[⟨.str,[.cells [(.int .i64)]],none⟩]
noncomputable def q1e:=qe [(123,q9 q8m q8I q3h)] [(73,f73)] [] 1
noncomputable def zM:=qo q1e 73 f73 true jW yg
theorem q5b:qV prog qa 73 (q9 jW yg zM):=sk q1e qc q8 (alc qc6 aln) aln (b1 func73) func73
def jJ:FIn:=⟨[(.ptr 0 0),.str,.str],[.cells [(.int .i64)]]⟩
def jK:List FOut:=[⟨.str,[.cells [(.int .i64)]],none⟩]
noncomputable def q9i:=qe [(123,q9 q8m q8I q3h),(73,q9 jW yg zM)] [(91,f91)] [] 1
noncomputable def qQ:=qo q9i 91 f91 true jJ jK
theorem uB:qV prog qa 91 (q9 jJ jK qQ):=sk q9i qc q8 (alc qc6 (alc q5b aln)) aln (b1 func91) func91
def q4M:FIn:=⟨[(.ptr 0 0),.str,.str,.str,.str],[.cells [(.int .i64)]]⟩
def q4J:List FOut:=[⟨(.tuple [.str,.str]),[.cells [(.int .i64)]],none⟩]
noncomputable def qdA:=qe [(55,q9 wP wQ qf),(91,q9 jJ jK qQ)] [(139,f139)] [] 1
noncomputable def q0k:=qo qdA 139 f139 true q4M q4J
theorem q9C:qV prog qa 139 (q9 q4M q4J q0k):=sk qdA qc q8 (alc vg (alc uB aln)) aln (b1 func139) func139
def q1I:FIn:=⟨[.str,.str],[]⟩
def q1A:List FOut:=[⟨.bool,[],none⟩]
noncomputable def q67:=qe [(122,q9 zo zp qv)] [(90,f90)] [] 0
noncomputable def js:=qo q67 90 f90 true q1I q1A
theorem q9L:qV prog qa 90 (q9 q1I q1A js):=sk q67 qc q8 (alc jz aln) aln (b1 func90) func90
def q7F:FIn:=⟨[.str,.str],[]⟩
def q7l:List FOut:=[⟨.str,[],none⟩]
noncomputable def qc8:=qe [] [(92,f92)] [] 0
noncomputable def ke:=qo qc8 92 f92 true q7F q7l
theorem qf5:qV prog qa 92 (q9 q7F q7l ke):=sk qc8 qc q8 aln aln (b1 func92) func92
def q7E:FIn:=⟨[.str,.str],[]⟩
def q7i:List FOut:=[⟨(.tuple [.str,.str,(.int .i64)]),[],none⟩]
noncomputable def qc9:=qe [(52,q9 q3r q3w zh),(96,q9 kK q05 zC),(97,q9 q2a q2K jf),(99,q9 q1X q1V zI),(108,q9 q2q q27 jt),(109,q9 q0u q08 qR),(149,q9 q0p q0q wg)] [(124,f124)] [] 0
noncomputable def q10:=qo qc9 124 f124 true q7E q7i
theorem qfd:qV prog qa 124 (q9 q7E q7i q10):=sk qc9 qc q8 (alc q2H (alc kf (alc q4c (alc q2l (alc q6E (alc q0E (alc q4w aln))))))) aln (b1 func124) func124
def q8K:FIn:=⟨[.str,.str],[]⟩
def q8z:List FOut:=[⟨(.tuple [.str,(.int .i64)]),[],none⟩]
noncomputable def qhX:=qe [(68,q9 vk vl qy),(124,q9 q7E q7i q10)] [(93,f93)] [] 0
noncomputable def q3m:=qo qhX 93 f93 true q8K q8z
theorem qc4:qV prog qa 93 (q9 q8K q8z q3m):=sk qhX qc q8 (alc wO (alc qfd aln)) aln (b1 func93) func93
def vn:FIn:=⟨[(.ptr 0 0),(.fn 78 [] []),.str,.str],[.cells [(.int .i64)]]⟩
def jZ:List FOut:=[⟨.str,[.cells [(.int .i64)]],none⟩]
noncomputable def q19:=qe [(78,q9 q5s q6b kY)] [(73,f73)] [] 1
noncomputable def zQ:=qo q19 73 f73 true vn jZ
theorem q52:qV prog qa 73 (q9 vn jZ zQ):=sk q19 qc q8 (alc q7s aln) aln (b1 func73) func73
def vq:FIn:=⟨[(.ptr 0 0),(.fn 93 [] []),.str,.str],[.cells [(.int .i64)]]⟩
def yh:List FOut:=[⟨.str,[.cells [(.int .i64)]],none⟩]
noncomputable def q1a:=qe [(93,q9 q8K q8z q3m)] [(73,f73)] [] 1
noncomputable def qF:=qo q1a 73 f73 true vq yh
theorem q5a:qV prog qa 73 (q9 vq yh qF):=sk q1a qc q8 (alc qc4 aln) aln (b1 func73) func73
def zq:FIn:=⟨[(.ptr 0 0),.str,.str],[.cells [(.int .i64)]]⟩
def zt:List FOut:=[⟨.str,[.cells [(.int .i64)]],none⟩]
noncomputable def q5y:=qe [(78,q9 q5s q6b kY),(90,q9 q1I q1A js),(91,q9 jJ jK qQ),(92,q9 q7F q7l ke),(93,q9 q8K q8z q3m),(73,qxf [(vn,q9 vn jZ zQ),(vq,q9 vq yh qF)])] [(69,f69)] [] 1
noncomputable def qt:=qo q5y 69 f69 true zq zt
theorem zJ:qV prog qa 69 (q9 zq zt qt):=sk q5y qc q8 (alc q7s (alc q9L (alc uB (alc qf5 (alc qc4 (alc (qtN (yS func73 (by kernel_rfl) (by kernel_rfl)) (qoX q52 (qoX q5a quO))) aln)))))) aln (b1 func69) func69
def jk:FIn:=⟨[(.imm [.str])],[]⟩
def jl:List FOut:=[⟨(.int .i64),[],none⟩]
def q4e:Tmpl:={ t:=(zl 6 ((.imm [.str])::(.int .i64)::(.int .i64)::zl 9 [])),h:=[] }
def q4h:List Out:=[⟨(.exit 0),{ t:=(zl 18 []),h:=[] }⟩,⟨.ret,{ t:=(.any::.any::(.int .i64)::zl 15 []),h:=[] }⟩]
noncomputable def q1o:=qe [(61,q9 q0r q0a wD)] [(71,f71)] [] 0
noncomputable def uV:=q0G q1o 71 f71 3 q4e q4h
theorem qcS:qu prog qa q1o.nimp (qK prog q1o.iter 71) (wB f71 3) (qp q4e q4h (qm uV)):=gk q1o qc q8 (alc q1u aln) aln (b1 func71) func71
noncomputable def qc5:=qe [(61,q9 q0r q0a wD)] [(71,f71)] [((71,3),qp q4e q4h (qm uV))] 0
noncomputable def qE:=qo qc5 71 f71 true jk jl
theorem jo:qV prog qa 71 (q9 jk jl qE):=sk qc5 qc q8 (alc q1u aln) (alc (lk func71 qcS) aln) (b1 func71) func71
def ui:FIn:=⟨[.str,.str,(.fn 139 [] [])],[]⟩
def uk:List FOut:=[⟨(.tuple [.str,(.int .i64)]),[],none⟩]
noncomputable def q1S:=qe [(69,q9 zq zt qt),(71,q9 jk jl qE),(72,q9 kO kJ qA),(139,q9 q4M q4J q0k)] [(53,f53)] [] 0
noncomputable def zX:=qo q1S 53 f53 true ui uk
theorem q5N:qV prog qa 53 (q9 ui uk zX):=sk q1S qc q8 (alc zJ (alc jo (alc kg (alc q9C aln)))) aln (b1 func53) func53
def q8n:FIn:=⟨[.str,.str],[]⟩
def q8p:List FOut:=[⟨(.tuple [.str,(.int .i64)]),[],none⟩]
noncomputable def qhK:=qe [(139,q9 q4M q4J q0k),(53,q9 ui uk zX)] [(111,f111)] [] 0
noncomputable def q3c:=qo qhK 111 f111 true q8n q8p
theorem qck:qV prog qa 111 (q9 q8n q8p q3c):=sk qhK qc q8 (alc q9C (alc q5N aln)) aln (b1 func111) func111
def yf:FIn:=⟨[(.ptr 0 0),(.fn 111 [] []),.str,.str],[.cells [(.int .i64)]]⟩
def jX:List FOut:=[⟨.str,[.cells [(.int .i64)]],none⟩]
noncomputable def q0Y:=qe [(111,q9 q8n q8p q3c)] [(81,f81)] [] 1
noncomputable def zP:=qo q0Y 81 f81 true yf jX
theorem q4Z:qV prog qa 81 (q9 yf jX zP):=sk q0Y qc q8 (alc qck aln) aln (b1 func81) func81
def uN:FIn:=⟨[(.ptr 0 0),.str,.str],[.cells [(.int .i64)]]⟩
def uU:List FOut:=[⟨.str,[.cells [(.int .i64)]],none⟩]
noncomputable def q9k:=qe [(111,q9 q8n q8p q3c),(81,q9 yf jX zP)] [(83,f83)] [] 1
noncomputable def qM:=qo q9k 83 f83 true uN uU
theorem q1J:qV prog qa 83 (q9 uN uU qM):=sk q9k qc q8 (alc qck (alc q4Z aln)) aln (b1 func83) func83
def q0m:FIn:=⟨[(.ptr 0 0),(.agg [.str,.str]),(.agg [.str,.str])],[.cells [(.int .i64)]]⟩
def q0e:List FOut:=[⟨(.agg [.str,.str]),[.cells [(.int .i64)]],none⟩]
noncomputable def q82:=qe [(83,q9 uN uU qM)] [(79,f79)] [] 1
noncomputable def vd:=qo q82 79 f79 true q0m q0e
theorem q4s:qV prog qa 79 (q9 q0m q0e vd):=sk q82 qc q8 (alc q1J aln) aln (b1 func79) func79
def yj:FIn:=⟨[(.ptr 0 0),(.fn 147 [] []),.str,.str],[.cells [(.int .i64)]]⟩
def yk:List FOut:=[⟨.str,[.cells [(.int .i64)]],none⟩]
noncomputable def q14:=qe [(147,q9 q5G q5X kN)] [(73,f73)] [] 1
noncomputable def zO:=qo q14 73 f73 true yj yk
theorem q4I:qV prog qa 73 (q9 yj yk zO):=sk q14 qc q8 (alc q7G aln) aln (b1 func73) func73
def q1s:FIn:=⟨[(.ptr 0 0),.str,.str],[.cells [(.int .i64)]]⟩
def q1m:List FOut:=[⟨.str,[.cells [(.int .i64)]],none⟩]
noncomputable def q9d:=qe [(147,q9 q5G q5X kN),(73,q9 yj yk zO)] [(141,f141)] [] 1
noncomputable def vV:=qo q9d 141 f141 true q1s q1m
theorem q5C:qV prog qa 141 (q9 q1s q1m vV):=sk q9d qc q8 (alc q7G (alc q4I aln)) aln (b1 func141) func141
def q4X:FIn:=⟨[(.ptr 0 0),.str,.str,.str,.str],[.cells [(.int .i64)]]⟩
def q4N:List FOut:=[⟨(.tuple [.str,.str]),[.cells [(.int .i64)]],none⟩]
noncomputable def qdx:=qe [(55,q9 wP wQ qf),(141,q9 q1s q1m vV)] [(140,f140)] [] 1
noncomputable def q0s:=qo qdx 140 f140 true q4X q4N
theorem q9x:qV prog qa 140 (q9 q4X q4N q0s):=sk qdx qc q8 (alc vg (alc q5C aln)) aln (b1 func140) func140
def ud:FIn:=⟨[.str,.str,(.fn 140 [] [])],[]⟩
def yV:List FOut:=[⟨(.tuple [.str,(.int .i64)]),[],none⟩]
noncomputable def q1M:=qe [(69,q9 zq zt qt),(71,q9 jk jl qE),(72,q9 kO kJ qA),(140,q9 q4X q4N q0s)] [(53,f53)] [] 0
noncomputable def zZ:=qo q1M 53 f53 true ud yV
theorem q5w:qV prog qa 53 (q9 ud yV zZ):=sk q1M qc q8 (alc zJ (alc jo (alc kg (alc q9x aln)))) aln (b1 func53) func53
def q8s:FIn:=⟨[.str,.str],[]⟩
def q94:List FOut:=[⟨(.tuple [.str,(.int .i64)]),[],none⟩]
noncomputable def qii:=qe [(140,q9 q4X q4N q0s),(53,q9 ud yV zZ)] [(112,f112)] [] 0
noncomputable def q3k:=qo qii 112 f112 true q8s q94
theorem qcd:qV prog qa 112 (q9 q8s q94 q3k):=sk qii qc q8 (alc q9x (alc q5w aln)) aln (b1 func112) func112
def yb:FIn:=⟨[(.ptr 0 0),(.fn 112 [] []),.str,.str],[.cells [(.int .i64)]]⟩
def jV:List FOut:=[⟨.str,[.cells [(.int .i64)]],none⟩]
noncomputable def q0Z:=qe [(112,q9 q8s q94 q3k)] [(81,f81)] [] 1
noncomputable def zN:=qo q0Z 81 f81 true yb jV
theorem q4S:qV prog qa 81 (q9 yb jV zN):=sk q0Z qc q8 (alc qcd aln) aln (b1 func81) func81
def uM:FIn:=⟨[(.ptr 0 0),.str,.str],[.cells [(.int .i64)]]⟩
def uP:List FOut:=[⟨.str,[.cells [(.int .i64)]],none⟩]
noncomputable def q9l:=qe [(112,q9 q8s q94 q3k),(81,q9 yb jV zN)] [(84,f84)] [] 1
noncomputable def z8:=qo q9l 84 f84 true uM uP
theorem q1B:qV prog qa 84 (q9 uM uP z8):=sk q9l qc q8 (alc qcd (alc q4S aln)) aln (b1 func84) func84
def q4K:FIn:=⟨[(.ptr 0 0),.str,.str,.str,.str],[.cells [(.int .i64)]]⟩
def q4W:List FOut:=[⟨(.tuple [.str,.str]),[.cells [(.int .i64)]],none⟩]
noncomputable def qdz:=qe [(55,q9 wP wQ qf)] [(54,f54)] [] 1
noncomputable def q0d:=qo qdz 54 f54 true q4K q4W
theorem q9F:qV prog qa 54 (q9 q4K q4W q0d):=sk qdz qc q8 (alc vg aln) aln (b1 func54) func54
def yM:FIn:=⟨[.str,.str,(.fn 54 [] [])],[]⟩
def yU:List FOut:=[⟨(.tuple [.str,(.int .i64)]),[],none⟩]
noncomputable def q1Q:=qe [(54,q9 q4K q4W q0d),(69,q9 zq zt qt),(71,q9 jk jl qE),(72,q9 kO kJ qA)] [(53,f53)] [] 0
noncomputable def zW:=qo q1Q 53 f53 true yM yU
theorem q5L:qV prog qa 53 (q9 yM yU zW):=sk q1Q qc q8 (alc q9F (alc zJ (alc jo (alc kg aln)))) aln (b1 func53) func53
def q5P:FIn:=⟨[.str,.str],[]⟩
def q5q:List FOut:=[⟨(.tuple [.str,(.int .i64)]),[],none⟩]
noncomputable def qgS:=qe [(54,q9 q4K q4W q0d),(53,q9 yM yU zW)] [(38,f38)] [] 0
noncomputable def kS:=qo qgS 38 f38 true q5P q5q
theorem q6X:qV prog qa 38 (q9 q5P q5q kS):=sk qgS qc q8 (alc q9F (alc q5L aln)) aln (b1 func38) func38
def yi:FIn:=⟨[(.ptr 0 0),(.fn 38 [] []),.str,.str],[.cells [(.int .i64)]]⟩
def jY:List FOut:=[⟨.str,[.cells [(.int .i64)]],none⟩]
noncomputable def q18:=qe [(38,q9 q5P q5q kS)] [(81,f81)] [] 1
noncomputable def zL:=qo q18 81 f81 true yi jY
theorem q4H:qV prog qa 81 (q9 yi jY zL):=sk q18 qc q8 (alc q6X aln) aln (b1 func81) func81
def uT:FIn:=⟨[(.ptr 0 0),.str,.str],[.cells [(.int .i64)]]⟩
def uL:List FOut:=[⟨.str,[.cells [(.int .i64)]],none⟩]
noncomputable def q9n:=qe [(38,q9 q5P q5q kS),(81,q9 yi jY zL)] [(85,f85)] [] 1
noncomputable def qG:=qo q9n 85 f85 true uT uL
theorem q1y:qV prog qa 85 (q9 uT uL qG):=sk q9n qc q8 (alc q6X (alc q4H aln)) aln (b1 func85) func85
def q1n:FIn:=⟨[(.ptr 0 0),(.agg [.str,.str]),(.agg [.str,.str])],[.cells [(.int .i64)]]⟩
def q1q:List FOut:=[⟨.str,[.cells [(.int .i64)]],none⟩]
noncomputable def q9G:=qe [(84,q9 uM uP z8),(85,q9 uT uL qG)] [(80,f80)] [] 1
noncomputable def zR:=qo q9G 80 f80 true q1n q1q
theorem q5k:qV prog qa 80 (q9 q1n q1q zR):=sk q9G qc q8 (alc q1B (alc q1y aln)) aln (b1 func80) func80
def q4T:FIn:=⟨[(.ptr 0 0),.str,.str,.str,.str],[.cells [(.int .i64)]]⟩
def q5c:List FOut:=[⟨(.tuple [.str,.str]),[.cells [(.int .i64)]],none⟩]
noncomputable def qdU:=qe [(55,q9 wP wQ qf)] [(110,f110)] [] 1
noncomputable def q0g:=qo qdU 110 f110 true q4T q5c
theorem q9j:qV prog qa 110 (q9 q4T q5c q0g):=sk qdU qc q8 (alc vg aln) aln (b1 func110) func110
def u7:FIn:=⟨[.str,.str,(.fn 110 [] [])],[]⟩
def ub:List FOut:=[⟨(.tuple [.str,(.int .i64)]),[],none⟩]
noncomputable def q1L:=qe [(69,q9 zq zt qt),(71,q9 jk jl qE),(72,q9 kO kJ qA),(110,q9 q4T q5c q0g)] [(53,f53)] [] 0
noncomputable def wd:=qo q1L 53 f53 true u7 ub
theorem q5F:qV prog qa 53 (q9 u7 ub wd):=sk q1L qc q8 (alc zJ (alc jo (alc kg (alc q9j aln)))) aln (b1 func53) func53
def q8Q:FIn:=⟨[.str,.str],[]⟩
def q9b:List FOut:=[⟨(.tuple [.str,(.int .i64)]),[],none⟩]
noncomputable def qi0:=qe [(71,q9 jk jl qE),(110,q9 q4T q5c q0g),(53,q9 u7 ub wd)] [(82,f82)] [] 0
noncomputable def q3n:=qo qi0 82 f82 true q8Q q9b
theorem qc2:qV prog qa 82 (q9 q8Q q9b q3n):=sk qi0 qc q8 (alc jo (alc q9j (alc q5F aln))) aln (b1 func82) func82
def ym:FIn:=⟨[(.ptr 0 0),(.fn 82 [] []),.str,.str],[.cells [(.int .i64)]]⟩
def yd:List FOut:=[⟨.str,[.cells [(.int .i64)]],none⟩]
noncomputable def q0W:=qe [(82,q9 q8Q q9b q3n)] [(81,f81)] [] 1
noncomputable def zg:=qo q0W 81 f81 true ym yd
theorem q4C:qV prog qa 81 (q9 ym yd zg):=sk q0W qc q8 (alc qc2 aln) aln (b1 func81) func81
def kt:FIn:=⟨[(.ptr 0 0),(.imm [.str,.str,.str]),(.agg [(.int .i64),(.int .i64),(.int .i64)])],[.cells [(.int .i64)]]⟩
def kr:List FOut:=[⟨(.tuple [(.agg [.str,.str,.str,.str,.str]),.bool]),[.cells [(.int .i64)]],none⟩]
noncomputable def q6L:=qe [(79,q9 q0m q0e vd),(80,q9 q1n q1q zR),(82,q9 q8Q q9b q3n),(83,q9 uN uU qM),(84,q9 uM uP z8),(85,q9 uT uL qG),(81,q9 ym yd zg)] [(63,f63)] [] 1
noncomputable def wA:=qo q6L 63 f63 true kt kr
theorem q44:qV prog qa 63 (q9 kt kr wA):=sk q6L qc q8 (alc q4s (alc q5k (alc qc2 (alc q1J (alc q1B (alc q1y (alc q4C aln))))))) aln (b1 func63) func63
def qa4:FIn:=⟨[.str],[]⟩
def qam:List FOut:=[⟨(.tuple [(.int .i64),(.int .i64)]),[],none⟩]
noncomputable def qfV:=qe [(68,q9 vk vl qy),(106,q9 q3X q3R jm)] [(184,f184)] [] 0
noncomputable def q3Q:=qo qfV 184 f184 true qa4 qam
theorem qi8:qV prog qa 184 (q9 qa4 qam q3Q):=sk qfV qc q8 (alc wO (alc q5n aln)) aln (b1 func184) func184
def q0f:FIn:=⟨[(.ptr 0 0),.str],[.cells [(.int .i64)]]⟩
def q0j:List FOut:=[⟨(.int .i64),[.cells [(.int .i64)]],none⟩]
noncomputable def q8i:=qe [(184,q9 qa4 qam q3Q)] [(163,f163)] [] 1
noncomputable def qS:=qo q8i 163 f163 true q0f q0j
theorem q4t:qV prog qa 163 (q9 q0f q0j qS):=sk q8i qc q8 (alc qi8 aln) aln (b1 func163) func163
def q3s:FIn:=⟨[(.ptr 0 0),.str,.str,.str],[.cells [(.int .i64)]]⟩
def q3d:List FOut:=[⟨(.int .i64),[.cells [(.int .i64)]],none⟩]
noncomputable def q81:=qe [(55,q9 wP wQ qf),(91,q9 jJ jK qQ),(163,q9 q0f q0j qS)] [(162,f162)] [] 1
noncomputable def jn:=qo q81 162 f162 true q3s q3d
theorem qbJ:qV prog qa 162 (q9 q3s q3d jn):=sk q81 qc q8 (alc vg (alc uB (alc q4t aln))) aln (b1 func162) func162
def q3a:FIn:=⟨[.str,.str,.str,.str,.str],[]⟩
def q3g:List FOut:=[⟨(.tuple [(.int .i64),(.int .i64)]),[],none⟩]
noncomputable def q7L:=qe [(55,q9 wP wQ qf),(71,q9 jk jl qE),(72,q9 kO kJ qA),(91,q9 jJ jK qQ),(141,q9 q1s q1m vV),(162,q9 q3s q3d jn),(163,q9 q0f q0j qS)] [(142,f142)] [] 0
noncomputable def yZ:=qo q7L 142 f142 true q3a q3g
theorem qbz:qV prog qa 142 (q9 q3a q3g yZ):=sk q7L qc q8 (alc vg (alc jo (alc kg (alc uB (alc q5C (alc qbJ (alc q4t aln))))))) aln (b1 func142) func142
def q4m:FIn:=⟨[.str,.str,.str],[]⟩
def q49:List FOut:=[⟨(.tuple [(.int .i64),(.int .i64)]),[],none⟩]
noncomputable def q9u:=qe [(142,q9 q3a q3g yZ)] [(113,f113)] [] 0
noncomputable def uW:=qo q9u 113 f113 true q4m q49
theorem qcx:qV prog qa 113 (q9 q4m q49 uW):=sk q9u qc q8 (alc qbz aln) aln (b1 func113) func113
def q3u:FIn:=⟨[(.ptr 0 0),.str,.str,.str],[.cells [(.int .i64)]]⟩
def q38:List FOut:=[⟨(.int .i64),[.cells [(.int .i64)]],none⟩]
noncomputable def q7U:=qe [(113,q9 q4m q49 uW)] [(86,f86)] [] 1
noncomputable def yK:=qo q7U 86 f86 true q3u q38
theorem qbB:qV prog qa 86 (q9 q3u q38 yK):=sk q7U qc q8 (alc qcx aln) aln (b1 func86) func86
def kE:FIn:=⟨[(.ptr 0 0),(.agg [.str,.str,.str]),(.agg [.str,.str,.str,.str,.str])],[.cells [(.int .i64)]]⟩
def kw:List FOut:=[⟨.bool,[.cells [(.int .i64)]],none⟩]
noncomputable def q6R:=qe [(79,q9 q0m q0e vd),(80,q9 q1n q1q zR),(83,q9 uN uU qM),(84,q9 uM uP z8),(85,q9 uT uL qG),(86,q9 q3u q38 yK)] [(65,f65)] [] 1
noncomputable def vM:=qo q6R 65 f65 true kE kw
theorem q45:qV prog qa 65 (q9 kE kw vM):=sk q6R qc q8 (alc q4s (alc q5k (alc q1J (alc q1B (alc q1y (alc qbB aln)))))) aln (b1 func65) func65
def q1E:FIn:=⟨[(.ptr 0 0),(.imm [.str,.str,.str]),(.agg [(.int .i64),(.int .i64),(.int .i64)])],[.cells [(.int .i64)]]⟩
def q1H:List FOut:=[⟨.bool,[.cells [(.int .i64)]],none⟩]
def yW:Tmpl:={ t:=((.imm [.str,.str,.str])::(.fn 67 [] [(.ptr 4 0)])::zl 5 ((.int .i64)::(.int .i64)::zl 10 [])),h:=[.cells [(.int .i64)],.cells [(.ptr 0 0)],.cells [(.int .i64),(.int .i64),(.int .i64)],.cells [.str,.str,.str,.str,.str],.cells [(.fn 64 [] [(.ptr 1 0),(.ptr 3 0)])]],fs:=[[(.imm [.str,.str,.str]),(.fn 67 [] [(.ptr 4 0)]),.any,.any,(.blit false),(.imm [.str,.str,.str]),(.fn 67 [] [(.ptr 4 0)]),.any,.any],[(.ptr 0 0),(.imm [.str,.str,.str]),(.agg [(.int .i64),(.int .i64),(.int .i64)]),(.ptr 1 0),.any,(.ptr 2 0),(.blit false),(.ptr 3 0),.bool,(.ptr 4 0),(.tuple [(.agg [.str,.str,.str,.str,.str]),.bool]),(.ptr 0 0),(.imm [.str,.str,.str]),(.agg [(.int .i64),(.int .i64),(.int .i64)]),(.tuple [(.agg [.str,.str,.str,.str,.str]),.bool]),(.agg [.str,.str,.str,.str,.str]),.bool,(.fn 64 [] [(.ptr 1 0),(.ptr 3 0)]),.bool,(.blit true),(.imm [.str,.str,.str]),(.fn 67 [] [(.ptr 4 0)]),.any,.any,.any,.any,.any,.any,.any,.any,.any,.any],[]] }
def yX:List Out:=[⟨(.exit 0),{ t:=(zl 19 []),h:=[.cells [(.int .i64)],.cells [(.ptr 0 0)],.cells [(.int .i64),(.int .i64),(.int .i64)],.cells [.str,.str,.str,.str,.str],.cells [(.fn 64 [] [(.ptr 1 0),(.ptr 3 0)])]],fs:=[[(.imm [.str,.str,.str]),(.fn 67 [] [(.ptr 4 0)]),.any,.any,(.blit false),(.imm [.str,.str,.str]),(.fn 67 [] [(.ptr 4 0)]),.any,.any],[(.ptr 0 0),(.imm [.str,.str,.str]),(.agg [(.int .i64),(.int .i64),(.int .i64)]),(.ptr 1 0),.any,(.ptr 2 0),(.blit false),(.ptr 3 0),.bool,(.ptr 4 0),(.tuple [(.agg [.str,.str,.str,.str,.str]),.bool]),(.ptr 0 0),(.imm [.str,.str,.str]),(.agg [(.int .i64),(.int .i64),(.int .i64)]),(.tuple [(.agg [.str,.str,.str,.str,.str]),.bool]),(.agg [.str,.str,.str,.str,.str]),.bool,(.fn 64 [] [(.ptr 1 0),(.ptr 3 0)]),.bool,(.blit true),(.imm [.str,.str,.str]),(.fn 67 [] [(.ptr 4 0)]),.any,.any,.any,.any,.any,.any,.any,.any,.any,.any],[]] }⟩,⟨.ret,{ t:=(zl 4 ((.int .i64)::zl 14 [])),h:=[.cells [(.int .i64)],.cells [(.ptr 0 0)],.cells [(.int .i64),(.int .i64),(.int .i64)],.cells [.str,.str,.str,.str,.str],.cells [(.fn 64 [] [(.ptr 1 0),(.ptr 3 0)])]],fs:=[[(.imm [.str,.str,.str]),(.fn 67 [] [(.ptr 4 0)]),.any,.any,(.blit false),(.imm [.str,.str,.str]),(.fn 67 [] [(.ptr 4 0)]),.any,.any],[(.ptr 0 0),(.imm [.str,.str,.str]),(.agg [(.int .i64),(.int .i64),(.int .i64)]),(.ptr 1 0),.any,(.ptr 2 0),(.blit false),(.ptr 3 0),.bool,(.ptr 4 0),(.tuple [(.agg [.str,.str,.str,.str,.str]),.bool]),(.ptr 0 0),(.imm [.str,.str,.str]),(.agg [(.int .i64),(.int .i64),(.int .i64)]),(.tuple [(.agg [.str,.str,.str,.str,.str]),.bool]),(.agg [.str,.str,.str,.str,.str]),.bool,(.fn 64 [] [(.ptr 1 0),(.ptr 3 0)]),.bool,(.blit true),(.imm [.str,.str,.str]),(.fn 67 [] [(.ptr 4 0)]),.any,.any,.any,.any,.any,.any,.any,.any,.any,.any],[]] }⟩]
noncomputable def vP:=qe [(63,q9 kt kr wA),(65,q9 kE kw vM)] [(50,f50),(64,f64),(66,f66),(67,f67),(87,f87)] [] 1
noncomputable def zY:=q0G vP 87 f87 3 yW yX
theorem q68:qu prog qa vP.nimp (qK prog vP.iter 87) (wB f87 3) (qp yW yX (qm zY)):=gk vP qc q8 (alc q44 (alc q45 aln)) aln (alc (bk func50) (alc (bk func64) (alc (bk func66) (alc (bk func67) (alc (bk func87) aln))))) func87
noncomputable def q5E:=qe [(63,q9 kt kr wA),(65,q9 kE kw vM)] [(50,f50),(64,f64),(66,f66),(67,f67),(87,f87)] [((87,3),qp yW yX (qm zY))] 1
noncomputable def va:=qo q5E 50 f50 true q1E q1H
theorem q9N:qV prog qa 50 (q9 q1E q1H va):=sk q5E qc q8 (alc q44 (alc q45 aln)) (alc (lk func87 q68) aln) (alc (bk func50) (alc (bk func64) (alc (bk func66) (alc (bk func67) (alc (bk func87) aln))))) func50
def q2s:FIn:=⟨[(.ptr 0 0),(.imm [.str,.str,.str])],[.cells [(.int .i64)]]⟩
def q2t:List FOut:=[⟨(.tuple [(.agg [(.int .i64),(.int .i64),(.int .i64)]),.bool]),[.cells [(.int .i64)]],none⟩]
def uw:Tmpl:={ t:=(.yld::(.ptr 5 0)::zl 6 ((.int .i64)::(.int .i64)::zl 35 [])),h:=[.cells [(.int .i64)],.cells [(.ptr 0 0)],.cells [(.imm [.str,.str,.str])],.cells [(.int .i64),(.int .i64),(.int .i64)],.cells [.bool],.cells [(.int .i64)]],fs:=[[.any,.any,(.ptr 1 0),(.ptr 2 0),(.ptr 3 0),(.ptr 4 0),.any,.any,.any,(.fn 62 [] [(.ptr 5 0)]),.any,.any,.any,.any,.any,.any,.any],[]] }
def uy:List Out:=[⟨(.exit 0),{ t:=(.yld::(.ptr 5 0)::zl 43 []),h:=[.cells [(.int .i64)],.cells [(.ptr 0 0)],.cells [(.imm [.str,.str,.str])],.cells [(.int .i64),(.int .i64),(.int .i64)],.cells [.bool],.cells [(.int .i64)]],fs:=[[.any,.any,(.ptr 1 0),(.ptr 2 0),(.ptr 3 0),(.ptr 4 0),.any,.any,.any,(.fn 62 [] [(.ptr 5 0)]),.any,.any,.any,.any,.any,.any,.any],[]] }⟩,⟨.ret,{ t:=(zl 45 []),h:=[.cells [(.int .i64)],.cells [(.ptr 0 0)],.cells [(.imm [.str,.str,.str])],.cells [(.int .i64),(.int .i64),(.int .i64)],.cells [.bool],.cells [(.int .i64)]],fs:=[[.any,.any,(.ptr 1 0),(.ptr 2 0),(.ptr 3 0),(.ptr 4 0),.any,.any,.any,(.fn 62 [] [(.ptr 5 0)]),.any,.any,.any,.any,.any,.any,.any],[]],pend:=(.some .ret) }⟩]
noncomputable def ve:List (FuncId×wk):=[(50,q9 q1E q1H va)]
theorem j8:∀x,x∈ve->qV prog qa x.1 x.2:=(alc q9N aln)
noncomputable def jg:Env:={ tt:=q2D,glob:=qa,spec:=ve,body:=[(36,f36),(49,f49),(62,f62)],loops:=[],nimp:=1,iter:=[(62,36,3)] }
noncomputable def ww:=qgH jg (some (36,f36,3)) 62 f62 2 uw uy
theorem q6e:qu prog qa jg.nimp (qK prog jg.iter 62) (wB f62 2) (qp uw uy (qm ww)):=kH (E:=jg) qc ⟨q5D q8,⟨j8,aln⟩,aln,(alc (bk func36) (alc (bk func49) (alc (bk func62) aln)))⟩ func62 (by kernel_rfl) (y:=some (36,f36,3)) ⟨func36,by kernel_rfl⟩ (by kernel_rfl) (by kernel_rfl) (fun _=>rfl)
def yO:Tmpl:={ t:=(.yld::(.ptr 5 0)::.any::.any::(.int .i64)::(.int .i64)::zl 13 ((.int .i64)::(.int .i64)::zl 9 ((.vec 6)::(.int .i64)::(.int .i64)::zl 12 []))),h:=[.cells [(.int .i64)],.cells [(.ptr 0 0)],.cells [(.imm [.str,.str,.str])],.cells [(.int .i64),(.int .i64),(.int .i64)],.cells [.bool],.cells [(.int .i64)],.vec 3 [(.int .i64)]],fs:=[[.any,.any,(.ptr 1 0),(.ptr 2 0),(.ptr 3 0),(.ptr 4 0),.any,.any,.any,(.fn 62 [] [(.ptr 5 0)]),.any,.any,.any,.any,.any,.any,.any],[]] }
def ug:List Out:=[⟨(.exit 6),{ t:=(.yld::(.ptr 5 0)::.any::.any::(.int .i64)::(.int .i64)::zl 13 ((.int .i64)::(.int .i64)::zl 24 [])),h:=[.cells [(.int .i64)],.cells [(.ptr 0 0)],.cells [(.imm [.str,.str,.str])],.cells [(.int .i64),(.int .i64),(.int .i64)],.cells [.bool],.cells [(.int .i64)]],fs:=[[.any,.any,(.ptr 1 0),(.ptr 2 0),(.ptr 3 0),(.ptr 4 0),.any,.any,.any,(.fn 62 [] [(.ptr 5 0)]),.any,.any,.any,.any,.any,.any,.any],[]] }⟩,⟨.ret,{ t:=(zl 45 []),h:=[.cells [(.int .i64)],.cells [(.ptr 0 0)],.cells [(.imm [.str,.str,.str])],.cells [(.int .i64),(.int .i64),(.int .i64)],.cells [.bool],.cells [(.int .i64)]],fs:=[[.any,.any,(.ptr 1 0),(.ptr 2 0),(.ptr 3 0),(.ptr 4 0),.any,.any,.any,(.fn 62 [] [(.ptr 5 0)]),.any,.any,.any,.any,.any,.any,.any],[]],pend:=(.some .ret) }⟩]
noncomputable def vH:Env:={ tt:=q2D,glob:=qa,spec:=ve,body:=[(36,f36),(49,f49),(62,f62)],loops:=[],nimp:=1,iter:=[(62,36,3)] }
noncomputable def wh:=qgH vH (some (36,f36,3)) 62 f62 20 yO ug
theorem q5V:qu prog qa vH.nimp (qK prog vH.iter 62) (wB f62 20) (qp yO ug (qm wh)):=kH (E:=vH) qc ⟨q5D q8,⟨j8,aln⟩,aln,(alc (bk func36) (alc (bk func49) (alc (bk func62) aln)))⟩ func62 (by kernel_rfl) (y:=some (36,f36,3)) ⟨func36,by kernel_rfl⟩ (by kernel_rfl) (by kernel_rfl) (fun _=>rfl)
def yL:Tmpl:={ t:=(.yld::(.ptr 5 0)::.any::.any::(.int .i64)::(.int .i64)::zl 13 ((.int .i64)::(.int .i64)::zl 24 [])),h:=[.cells [(.int .i64)],.cells [(.ptr 0 0)],.cells [(.imm [.str,.str,.str])],.cells [(.int .i64),(.int .i64),(.int .i64)],.cells [.bool],.cells [(.int .i64)]],fs:=[[.any,.any,(.ptr 1 0),(.ptr 2 0),(.ptr 3 0),(.ptr 4 0),.any,.any,.any,(.fn 62 [] [(.ptr 5 0)]),.any,.any,.any,.any,.any,.any,.any],[]] }
def u5:List Out:=[⟨(.exit 4),{ t:=(.yld::(.ptr 5 0)::zl 17 ((.int .i64)::(.int .i64)::zl 24 [])),h:=[.cells [(.int .i64)],.cells [(.ptr 0 0)],.cells [(.imm [.str,.str,.str])],.cells [(.int .i64),(.int .i64),(.int .i64)],.cells [.bool],.cells [(.int .i64)]],fs:=[[.any,.any,(.ptr 1 0),(.ptr 2 0),(.ptr 3 0),(.ptr 4 0),.any,.any,.any,(.fn 62 [] [(.ptr 5 0)]),.any,.any,.any,.any,.any,.any,.any],[]] }⟩,⟨.ret,{ t:=(zl 45 []),h:=[.cells [(.int .i64)],.cells [(.ptr 0 0)],.cells [(.imm [.str,.str,.str])],.cells [(.int .i64),(.int .i64),(.int .i64)],.cells [.bool],.cells [(.int .i64)]],fs:=[[.any,.any,(.ptr 1 0),(.ptr 2 0),(.ptr 3 0),(.ptr 4 0),.any,.any,.any,(.fn 62 [] [(.ptr 5 0)]),.any,.any,.any,.any,.any,.any,.any],[]],pend:=(.some .ret) }⟩]
noncomputable def vU:Env:={ tt:=q2D,glob:=qa,spec:=ve,body:=[(36,f36),(49,f49),(62,f62)],loops:=[((62,20),qp yO ug (qm wh))],nimp:=1,iter:=[(62,36,3)] }
noncomputable def we:=qgH vU (some (36,f36,3)) 62 f62 15 yL u5
theorem q5l:qu prog qa vU.nimp (qK prog vU.iter 62) (wB f62 15) (qp yL u5 (qm we)):=kH (E:=vU) qc ⟨q5D q8,⟨j8,aln⟩,(alc (lk func62 q5V) aln),(alc (bk func36) (alc (bk func49) (alc (bk func62) aln)))⟩ func62 (by kernel_rfl) (y:=some (36,f36,3)) ⟨func36,by kernel_rfl⟩ (by kernel_rfl) (by kernel_rfl) (fun _=>rfl)
def ut:Tmpl:={ t:=(.yld::(.ptr 5 0)::zl 17 ((.int .i64)::(.int .i64)::zl 24 [])),h:=[.cells [(.int .i64)],.cells [(.ptr 0 0)],.cells [(.imm [.str,.str,.str])],.cells [(.int .i64),(.int .i64),(.int .i64)],.cells [.bool],.cells [(.int .i64)]],fs:=[[.any,.any,(.ptr 1 0),(.ptr 2 0),(.ptr 3 0),(.ptr 4 0),.any,.any,.any,(.fn 62 [] [(.ptr 5 0)]),.any,.any,.any,.any,.any,.any,.any],[]] }
def uA:List Out:=[⟨(.exit 2),{ t:=(zl 45 []),h:=[.cells [(.int .i64)],.cells [(.ptr 0 0)],.cells [(.imm [.str,.str,.str])],.cells [(.int .i64),(.int .i64),(.int .i64)],.cells [.bool],.cells [(.int .i64)]],fs:=[[.any,.any,(.ptr 1 0),(.ptr 2 0),(.ptr 3 0),(.ptr 4 0),.any,.any,.any,(.fn 62 [] [(.ptr 5 0)]),.any,.any,.any,.any,.any,.any,.any],[]] }⟩,⟨.ret,{ t:=(zl 45 []),h:=[.cells [(.int .i64)],.cells [(.ptr 0 0)],.cells [(.imm [.str,.str,.str])],.cells [(.int .i64),(.int .i64),(.int .i64)],.cells [.bool],.cells [(.int .i64)]],fs:=[[.any,.any,(.ptr 1 0),(.ptr 2 0),(.ptr 3 0),(.ptr 4 0),.any,.any,.any,(.fn 62 [] [(.ptr 5 0)]),.any,.any,.any,.any,.any,.any,.any],[]],pend:=(.some .ret) }⟩]
noncomputable def jb:Env:={ tt:=q2D,glob:=qa,spec:=ve,body:=[(36,f36),(49,f49),(62,f62)],loops:=[((62,15),qp yL u5 (qm we))],nimp:=1,iter:=[(62,36,3)] }
noncomputable def wC:=qgH jb (some (36,f36,3)) 62 f62 9 ut uA
theorem q6d:qu prog qa jb.nimp (qK prog jb.iter 62) (wB f62 9) (qp ut uA (qm wC)):=kH (E:=jb) qc ⟨q5D q8,⟨j8,aln⟩,(alc (lk func62 q5l) aln),(alc (bk func36) (alc (bk func49) (alc (bk func62) aln)))⟩ func62 (by kernel_rfl) (y:=some (36,f36,3)) ⟨func36,by kernel_rfl⟩ (by kernel_rfl) (by kernel_rfl) (fun _=>rfl)
noncomputable def q6K:Env:={ tt:=q2D,glob:=qa,spec:=ve,body:=[(36,f36),(49,f49),(62,f62)],loops:=[((62,2),qp uw uy (qm ww)),((62,9),qp ut uA (qm wC))],nimp:=1,iter:=[(62,36,3)] }
noncomputable def jT:=qo q6K 36 f36 true q2s q2t
theorem qaK:qV prog qa 36 (q9 q2s q2t jT):=sk q6K qc q8 j8 (alc (lk func62 q6e) (alc (lk func62 q6d) aln)) (alc (bk func36) (alc (bk func49) (alc (bk func62) aln))) func36
def q7o:FIn:=⟨[(.imm [.str,.str,.str])],[]⟩
def q7c:List FOut:=[⟨(.tuple [.bool,(.agg [(.int .i64),(.int .i64),(.int .i64)]),(.int .i64)]),[],none⟩]
noncomputable def qbU:=qe [(35,q9 q9Y qaV q1W),(36,q9 q2s q2t jT)] [(24,f24)] [] 0
noncomputable def q1d:=qo qbU 24 f24 true q7o q7c
theorem qf9:qV prog qa 24 (q9 q7o q7c q1d):=sk qbU qc q8 (alc qie (alc qaK aln)) aln (b1 func24) func24
def qab:FIn:=⟨[.str,.str],[]⟩
def qaB:List FOut:=[⟨(.tuple [.str,(.int .i64)]),[],none⟩]
def q7x:Tmpl:={ t:=(.str::.str::zl 11 ((.vec 0)::(.int .i64)::(.int .i64)::zl 27 [])),h:=[.vec 122 [.str]] }
def q76:List Out:=[⟨(.exit 0),{ t:=(.str::.str::zl 41 []),h:=[] }⟩,⟨.ret,{ t:=(zl 4 (.str::(.int .i64)::zl 37 [])),h:=[] }⟩]
noncomputable def q3A:=qe [(68,q9 vk vl qy),(69,q9 zq zt qt)] [(51,f51)] [] 0
noncomputable def uY:=q0G q3A 51 f51 3 q7x q76
theorem qeX:qu prog qa q3A.nimp (qK prog q3A.iter 51) (wB f51 3) (qp q7x q76 (qm uY)):=gk q3A qc q8 (alc wO (alc zJ aln)) aln (b1 func51) func51
noncomputable def qfG:=qe [(68,q9 vk vl qy),(69,q9 zq zt qt)] [(51,f51)] [((51,3),qp q7x q76 (qm uY))] 0
noncomputable def q3S:=qo qfG 51 f51 true qab qaB
theorem qhG:qV prog qa 51 (q9 qab qaB q3S):=sk qfG qc q8 (alc wO (alc zJ aln)) (alc (lk func51 qeX) aln) (b1 func51) func51
def qeQ:FIn:=⟨[(.int .i64),(.int .i64)],[]⟩
def qeO:List FOut:=[⟨(.tuple [.str,(.int .i64)]),[],none⟩]
noncomputable def qjb:=qe [(51,q9 qab qaB q3S),(52,q9 q3r q3w zh)] [(37,f37)] [] 0
noncomputable def q7Z:=qo qjb 37 f37 true qeQ qeO
theorem qk5:qV prog qa 37 (q9 qeQ qeO q7Z):=sk qjb qc q8 (alc qhG (alc q2H aln)) aln (b1 func37) func37
def q8E:FIn:=⟨[(.int .i64)],[]⟩
def q9c:List FOut:=[⟨.str,[],none⟩]
noncomputable def qe4:=qe [(52,q9 q3r q3w zh)] [(39,f39)] [] 0
noncomputable def q07:=qo qe4 39 f39 true q8E q9c
theorem qg4:qV prog qa 39 (q9 q8E q9c q07):=sk qe4 qc q8 (alc q2H aln) aln (b1 func39) func39
def q4f:FIn:=⟨[(.agg [(.imm [(.int .i64),(.int .i64),(.int .i64),(.int .i64),(.int .i64),(.int .i64),.bool]),(.imm [(.int .i64),(.int .i64),(.int .i64),(.int .i64),(.int .i64),(.int .i64),.bool])]),(.agg [(.imm [(.int .i64),(.int .i64),(.int .i64)]),(.imm [(.int .i64),(.int .i64),(.int .i64)])])],[]⟩
def q4g:List FOut:=[⟨(.imm [.str,.str,.str]),[],none⟩]
def q2m:Tmpl:={ t:=(.any::.any::.any::(.ptr 1 0)::.any::(.vec 2)::zl 10 ((.imm [(.int .i64)])::(.int .i64)::(.int .i64)::zl 47 [])),h:=[.dead,.cells [(.imm [(.int .i64),(.int .i64),(.int .i64)]),(.imm [(.int .i64),(.int .i64),(.int .i64)])],.vec 105 [.str,.str,.str]],pro:=[(5,105,[.str,.str,.str])] }
def q29:List Out:=[⟨(.exit 0),{ t:=(zl 5 ((.vec 2)::zl 60 [])),h:=[.dead,.dead,.vec 105 [.str,.str,.str]] }⟩]
noncomputable def q35:List (FuncId×wk):=[(23,q9 q1p q1k vX),(37,q9 qeQ qeO q7Z),(38,q9 q5P q5q kS),(39,q9 q8E q9c q07)]
theorem q6J:∀x,x∈q35->qV prog qa x.1 x.2:=(alc q5p (alc qk5 (alc q6X (alc qg4 aln))))
noncomputable def kC:=qe q35 [(25,f25)] [] 0
noncomputable def vO:=q0G kC 25 f25 4 q2m q29
theorem qaG:qu prog qa kC.nimp (qK prog kC.iter 25) (wB f25 4) (qp q2m q29 (qm vO)):=gk kC qc q8 q6J aln (b1 func25) func25
noncomputable def q9w:=qe q35 [(25,f25)] [((25,4),qp q2m q29 (qm vO))] 0
noncomputable def uO:=qo q9w 25 f25 true q4f q4g
theorem qcA:qV prog qa 25 (q9 q4f q4g uO):=sk q9w qc q8 q6J (alc (lk func25 qaG) aln) (b1 func25) func25
def q1K:FIn:=⟨[(.agg [(.imm [(.int .i64),(.int .i64),(.int .i64),(.int .i64),(.int .i64),(.int .i64),.bool]),(.imm [(.int .i64),(.int .i64),(.int .i64),(.int .i64),(.int .i64),(.int .i64),.bool])]),(.agg [(.imm [(.int .i64),(.int .i64),(.int .i64)]),(.imm [(.int .i64),(.int .i64),(.int .i64)])])],[]⟩
def q1w:List FOut:=[⟨(.tuple [.bool,(.agg [(.int .i64),(.int .i64),(.int .i64)]),(.int .i64)]),[],none⟩]
noncomputable def q5r:=qe [(21,q9 v8 v6 zS),(22,q9 q3t q37 yQ),(23,q9 q1p q1k vX),(24,q9 q7o q7c q1d),(25,q9 q4f q4g uO),(17,q9 qJ qI qg)] [(12,f12)] [] 0
noncomputable def vb:=qo q5r 12 f12 true q1K q1w
theorem q9K:qV prog qa 12 (q9 q1K q1w vb):=sk q5r qc q8 (alc jD (alc qbG (alc q5p (alc qf9 (alc qcA (alc wt aln)))))) aln (b1 func12) func12
def q4r:FIn:=⟨[(.int .i64)],[]⟩
def q4b:List FOut:=[⟨(.agg [(.imm [(.int .i64),(.int .i64),(.int .i64)]),(.imm [(.int .i64),(.int .i64),(.int .i64)])]),[],none⟩]
noncomputable def q9p:=qe [] [(13,f13)] [] 0
noncomputable def uR:=qo q9p 13 f13 true q4r q4b
theorem qcC:qV prog qa 13 (q9 q4r q4b uR):=sk q9p qc q8 aln aln (b1 func13) func13
def q5O:FIn:=⟨[],[]⟩
def q5i:List FOut:=[⟨.bool,[],none⟩]
noncomputable def qaL:=qe [(10,q9 q5Y q5W kZ),(11,q9 qcq qcZ q5R),(12,q9 q1K q1w vb),(13,q9 q4r q4b uR)] [(5,f5)] [] 0
noncomputable def ue:=qo qaL 5 f5 true q5O q5i
theorem qeh:qV prog qa 5 (q9 q5O q5i ue):=sk qaL qc q8 (alc qdN (alc qiH (alc q9K (alc qcC aln)))) aln (b1 func5) func5
def q3l:FIn:=⟨[(.agg [.str,.str,(.int .i64),(.int .i64),(.int .i64)])],[]⟩
def q2U:List FOut:=[⟨(.int .i64),[],none⟩]
noncomputable def ua:List PV->TR:=qri
theorem q4x:qV prog qa 75 (q9 q3l q2U ua):=qn2
def q9S:FIn:=⟨[(.imm [.str,.str,(.int .i64),(.int .i64),(.int .i64)])],[]⟩
def qax:List FOut:=[⟨(.int .i64),[],none⟩]
def q7d:Tmpl:={ t:=(zl 9 ((.imm [.str,.str,(.int .i64),(.int .i64),(.int .i64)])::(.int .i64)::(.int .i64)::zl 9 [])),h:=[] }
def q73:List Out:=[⟨(.exit 0),{ t:=(zl 21 []),h:=[] }⟩,⟨.ret,{ t:=(.any::.any::(.int .i64)::zl 18 []),h:=[] }⟩]
noncomputable def q3J:=qe [(75,q9 q3l q2U ua)] [(56,f56)] [] 0
noncomputable def q16:=q0G q3J 56 f56 6 q7d q73
theorem qfn:qu prog qa q3J.nimp (qK prog q3J.iter 56) (wB f56 6) (qp q7d q73 (qm q16)):=gk q3J qc q8 (alc q4x aln) aln (b1 func56) func56
noncomputable def qfD:=qe [(75,q9 q3l q2U ua)] [(56,f56)] [((56,6),qp q7d q73 (qm q16))] 0
noncomputable def q3Y:=qo qfD 56 f56 true q9S qax
theorem qic:qV prog qa 56 (q9 q9S qax q3Y):=sk qfD qc q8 (alc q4x aln) (alc (lk func56 qfn) aln) (b1 func56) func56
def qfM:FIn:=⟨[(.imm [.str,.str,(.int .i64),(.int .i64),(.int .i64)]),(.imm [(.int .i64),.bool])],[]⟩
def qfz:List FOut:=[⟨(.int .i64),[],none⟩]
noncomputable def q6p:List PV->TR:=qmo
theorem qhA:qV prog qa 57 (q9 qfM qfz q6p):=qmN
def qb5:FIn:=⟨[(.imm [.str,.str,(.int .i64),(.int .i64),(.int .i64)]),(.imm [(.int .i64),.bool])],[]⟩
def qau:List FOut:=[⟨(.int .i64),[],none⟩]
noncomputable def qfr:=qe [(56,q9 q9S qax q3Y),(57,q9 qfM qfz q6p)] [(40,f40)] [] 0
noncomputable def q43:=qo qfr 40 f40 true qb5 qau
theorem qhw:qV prog qa 40 (q9 qb5 qau q43):=sk qfr qc q8 (alc qic (alc qhA aln)) aln (b1 func40) func40
def q4V:FIn:=⟨[(.agg [(.imm [.str,.str,(.int .i64),(.int .i64),(.int .i64)]),(.imm [(.int .i64),.bool]),(.int .i64),(.int .i64)])],[]⟩
def q4R:List FOut:=[⟨(.int .i64),[],none⟩]
noncomputable def qdX:=qe [(19,q9 yR u6 zV),(40,q9 qb5 qau q43)] [(26,f26)] [] 0
noncomputable def uF:=qo qdX 26 f26 true q4V q4R
theorem q9E:qV prog qa 26 (q9 q4V q4R uF):=sk qdX qc q8 (alc q0F (alc qhw aln)) aln (b1 func26) func26
def kW:FIn:=⟨[(.agg [(.int .i64),(.int .i64)]),(.int .i64)],[]⟩
def kM:List FOut:=[⟨(.int .i64),[],none⟩]
noncomputable def qhU:=qe [] [(27,f27)] [] 0
noncomputable def zr:=qo qhU 27 f27 true kW kM
theorem kh:qV prog qa 27 (q9 kW kM zr):=sk qhU qc q8 aln aln (b1 func27) func27
def kG:FIn:=⟨[(.agg [(.int .i64),(.int .i64)]),(.int .i64)],[]⟩
def kU:List FOut:=[⟨(.int .i64),[],none⟩]
noncomputable def qfL:=qe [(27,q9 kW kM zr)] [(28,f28)] [] 0
noncomputable def zH:=qo qfL 28 f28 true kG kU
theorem kP:qV prog qa 28 (q9 kG kU zH):=sk qfL qc q8 (alc kh aln) aln (b1 func28) func28
def q0C:FIn:=⟨[(.agg [(.imm [.str,.str,(.int .i64),(.int .i64),(.int .i64)]),(.imm [(.int .i64),.bool]),(.int .i64),(.int .i64),(.fn 27 [] []),(.fn 28 [] [])])],[]⟩
def q0U:List FOut:=[⟨(.agg [(.int .i64),(.int .i64)]),[],none⟩]
def yn:Tmpl:={ t:=(.yld::zl 7 ((.imm [(.int .i64),.bool])::(.int .i64)::(.int .i64)::zl 12 [])),h:=[.cells [(.imm [.str,.str,(.int .i64),(.int .i64),(.int .i64)]),(.imm [(.int .i64),.bool]),(.int .i64),(.int .i64),(.fn 27 [] []),(.fn 28 [] [])],.cells [(.int .i64),(.int .i64)],.cells [(.int .i64),(.int .i64)],.cells [(.imm [.str,.str,(.int .i64),(.int .i64),(.int .i64)]),(.imm [(.int .i64),.bool]),(.int .i64),(.int .i64),(.fn 27 [] []),(.fn 28 [] [])]],fs:=[[.any,(.ptr 0 0),(.ptr 1 0),(.ptr 2 0),.any,.any,.any,.any,(.fn 41 [] [(.ptr 3 0)]),.any,.any,.any,.any,.any,.any,.any,.any,.any,.any,.any,.any,.any,.any,.any,.any,.any,.any,.any,.any,.any,.any,.any,.any,.any,.any,.any,.any,.any,.any,.any,.any,.any,.any],[]] }
def yp:List Out:=[⟨(.exit 0),{ t:=(zl 23 []),h:=[.cells [(.imm [.str,.str,(.int .i64),(.int .i64),(.int .i64)]),(.imm [(.int .i64),.bool]),(.int .i64),(.int .i64),(.fn 27 [] []),(.fn 28 [] [])],.cells [(.int .i64),(.int .i64)],.cells [(.int .i64),(.int .i64)],.cells [(.imm [.str,.str,(.int .i64),(.int .i64),(.int .i64)]),(.imm [(.int .i64),.bool]),(.int .i64),(.int .i64),(.fn 27 [] []),(.fn 28 [] [])]],fs:=[[.any,(.ptr 0 0),(.ptr 1 0),(.ptr 2 0),.any,.any,.any,.any,(.fn 41 [] [(.ptr 3 0)]),.any,.any,.any,.any,.any,.any,.any,.any,.any,.any,.any,.any,.any,.any,.any,.any,.any,.any,.any,.any,.any,.any,.any,.any,.any,.any,.any,.any,.any,.any,.any,.any,.any,.any],[]] }⟩]
noncomputable def vj:Env:={ tt:=q2D,glob:=qa,spec:=[(27,q9 kW kM zr),(28,q9 kG kU zH)],body:=[(15,f15),(29,f29),(41,f41)],loops:=[],nimp:=0,iter:=[(41,15,4)] }
noncomputable def ze:=qgH vj (some (15,f15,4)) 41 f41 1 yn yp
theorem q4U:qu prog qa vj.nimp (qK prog vj.iter 41) (wB f41 1) (qp yn yp (qm ze)):=kH (E:=vj) qc ⟨q5D q8,⟨(alc kh (alc kP aln)),aln⟩,aln,(alc (bk func15) (alc (bk func29) (alc (bk func41) aln)))⟩ func41 (by kernel_rfl) (y:=some (15,f15,4)) ⟨func15,by kernel_rfl⟩ (by kernel_rfl) (by kernel_rfl) (fun _=>rfl)
noncomputable def q4u:Env:={ tt:=q2D,glob:=qa,spec:=[(27,q9 kW kM zr),(28,q9 kG kU zH)],body:=[(15,f15),(29,f29),(41,f41)],loops:=[((41,1),qp yn yp (qm ze))],nimp:=0,iter:=[(41,15,4)] }
noncomputable def j7:=qo q4u 15 f15 true q0C q0U
theorem q8C:qV prog qa 15 (q9 q0C q0U j7):=sk q4u qc q8 (alc kh (alc kP aln)) (alc (lk func41 q4U) aln) (alc (bk func15) (alc (bk func29) (alc (bk func41) aln))) func15
def q7m:FIn:=⟨[(.agg [(.imm [.str,.str,(.int .i64),(.int .i64),(.int .i64)]),(.imm [(.int .i64),.bool]),(.int .i64),(.int .i64)])],[]⟩
def q7D:List FOut:=[⟨(.tuple [(.agg [(.int .i64),(.int .i64)]),(.int .i64)]),[],none⟩]
noncomputable def qcj:=qe [(15,q9 q0C q0U j7),(26,q9 q4V q4R uF),(27,q9 kW kM zr),(28,q9 kG kU zH)] [(6,f6),(14,f14)] [] 0
noncomputable def q1c:=qo qcj 6 f6 true q7m q7D
theorem qev:qV prog qa 6 (q9 q7m q7D q1c):=sk qcj qc q8 (alc q8C (alc q9E (alc kh (alc kP aln)))) aln (alc (bk func6) (alc (bk func14) aln)) func6
def q2I:FIn:=⟨[(.agg [(.imm [.str,.str,(.int .i64),(.int .i64),(.int .i64)]),(.imm [(.int .i64),.bool]),(.int .i64),(.int .i64),(.fn 27 [] []),(.fn 28 [] [])]),(.int .i64)],[]⟩
def q2g:List FOut:=[⟨(.imm [(.int .i64)]),[],none⟩]
def q0R:Tmpl:={ t:=(.any::.any::(.ptr 0 0)::(.ptr 1 0)::.nils::(.ptr 2 0)::zl 6 ((.imm [.str,.str,(.int .i64),(.int .i64),(.int .i64)])::(.int .i64)::(.int .i64)::zl 31 [])),h:=[.cells [(.imm [.str,.str,(.int .i64),(.int .i64),(.int .i64)]),(.imm [(.int .i64),.bool]),(.int .i64),(.int .i64),(.fn 27 [] []),(.fn 28 [] [])],.cells [(.int .i64)],.cells [(.vec 3)],.vec 3 [(.int .i64)]],prc:=[(5,0,3,[(.int .i64)])] }
def q0J:List Out:=[⟨(.exit 0),{ t:=(.any::.any::(.ptr 0 0)::(.ptr 1 0)::.nils::(.ptr 2 0)::zl 40 []),h:=[.cells [(.imm [.str,.str,(.int .i64),(.int .i64),(.int .i64)]),(.imm [(.int .i64),.bool]),(.int .i64),(.int .i64),(.fn 27 [] []),(.fn 28 [] [])],.cells [(.int .i64)],.cells [(.vec 3)],.vec 3 [(.int .i64)]] }⟩]
noncomputable def uH:List (FuncId×wk):=[(27,q9 kW kM zr),(28,q9 kG kU zH)]
theorem q0N:∀x,x∈uH->qV prog qa x.1 x.2:=(alc kh (alc kP aln))
noncomputable def yB:Env:={ tt:=q2D,glob:=qa,spec:=uH,body:=[(16,f16),(29,f29),(41,f41)],loops:=[],nimp:=0,iter:=[(41,16,11)] }
noncomputable def wH:=q0G yB 16 f16 4 q0R q0J
theorem q8W:qu prog qa yB.nimp (qK prog yB.iter 16) (wB f16 4) (qp q0R q0J (qm wH)):=gk yB qc q8 q0N aln (alc (bk func16) (alc (bk func29) (alc (bk func41) aln))) func16
def un:Tmpl:={ t:=(.yld::zl 7 ((.imm [(.int .i64),.bool])::(.int .i64)::(.int .i64)::zl 12 [])),h:=[.cells [(.imm [.str,.str,(.int .i64),(.int .i64),(.int .i64)]),(.imm [(.int .i64),.bool]),(.int .i64),(.int .i64),(.fn 27 [] []),(.fn 28 [] [])],.cells [(.int .i64)],.cells [(.vec 3)],.vec 3 [(.int .i64)],.cells [(.imm [.str,.str,(.int .i64),(.int .i64),(.int .i64)]),(.imm [(.int .i64),.bool]),(.int .i64),(.int .i64),(.fn 27 [] []),(.fn 28 [] [])]],fs:=[[.any,.any,(.ptr 0 0),(.ptr 1 0),.nils,(.ptr 2 0),.any,.any,.any,.any,.any,.any,.any,.any,.any,.any,.any,.any,.any,.any,.any,.any,.any,.any,.any,.any,(.fn 41 [] [(.ptr 4 0)]),.any,.any,.any,.any,.any,.any,.any,.any,.any,.any,.any,.any,.any,.any,.any,.any,.any,.any,.any],[]] }
def ux:List Out:=[⟨(.exit 0),{ t:=(zl 23 []),h:=[.cells [(.imm [.str,.str,(.int .i64),(.int .i64),(.int .i64)]),(.imm [(.int .i64),.bool]),(.int .i64),(.int .i64),(.fn 27 [] []),(.fn 28 [] [])],.cells [(.int .i64)],.cells [(.vec 3)],.vec 3 [(.int .i64)],.cells [(.imm [.str,.str,(.int .i64),(.int .i64),(.int .i64)]),(.imm [(.int .i64),.bool]),(.int .i64),(.int .i64),(.fn 27 [] []),(.fn 28 [] [])]],fs:=[[.any,.any,(.ptr 0 0),(.ptr 1 0),.nils,(.ptr 2 0),.any,.any,.any,.any,.any,.any,.any,.any,.any,.any,.any,.any,.any,.any,.any,.any,.any,.any,.any,.any,(.fn 41 [] [(.ptr 4 0)]),.any,.any,.any,.any,.any,.any,.any,.any,.any,.any,.any,.any,.any,.any,.any,.any,.any,.any,.any],[]] }⟩]
noncomputable def ji:Env:={ tt:=q2D,glob:=qa,spec:=uH,body:=[(16,f16),(29,f29),(41,f41)],loops:=[],nimp:=0,iter:=[(41,16,11)] }
noncomputable def zw:=qgH ji (some (16,f16,11)) 41 f41 1 un ux
theorem q6g:qu prog qa ji.nimp (qK prog ji.iter 41) (wB f41 1) (qp un ux (qm zw)):=kH (E:=ji) qc ⟨q5D q8,⟨q0N,aln⟩,aln,(alc (bk func16) (alc (bk func29) (alc (bk func41) aln)))⟩ func41 (by kernel_rfl) (y:=some (16,f16,11)) ⟨func16,by kernel_rfl⟩ (by kernel_rfl) (by kernel_rfl) (fun _=>rfl)
noncomputable def q6P:Env:={ tt:=q2D,glob:=qa,spec:=uH,body:=[(16,f16),(29,f29),(41,f41)],loops:=[((16,4),qp q0R q0J (qm wH)),((41,1),qp un ux (qm zw))],nimp:=0,iter:=[(41,16,11)] }
noncomputable def vG:=qo q6P 16 f16 true q2I q2g
theorem qag:qV prog qa 16 (q9 q2I q2g vG):=sk q6P qc q8 q0N (alc (lk func16 q8W) (alc (lk func41 q6g) aln)) (alc (bk func16) (alc (bk func29) (alc (bk func41) aln))) func16
def q7g:FIn:=⟨[(.agg [(.imm [.str,.str,(.int .i64),(.int .i64),(.int .i64)]),(.imm [(.int .i64),.bool]),(.int .i64),(.int .i64)]),.bool],[]⟩
def q7p:List FOut:=[⟨(.tuple [(.imm [(.int .i64)]),(.int .i64)]),[],none⟩]
noncomputable def qbZ:=qe [(16,q9 q2I q2g vG),(26,q9 q4V q4R uF),(27,q9 kW kM zr),(28,q9 kG kU zH)] [(7,f7),(14,f14)] [] 0
noncomputable def ka:=qo qbZ 7 f7 true q7g q7p
theorem qfm:qV prog qa 7 (q9 q7g q7p ka):=sk qbZ qc q8 (alc qag (alc q9E (alc kh (alc kP aln)))) aln (alc (bk func7) (alc (bk func14) aln)) func7
def jw:FIn:=⟨[(.int .i64),(.int .i64),(.ptr 0 0),(.ptr 1 0)],[.cells [(.int .i64)],.cells [(.imm [(.int .i64),(.int .i64)])]]⟩
def jx:List FOut:=[⟨.bool,[.cells [(.int .i64)],.cells [(.imm [(.int .i64),(.int .i64)])]],none⟩]
noncomputable def q6a:=qe [] [(18,f18)] [] 2
noncomputable def zU:=qo q6a 18 f18 true jw jx
theorem kq:qV prog qa 18 (q9 jw jx zU):=sk q6a qc q8 aln aln (b1 func18) func18
def zi:FIn:=⟨[(.imm [(.int .i64)]),(.fn 18 [] [(.ptr 0 0),(.ptr 1 0)])],[.cells [(.int .i64)],.cells [(.imm [(.int .i64),(.int .i64)])]]⟩
def zj:List FOut:=[⟨(.imm [(.int .i64)]),[.cells [(.int .i64)],.cells [(.imm [(.int .i64),(.int .i64)])]],none⟩]
def z6:Tmpl:={ t:=(.any::(.fn 18 [] [(.ptr 0 0),(.ptr 1 0)])::.any::.any::.any::(.vec 2)::.any::.any::(.imm [(.int .i64)])::(.int .i64)::(.int .i64)::zl 14 []),h:=[.cells [(.int .i64)],.cells [(.imm [(.int .i64),(.int .i64)])],.vec 3 [(.int .i64)]],pro:=[(5,3,[(.int .i64)])] }
def qW:List Out:=[⟨(.exit 0),{ t:=(zl 5 ((.vec 2)::zl 19 [])),h:=[.cells [(.int .i64)],.cells [(.imm [(.int .i64),(.int .i64)])],.vec 3 [(.int .i64)]] }⟩]
noncomputable def qC:=qe [(18,q9 jw jx zU)] [(17,f17)] [] 2
noncomputable def qk:=q0G qC 17 f17 4 z6 qW
theorem yu:qu prog qa qC.nimp (qK prog qC.iter 17) (wB f17 4) (qp z6 qW (qm qk)):=gk qC qc q8 (alc kq aln) aln (b1 func17) func17
noncomputable def wS:=qe [(18,q9 jw jx zU)] [(17,f17)] [((17,4),qp z6 qW (qm qk))] 2
noncomputable def qw:=qo wS 17 f17 true zi zj
theorem ul:qV prog qa 17 (q9 zi zj qw):=sk wS qc q8 (alc kq aln) (alc (lk func17 yu) aln) (b1 func17) func17
def q3q:FIn:=⟨[(.imm [(.int .i64),(.int .i64)]),(.imm [(.int .i64)])],[]⟩
def q2W:List FOut:=[⟨(.tuple [(.int .i64),(.int .i64)]),[],none⟩]
noncomputable def q7V:=qe [(9,q9 wV wU qP),(18,q9 jw jx zU),(17,q9 zi zj qw)] [(8,f8)] [] 0
noncomputable def v7:=qo q7V 8 f8 true q3q q2W
theorem qbF:qV prog qa 8 (q9 q3q q2W v7):=sk q7V qc q8 (alc ya (alc kq (alc ul aln))) aln (b1 func8) func8
def q0D:FIn:=⟨[(.imm [(.int .i64),(.int .i64)])],[]⟩
def q0B:List FOut:=[⟨.bool,[],none⟩]
def kn:Tmpl:={ t:=((.imm [(.int .i64),(.int .i64)])::.any::.any::(.ptr 0 0)::.any::.str::(.ptr 1 0)::zl 24 ((.imm [(.int .i64),(.int .i64)])::(.int .i64)::(.int .i64)::zl 87 [])),h:=[.cells [(.int .i64),(.int .i64)],.cells [(.vec 2),(.vec 3),(.int .i64),(.int .i64)],.vec 34 [.str,.str,(.int .i64),(.int .i64),(.int .i64)],.vec 36 [(.int .i64),.bool]],prc:=[(6,0,34,[.str,.str,(.int .i64),(.int .i64),(.int .i64)]),(6,1,36,[(.int .i64),.bool])] }
def km:List Out:=[⟨(.exit 0),{ t:=((.imm [(.int .i64),(.int .i64)])::.any::.any::(.ptr 0 0)::.any::.any::(.ptr 1 0)::zl 114 []),h:=[.cells [(.int .i64),(.int .i64)],.cells [(.vec 2),(.vec 3),(.int .i64),(.int .i64)],.vec 34 [.str,.str,(.int .i64),(.int .i64),(.int .i64)],.vec 36 [(.int .i64),.bool]] }⟩]
noncomputable def kV:List (FuncId×wk):=[(4,q9 q2F q2J jN),(5,q9 q5O q5i ue),(6,q9 q7m q7D q1c),(7,q9 q7g q7p ka),(8,q9 q3q q2W v7)]
theorem q2Q:∀x,x∈kV->qV prog qa x.1 x.2:=(alc qb1 (alc qeh (alc qev (alc qfm (alc qbF aln)))))
noncomputable def jC:=qe kV [(3,f3)] [] 0
noncomputable def zK:=q0G jC 3 f3 9 kn km
theorem q78:qu prog qa jC.nimp (qK prog jC.iter 3) (wB f3 9) (qp kn km (qm zK)):=gk jC qc q8 q2Q aln (b1 func3) func3
noncomputable def wL:=qe kV [(3,f3)] [((3,9),qp kn km (qm zK))] 0
noncomputable def j9:=qo wL 3 f3 true q0D q0B
theorem q8w:qV prog qa 3 (q9 q0D q0B j9):=sk wL qc q8 q2Q (alc (lk func3 q78) aln) (b1 func3) func3
end Go.Eng

namespace Go.Eng
abbrev qxx(r t:TR):TR:=.br (okR r) t .fail
abbrev qxy(c:Bool)(t:TR):TR:=.br c t .fail
abbrev qxz(l:List PV):TR:=.leaf (0,l)
variable (a0 a1 a2 a3 a4 a5 a6 a7 a8 a9 a10 a11 a12 a13 a16 a33:R)
variable (c0 c1 c2 c3 c4 c5 c6 c7 c8 c9 c10 c11 c12 c13 c14 c17 c18 c19 c34 c35 c36 c37:Int)
variable (d0 d1 d2 d3 d4 d5 d6 d7 d8 d9 d10 d11 d13 d15 d25 d31 d32:Bool)
variable (e0 e1 e2 e3 e4 e5 e6 e7 e10 e11 e12 e13 e14 e20 e21 e22 e23 e24 e26 e27 e28 e29 e30 e38 e39 e40 e41 e42:qxA)
theorem qct:zF [.i c0]=(.br (ile (-100000) c0) (qxz [.b (ile c0 100000)]) (qxz [.b false])):=by kernel_rfl
theorem qdl:zV [.i c0,.i c1]=(qxx (zF [.i c0]) (.br (not (gB (zF [.i c0]) 0)) (qxz [.i 2]) (qxx (zF [.i c1]) (.br (not (gB (zF [.i c1]) 0)) (qxz [.i 2]) (.br (ilt c1 c0) (qxz [.i 9]) (qxz [.i 0])))))):=by kernel_rfl
theorem q0V:wc [.r a0,.i c1,.i c2]=(.br (ilt c2 c1) (qxy (inb c2 (qh a0)) (let r0:=zV [.i (cI a0 c2 0),.i (cI a0 c2 1)];qxx r0 (.br (ine (gI r0 0) 0) (.leaf (2,[.i (gI r0 0)])) (.br (ilt (cI a0 c2 0) 1) (.leaf (2,[.i 2])) (qxz [.r a0,.i c1,.i (wT .i64 c2 1)]))))) (.leaf (1,[]))):=by kernel_rfl
theorem q8R:qP [.r a0]=(.br (ieq (qh a0) 0) (qxz [.i 13]) (.br (ilt 16 (qh a0)) (qxz [.i 5]) (let r0:=qm wc [.r a0,.i (qh a0),.i 0];qxx r0 (.br (jIs r0 0) (qxz [.i 0]) (qxz [.i (gI r0 0)]))))):=by kernel_rfl
theorem q3N:wN [.r a0,.i c1,.i c2,.i c3,.i c4,.i c5,.i c6]=(.br (ilt c2 c1) (qxy (inb c2 (qh a0)) (qxz [.r a0,.i c1,.i (wT .i64 c2 1),.i c3,.i c4,.i (wT .i64 c5 (cI a0 c2 0)),.i (wT .i64 c6 (cI a0 c2 1))])) (.leaf (1,[.i c3,.i c4,.i c5,.i c6]))):=by kernel_rfl
theorem qcl:jN [.r a0]=(let r0:=qP [.r a0];qxx r0 (.br (ine (gI r0 0) 0) (qxz [.i 0,.i 0,.i (gI r0 0)]) (let r1:=qm wN [.r a0,.i (qh a0),.i 0,.i 0,.i 0,.i 0,.i 0];qxx r1 (qxz [.i (gI r1 2),.i (gI r1 3),.i 0])))):=by kernel_rfl
theorem qnQ:jp [.i c0]=(.br (ile (-100000) c0) (qxz [.b (ile c0 100000)]) (qxz [.b false])):=by kernel_rfl
theorem qkD:vz [.i c0]=(.br (ile 1 c0) (qxz [.b (ile c0 100000)]) (qxz [.b false])):=by kernel_rfl
theorem qit:vt [.i c0,.i c1,.i c2,.i c3,.i c4,.i c5,.b d6]=(let t0:TR:=(qxz [.i 2]);let t1:TR:=(qxz [.i 1]);let t2:TR:=(.br (ilt c5 0) t1 (.br (ile 3 c5) t1 (qxz [.i 0])));(qxx (jp [.i c0]) (.br (not (gB (jp [.i c0]) 0)) t0 (qxx (jp [.i c1]) (.br (not (gB (jp [.i c1]) 0)) t0 (qxx (vz [.i c2]) (.br (not (gB (vz [.i c2]) 0)) t0 (qxx (vz [.i c3]) (.br (not (gB (vz [.i c3]) 0)) t0 (.br (ilt c3 c2) (qxz [.i 9]) (.br (ilt c4 0) t0 (.br (ilt 100000 c4) t0 (.br (not d6) (.br (ile c2 c4) t0 t2) t2))))))))))))):=by kernel_rfl
theorem q6U:jq [.i c0,.i c1,.i c2,.i c3,.i c4,.i c5,.i c6,.i c7,.b d8,.i c9,.i c10,.i c11,.i c12,.i c13,.i c14,.b d15,.r a16]=(.br (ilt c1 c0) (qxy (inb c1 (qh a16)) (let r0:=vt [.i (cI a16 c1 0),.i (cI a16 c1 1),.i (cI a16 c1 2),.i (cI a16 c1 3),.i (cI a16 c1 4),.i (cI a16 c1 5),.b (cB a16 c1 6)];qxx r0 (.br (ine (gI r0 0) 0) (.leaf (2,[.i (gI r0 0)])) (qxz [.i c0,.i (wT .i64 c1 1),.i c2,.i c3,.i c4,.i c5,.i c6,.i c7,.b d8,.i c9,.i c10,.i c11,.i c12,.i c13,.i c14,.b d15,.r a16])))) (.leaf (1,[.i c2,.i c3,.i c4,.i c5,.i c6,.i c7,.b d8,.i c9,.i c10,.i c11,.i c12,.i c13,.i c14,.b d15]))):=by kernel_rfl
theorem qfY:uc [.i c0,.i c1,.i c2,.i c3,.i c4,.i c5,.b d6,.i c7,.i c8,.i c9,.i c10,.i c11,.i c12,.b d13]=(let r0:=qm jq [.i (qh [[.i c0,.i c1,.i c2,.i c3,.i c4,.i c5,.b d6],[.i c7,.i c8,.i c9,.i c10,.i c11,.i c12,.b d13]]),.i 0,.i c0,.i c1,.i c2,.i c3,.i c4,.i c5,.b d6,.i c7,.i c8,.i c9,.i c10,.i c11,.i c12,.b d13,.r [[.i c0,.i c1,.i c2,.i c3,.i c4,.i c5,.b d6],[.i c7,.i c8,.i c9,.i c10,.i c11,.i c12,.b d13]]];qxx r0 (.br (jIs r0 0) (.br (ine (gI r0 5) 1) (qxz [.i 14]) (.br (ine (gI r0 12) 1) (qxz [.i 14]) (.br (not (qpJ (ieq (gI r0 0) (gI r0 7)) (qpJ (ieq (gI r0 1) (gI r0 8)) true))) (qxz [.i 16]) (.br (beq (gB r0 6) (gB r0 13)) (qxz [.i 16]) (qxz [.i 0]))))) (qxz [.i (gI r0 0)]))):=by kernel_rfl
theorem q4z:jv [.i c0,.i c1,.r a2,.r a3]=(.br (ilt c1 c0) (qxy (inb c1 (qh a2)) (qxy (inb c1 (qh a3)) (let r0:=uc [.i (cI a2 c1 0),.i (cI a2 c1 1),.i (cI a2 c1 2),.i (cI a2 c1 3),.i (cI a2 c1 4),.i (cI a2 c1 5),.b (cB a2 c1 6),.i (cI a3 c1 0),.i (cI a3 c1 1),.i (cI a3 c1 2),.i (cI a3 c1 3),.i (cI a3 c1 4),.i (cI a3 c1 5),.b (cB a3 c1 6)];qxx r0 (.br (ine (gI r0 0) 0) (.leaf (2,[.i (gI r0 0)])) (qxz [.i c0,.i (wT .i64 c1 1),.r a2,.r a3]))))) (.leaf (1,[]))):=by kernel_rfl
theorem qeq:wR [.r a0,.r a1]=(.br (ieq (qh a0) 0) (qxz [.i 13]) (.br (ilt 16 (qh a0)) (qxz [.i 5]) (.br (ine (qh a0) (qh a1)) (qxz [.i 8]) (let r0:=qm jv [.i (qh a0),.i 0,.r a0,.r a1];qxx r0 (.br (jIs r0 0) (qxz [.i 0]) (qxz [.i (gI r0 0)])))))):=by kernel_rfl
theorem qnv:q89 [.i c0,.i c1,.i c2,.i c3,.i c4,.i c5,.b d6]=(.br d6 (.br (ieq c5 2) (qxz [.i c0,.i c1,.i c2,.i c3,.i c4,.i c5,.b d6,.i (cI [[.i (-1),.i (-1),.i 1,.i 1,.i 1,.i (-1)]] 0 5)]) (.br (ieq c5 1) (qxz [.i c0,.i c1,.i c2,.i c3,.i c4,.i c5,.b d6,.i (cI [[.i (-1),.i (-1),.i 1,.i 1,.i 1,.i (-1)]] 0 4)]) (qxy (ieq c5 0) (qxz [.i c0,.i c1,.i c2,.i c3,.i c4,.i c5,.b d6,.i (cI [[.i (-1),.i (-1),.i 1,.i 1,.i 1,.i (-1)]] 0 3)])))) (.br (ieq c5 2) (qxz [.i c0,.i c1,.i c2,.i c3,.i c4,.i c5,.b d6,.i (cI [[.i (-1),.i (-1),.i 1,.i 1,.i 1,.i (-1)]] 0 2)]) (.br (ieq c5 1) (qxz [.i c0,.i c1,.i c2,.i c3,.i c4,.i c5,.b d6,.i (cI [[.i (-1),.i (-1),.i 1,.i 1,.i 1,.i (-1)]] 0 1)]) (qxy (ieq c5 0) (qxz [.i c0,.i c1,.i c2,.i c3,.i c4,.i c5,.b d6,.i (cI [[.i (-1),.i (-1),.i 1,.i 1,.i 1,.i (-1)]] 0 0)]))))):=by kernel_rfl
theorem q9O:vC [.i c0,.i c1,.i c2,.i c3,.i c4,.i c5,.b d6,.i c7,.i c8]=(.br (ilt c8 0) (qxz [.i c2]) (qxz [.i c3])):=by kernel_rfl
theorem qg9:vA [.i c0,.i c1,.i c2,.i c3,.i c4,.i c5,.b d6]=(let r0:=vt [.i c0,.i c1,.i c2,.i c3,.i c4,.i c5,.b d6];qxx r0 (.br (ine (gI r0 0) 0) (qxz [.i 0,.i (gI r0 0)]) (let r1:=q89 [.i c0,.i c1,.i c2,.i c3,.i c4,.i c5,.b d6];qxx r1 (let r2:=vC [.i (gI r1 0),.i (gI r1 1),.i (gI r1 2),.i (gI r1 3),.i (gI r1 4),.i (gI r1 5),.b (gB r1 6),.i (gI r1 7),.i (gI r1 7)];qxx r2 (qxz [.i (wT .i64 (gI r2 0) (q8T .i64 (gI r1 7) (gI r1 4))),.i 0]))))):=by kernel_rfl
theorem q3M:wM [.r a0,.i c1,.i c2,.r a3,.r a4,.r a5]=(.br (ilt c2 c1) (qxy (inb c2 (qh a0)) (let r0:=vA [.i (cI a0 c2 0),.i (cI a0 c2 1),.i (cI a0 c2 2),.i (cI a0 c2 3),.i (cI a0 c2 4),.i (cI a0 c2 5),.b (cB a0 c2 6)];qxx r0 (qxy (inb c2 (qh a4)) (let r1:=vA [.i (cI a4 c2 0),.i (cI a4 c2 1),.i (cI a4 c2 2),.i (cI a4 c2 3),.i (cI a4 c2 4),.i (cI a4 c2 5),.b (cB a4 c2 6)];qxx r1 (.br (ine (wT .i64 (gI r0 1) (gI r1 1)) 0) (.leaf (2,[.i (qlt (gI r0 1) (gI r1 1))])) (.br (cB a0 c2 6) (qxy (ile ((qh a5)+(qh [[.i (q3e .i64 (gI r1 0) (gI r0 0))]])) 17592186044416) (qxz [.r a0,.i c1,.i (wT .i64 c2 1),.r a3,.r a4,.r (q1i a5 [[.i (q3e .i64 (gI r1 0) (gI r0 0))]])])) (qxy (ile ((qh a5)+(qh [[.i (q3e .i64 (gI r0 0) (gI r1 0))]])) 17592186044416) (qxz [.r a0,.i c1,.i (wT .i64 c2 1),.r a3,.r a4,.r (q1i a5 [[.i (q3e .i64 (gI r0 0) (gI r1 0))]])])))))))) (.leaf (1,[.r a5]))):=by kernel_rfl
theorem qcr:jU [.r a0,.r a1]=(let r0:=wR [.r a0,.r a1];qxx r0 (.br (ine (gI r0 0) 0) (qxz [.r [],.i (gI r0 0)]) (let r1:=qm wM [.r a0,.i (qh a0),.i 0,.r a0,.r a1,.r []];qxx r1 (.br (jIs r1 0) (qxz [.r (gR r1 0),.i 0]) (qxz [.r [],.i (gI r1 0)]))))):=by kernel_rfl
theorem qby:zS [.i c0,.i c1]=(qxz [.b (ilt c1 0)]):=by kernel_rfl
theorem wo:ql [.r a0,.i c1,.i c2,.r a3]=(.br (ilt c2 c1) (qxy (inb c2 (qh a0)) (let r0:=zS [.i c2,.i (cI a0 c2 0)];qxx r0 (.br (gB r0 0) (qxy (ile ((qh a3)+(qh [[.i c2]])) 17592186044416) (qxz [.r a0,.i c1,.i (wT .i64 c2 1),.r (q1i a3 [[.i c2]])])) (qxz [.r a0,.i c1,.i (wT .i64 c2 1),.r a3])))) (.leaf (1,[.r a3]))):=by kernel_rfl
theorem uX:qg [.r a0]=(let r0:=qm ql [.r a0,.i (qh a0),.i 0,.r []];qxx r0 (qxz [.r (gR r0 0)])):=by kernel_rfl
theorem qgh:kZ [.r a0,.r a1]=(let r0:=jU [.r a0,.r a1];qxx r0 (.br (ieq (gI r0 1) 0) (let r1:=qg [.r (gR r0 0)];qxx r1 (qxz [.b (ieq (qh (gR r1 0)) 0),.i (gI r0 1)])) (qxz [.b false,.i (gI r0 1)]))):=by kernel_rfl
theorem qca:q0w [.i c0,.i c1,.r a2,.r a3,.r a4]=(.br (ilt c1 c0) (qxy (inb c1 (qh a2)) (qxy (ile ((qh a3)+(qh [[.i (cI a2 c1 0),.i 0,.i 100,.i 104,.i 4,.i 1,.b false]])) 2513169434916) (qxy (ile ((qh a4)+(qh [[.i (cI a2 c1 0),.i 0,.i 90,.i 92,.i 4,.i 1,.b true]])) 2513169434916) (qxz [.i c0,.i (wT .i64 c1 1),.r a2,.r (q1i a3 [[.i (cI a2 c1 0),.i 0,.i 100,.i 104,.i 4,.i 1,.b false]]),.r (q1i a4 [[.i (cI a2 c1 0),.i 0,.i 90,.i 92,.i 4,.i 1,.b true]])])))) (.leaf (1,[.r a3,.r a4]))):=by kernel_rfl
theorem qly  : q5R []=(let r0:=qm q0w [.i (qh [[.i 0],[.i 1000]]),.i 0,.r [[.i 0],[.i 1000]],.r [],.r []];qxx r0 (qxz [.r (gR r0 0),.r (gR r0 1)])):=by kernel_rfl
theorem qkm:q3L [.i c0,.i c1,.i c2]=(qxx (jp [.i c0]) (.br (not (gB (jp [.i c0]) 0)) (qxz [.i 2]) (qxx (jp [.i c1]) (.br (not (gB (jp [.i c1]) 0)) (qxz [.i 2]) (qxx (vz [.i c2]) (.br (not (gB (vz [.i c2]) 0)) (qxz [.i 2]) (qxz [.i 0]))))))):=by kernel_rfl
theorem qkO:q01 [.i c0,.i c1,.i c2,.i c3,.i c4,.i c5,.b d6,.i c7,.i c8,.i c9]=(let r0:=vt [.i c0,.i c1,.i c2,.i c3,.i c4,.i c5,.b d6];qxx r0 (.br (ine (gI r0 0) 0) (qxz [.i (gI r0 0)]) (let r1:=q3L [.i c7,.i c8,.i c9];qxx r1 (qxz [.i (gI r1 0)])))):=by kernel_rfl
theorem qmF:q91 [.i c0,.i c1,.i c2,.i c3,.i c4,.i c5,.b d6,.i c7,.i c8,.i c9]=(qxz [.i (q3e .i64 c7 c0),.i (q3e .i64 c8 c1)]):=by kernel_rfl
theorem qeo:z7 [.i c0,.i c1,.i c2,.i c3,.i c4,.i c5,.b d6,.i c7,.i c8,.i c9]=(let p0:List PV:=[.i c0,.i c1,.i c2,.i c3,.i c4,.i c5,.b d6,.i c7,.i c8,.i c9];let t0:=q91 p0;(qxx (q01 p0) (.br (ine (gI (q01 p0) 0) 0) (qxz [.i 0,.i (gI (q01 p0) 0)]) (qxx t0 (qxz [.i (wT .i64 (q8T .i64 (gI t0 0) (gI t0 0)) (q8T .i64 (gI t0 1) (gI t0 1))),.i 0]))))):=by kernel_rfl
theorem qeg:w9 [.i c0,.i c1,.i c2,.i c3,.i c4,.i c5,.b d6,.i c7,.i c8,.i c9]=(.br (ile c2 c9) (qxz [.b (ile c9 c3)]) (qxz [.b false])):=by kernel_rfl
theorem q3O:j5 [.i c0,.i c1,.r a2,.r a3,.r a4,.r a5]=(let p0:List PV:=[.i (cI a2 c1 0),.i (cI a2 c1 1),.i (cI a2 c1 2),.i (cI a2 c1 3),.i (cI a2 c1 4),.i (cI a2 c1 5),.b (cB a2 c1 6),.i (cI a4 c1 0),.i (cI a4 c1 1),.i (cI a4 c1 2)];let p1:List PV:=[.i (cI a3 c1 0),.i (cI a3 c1 1),.i (cI a3 c1 2),.i (cI a3 c1 3),.i (cI a3 c1 4),.i (cI a3 c1 5),.b (cB a3 c1 6),.i (cI a5 c1 0),.i (cI a5 c1 1),.i (cI a5 c1 2)];let t0:TR:=(.leaf (2,[.i 14]));(.br (ilt c1 c0) (qxy (inb c1 (qh a2)) (qxy (inb c1 (qh a4)) (qxx (z7 p0) (.br (ine (gI (z7 p0) 1) 0) (.leaf (2,[.i (gI (z7 p0) 1)])) (qxy (inb c1 (qh a3)) (qxy (inb c1 (qh a5)) (qxx (z7 p1) (.br (ine (gI (z7 p1) 1) 0) (.leaf (2,[.i (gI (z7 p1) 1)])) (qxy (inb c1 (qh a2)) (qxy (inb c1 (qh a4)) (qxx (w9 p0) (.br (not (gB (w9 p0) 0)) t0 (qxy (inb c1 (qh a3)) (qxy (inb c1 (qh a5)) (qxx (w9 p1) (.br (not (gB (w9 p1) 0)) t0 (qxz [.i c0,.i (wT .i64 c1 1),.r a2,.r a3,.r a4,.r a5]))))))))))))))))) (.leaf (1,[])))):=by kernel_rfl
theorem qe1:yQ [.r a0,.r a1,.r a2,.r a3]=(let r0:=wR [.r a0,.r a1];qxx r0 (.br (ine (gI r0 0) 0) (qxz [.i (gI r0 0)]) (.br (ine (qh a2) (qh a0)) (qxz [.i 8]) (.br (ine (qh a3) (qh a1)) (qxz [.i 8]) (let r1:=qm j5 [.i (qh a0),.i 0,.r a0,.r a1,.r a2,.r a3];qxx r1 (.br (jIs r1 0) (qxz [.i 0]) (qxz [.i (gI r1 0)]))))))):=by kernel_rfl
theorem q5B:vJ [.r a0,.i c1,.i c2,.r a3,.r a4,.r a5]=(let i0:Int:=(q3e .i64 (cI a3 c2 2) (cI a4 c2 2));(.br (ilt c2 c1) (qxy (inb c2 (qh a0)) (qxy (inb c2 (qh a3)) (qxy (inb c2 (qh a4)) (.br (cB a0 c2 6) (qxy (ile ((qh a5)+(qh [[.i (q3e .i64 0 i0)]])) 17592186044416) (qxz [.r a0,.i c1,.i (wT .i64 c2 1),.r a3,.r a4,.r (q1i a5 [[.i (q3e .i64 0 i0)]])])) (qxy (ile ((qh a5)+(qh [[.i i0]])) 17592186044416) (qxz [.r a0,.i c1,.i (wT .i64 c2 1),.r a3,.r a4,.r (q1i a5 [[.i i0]])])))))) (.leaf (1,[.r a5])))):=by kernel_rfl
theorem qeF:vX [.r a0,.r a1,.r a2,.r a3]=(let r0:=qm vJ [.r a0,.i (qh a0),.i 0,.r a2,.r a3,.r []];qxx r0 (qxz [.r (gR r0 0)])):=by kernel_rfl
theorem q2h:qv [.s e0,.s e1]=(.br (ile (zG e1) (zG e0)) (qxy (q5U (zG e1) (zG e0)) (qxy (q5U 0 (zG e1)) (qxz [.b (seq (qbE e0 0 (zG e1)) e1)]))) (qxz [.b false])):=by kernel_rfl
theorem q20:qN [.s e0,.s e1]=(let r0:=qv [.s e0,.s e1];qxx r0 (.br (gB r0 0) (qxy (q5U (zG e0) (zG e0)) (qxy (q5U (zG e1) (zG e0)) (qxz [.s (qbE e0 (zG e1) (zG e0))]))) (qxz [.s e0]))):=by kernel_rfl
theorem qaw:qL [.s e0,.s e1]=(let r0:=qN [.s e0,.s e1];qxx r0 (qxz [.s (gS r0 0)])):=by kernel_rfl
theorem qiG:qy [.s e0]=(let t0:=qL [.s e0,.s [45]];let s0:List UInt8:=(gS t0 0);let t1:TR:=(qxz [.i 3]);let t2:=q3F [.s s0,.s [48,49,50,51,52,53,54,55,56,57]];let t3:TR:=(.br (ilt 1024 (zG s0)) (qxz [.i 11]) (qxz [.i 0]));(qxx t0 (.br (seq s0 []) t1 (qxx t2 (.br (not (seq (gS t2 0) [])) t1 (qxy (inb 0 (zG s0)) (.br (ieq (sat s0 0) 48) (.br (not (seq e0 [48])) t1 t3) t3))))))):=by kernel_rfl
theorem q5Z:zB [.s e0,.s e1]=(let r0:=wi [.s e0,.s e1];qxx r0 (.br (ile 0 (gI r0 0)) (qxy (q5U (gI r0 0) (zG e0)) (qxy (q5U 0 (gI r0 0)) (qxy (q5U (zG e0) (zG e0)) (qxy (q5U (wT .i64 (gI r0 0) (zG e1)) (zG e0)) (qxz [.s (qbE e0 0 (gI r0 0)),.s (qbE e0 (wT .i64 (gI r0 0) (zG e1)) (zG e0)),.b true]))))) (qxz [.s e0,.s [],.b false]))):=by kernel_rfl
theorem qiq:q25 [.s e0,.s e1]=(let r0:=zB [.s e0,.s e1];qxx r0 (qxz [.s (gS r0 0),.s (gS r0 1),.b (gB r0 2)])):=by kernel_rfl
theorem qmn:qA [.s e0]=(let r0:=q25 [.s e0,.s [47]];qxx r0 (.br (not (gB r0 2)) (qxz [.s (gS r0 0),.s [49],.b (gB r0 2)]) (qxz [.s (gS r0 0),.s (gS r0 1),.b (gB r0 2)]))):=by kernel_rfl
theorem qc1:q2c [.r a0,.i c1,.i c2]=(.br (ilt c2 c1) (qxy (inb c2 (qh a0)) (let r0:=qy [.s (cS a0 c2 0)];qxx r0 (.br (ine (gI r0 0) 0) (.leaf (2,[.i (gI r0 0)])) (qxz [.r a0,.i c1,.i (wT .i64 c2 1)])))) (.leaf (1,[]))):=by kernel_rfl
theorem qm8:zC [.r a0]=(let r0:=qm q2c [.r a0,.i (qh a0),.i 0];qxx r0 (.br (jIs r0 0) (qxz [.i 0]) (qxz [.i (gI r0 0)]))):=by kernel_rfl
theorem qkH:jm [.s e0]=(.br (seq e0 [48]) (qxz [.i 0]) (qxy (inb 0 (zG e0)) (.br (ieq (sat e0 0) 45) (qxz [.i (-1)]) (qxz [.i 1])))):=by kernel_rfl
theorem qiR:q2L [.s e0,.s e1]=(.br (ine (zG e0) (zG e1)) (.br (ilt (zG e0) (zG e1)) (qxz [.i (-1)]) (qxz [.i 1])) (let r0:=q0o [.s e0,.s e1];qxx r0 (qxz [.i (gI r0 0)]))):=by kernel_rfl
theorem qfX:kQ [.s e0,.s e1]=(let r0:=zC [.r [[.s e0],[.s e1]]];qxx r0 (.br (ine (gI r0 0) 0) (qxz [.i 0,.i (gI r0 0)]) (let r1:=jm [.s e0];qxx r1 (let r2:=jm [.s e1];qxx r2 (.br (ilt (gI r1 0) (gI r2 0)) (qxz [.i (-1),.i 0]) (qxx r2 (.br (ilt (gI r2 0) (gI r1 0)) (qxz [.i 1,.i 0]) (let r3:=qL [.s e0,.s [45]];qxx r3 (let r4:=qL [.s e1,.s [45]];qxx r4 (let r5:=q2L [.s (gS r3 0),.s (gS r4 0)];qxx r5 (qxz [.i (q8T .i64 (gI r1 0) (gI r5 0)),.i 0]))))))))))):=by kernel_rfl
theorem qnS:zh [.i c0]=(qxx (q13 [.i c0]) (qxz [.s (gS (q13 [.i c0]) 0)])):=by kernel_rfl
theorem q93:wX [.b d0,.i c1,.r a2]=(let i0:Int:=(q3e .i64 c1 1);let t0:TR:=(.leaf (1,[.b d0,.i c1,.r a2]));(.br (ilt 0 c1) (qxy (inb i0 232) (qxy (inb i0 232) (.br (ieq (cI a2 i0 0) 0) (qxz [.b d0,.i i0,.r a2]) t0))) t0)):=by kernel_rfl
theorem qaD:qB [.b d0,.i c1,.r a2]=(let r0:=qm wX [.b d0,.i c1,.r a2];qxx r0 (qxz [.b (gB r0 0),.i (gI r0 1),.r (gR r0 2)])):=by kernel_rfl
theorem qi1:q1j [.s e0,.b d1,.i c2,.r a3]=(let i0:Int:=(zG e0);let i1:Int:=(qlt 0 (q3e .i64 i0 9));let t0:=vo [.s (qbE e0 i1 i0)];(.br (ilt 0 i0) (qxy (q5U i0 i0) (qxy (q5U i1 i0) (qxx t0 (qxy (inb c2 232) (qxy (inb c2 232) (qxy (q5U i1 i0) (qxy (q5U 0 i1) (qxz [.s (qbE e0 0 i1),.b d1,.i (wT .i64 c2 1),.r (q9e a3 c2 0 [.i (gI t0 0)])])))))))) (.leaf (1,[.b d1,.i c2,.r a3])))):=by kernel_rfl
theorem qky:zI [.s e0]=(qxy (inb 0 (zG e0)) (let r0:=qL [.s e0,.s [45]];qxx r0 (let r1:=qm q1j [.s (gS r0 0),.b (ieq (sat e0 0) 45),.i 0,.r (q31 232 [.i 0])];qxx r1 (let r2:=qB [.b (gB r1 0),.i (gI r1 1),.r (gR r1 2)];qxx r2 (qxz [.b (gB r2 0),.i (gI r2 1),.r (gR r2 2)]))))):=by kernel_rfl
theorem q3V:wI [.i c0,.i c1,.i c2,.i c3,.b d4,.i c5,.r a6,.b d7,.i c8,.r a9]=(let i0:Int:=(wT .i64 c3 c1);let b0:Bool:=(inb i0 232);let i1:Int:=(wT .i64 (cI a6 i0 0) c2);let i2:Int:=(wT .i64 i1 (q8T .i64 c0 (cI a9 c3 0)));let i3:Int:=(qbh .i64 i2 1000000000);let i4:Int:=(q3e .i64 i2 (q8T .i64 i3 1000000000));let p0:List PV:=[.b d7,.i c8,.r a9];let i5:Int:=(qlt c5 (wT .i64 i0 1));let i6:Int:=(wT .i64 c3 1);let i7:Int:=(qbh .i64 i1 1000000000);let i8:Int:=(q3e .i64 i1 (q8T .i64 i7 1000000000));let t0:TR:=(qxy b0 (qxy b0 (.br (ilt c3 c8) (qxy (inb c3 232) (qxy (inb c3 232) (.br (ilt i4 0) (qxy b0 (qxy b0 (qxz ((.i c0)::(.i c1)::(.i (q3e .i64 i3 1))::(.i i6)::(.b d4)::(.i i5)::(.r (q9e a6 i0 0 [.i (wT .i64 i4 1000000000)]))::p0)))) (qxy b0 (qxy b0 (qxz ((.i c0)::(.i c1)::(.i i3)::(.i i6)::(.b d4)::(.i i5)::(.r (q9e a6 i0 0 [.i i4]))::p0))))))) (.br (ilt i8 0) (qxy b0 (qxy b0 (qxz ((.i c0)::(.i c1)::(.i (q3e .i64 i7 1))::(.i i6)::(.b d4)::(.i i5)::(.r (q9e a6 i0 0 [.i (wT .i64 i8 1000000000)]))::p0)))) (qxy b0 (qxy b0 (qxz ((.i c0)::(.i c1)::(.i i7)::(.i i6)::(.b d4)::(.i i5)::(.r (q9e a6 i0 0 [.i i8]))::p0))))))));(.br (ilt c3 c8) t0 (.br (ine c2 0) t0 (.leaf (1,((.b d4)::(.i c5)::(.r a6)::p0)))))):=by kernel_rfl
theorem qco:qH [.i c0,.i c1,.b d2,.i c3,.r a4,.b d5,.i c6,.r a7]=(let r0:=qm wI [.i c0,.i c1,.i 0,.i 0,.b d2,.i c3,.r a4,.b d5,.i c6,.r a7];qxx r0 (let r1:=qB [.b (gB r0 0),.i (gI r0 1),.r (gR r0 2)];qxx r1 (qxz [.b (gB r1 0),.i (gI r1 1),.r (gR r1 2),.b (gB r0 3),.i (gI r0 4),.r (gR r0 5)]))):=by kernel_rfl
theorem q9J:vB [.i c0,.b d1,.i c2,.r a3,.b d4,.i c5,.r a6]=(let b0:Bool:=(inb c0 232);let p0:List PV:=[.b d1,.i c2,.r a3,.b d4,.i c5,.r a6];(.br (ile 0 c0) (qxy b0 (qxy b0 (qxy b0 (qxy b0 (.br (ine (cI a3 c0 0) (cI a6 c0 0)) (qxy b0 (qxy b0 (qxy b0 (qxy b0 (.leaf (2,((.i (q3e .i64 (cI a3 c0 0) (cI a6 c0 0)))::p0))))))) (qxz ((.i (q3e .i64 c0 1))::p0))))))) (.leaf (1,p0)))):=by kernel_rfl
theorem qbD:zT [.b d0,.i c1,.r a2,.b d3,.i c4,.r a5]=(.br (ine c1 c4) (qxz [.i (q3e .i64 c1 c4),.b d0,.i c1,.r a2,.b d3,.i c4,.r a5]) (let r0:=qm vB [.i (q3e .i64 c1 1),.b d0,.i c1,.r a2,.b d3,.i c4,.r a5];qxx r0 (.br (jIs r0 0) (qxz [.i 0,.b (gB r0 0),.i (gI r0 1),.r (gR r0 2),.b (gB r0 3),.i (gI r0 4),.r (gR r0 5)]) (qxz [.i (gI r0 0),.b (gB r0 1),.i (gI r0 2),.r (gR r0 3),.b (gB r0 4),.i (gI r0 5),.r (gR r0 6)])))):=by kernel_rfl
theorem qeV:uQ [.b d0,.i c1,.r a2,.b d3,.i c4,.r a5]=(let i0:Int:=(q3e .i64 c4 1);let b0:Bool:=(ilt i0 0);let b1:Bool:=(ilt 1 c4);let p0:List PV:=[.b d0,.i c1,.r a2,.b d3,.i c4,.r a5];let t0:TR:=(qxz ((.i 1)::p0));let b2:Bool:=(ile c4 i0);let b3:Bool:=(inb i0 232);let i1:Int:=(cI a5 i0 0);let i2:Int:=(wT .i64 i1 1);let b4:Bool:=(ine i2 0);let b5:Bool:=(ine i1 0);let t1:TR:=(.br b0 (qxy b1 t0) (.br b2 (qxy b1 t0) (qxy b3 (qxy b3 (.br b1 (qxy b4 (.br (ilt 0 (qbh .i64 0 i2)) (qxz ((.i (qd7 (qbh .i64 0 i2) 999999999))::p0)) t0)) (qxy b5 (.br (ilt 0 (qbh .i64 0 i1)) (qxz ((.i (qd7 (qbh .i64 0 i1) 999999999))::p0)) t0)))))));let i3:Int:=(wT .i64 0 (cI a2 i0 0));let t2:TR:=(qxy b1 (.br (ilt 0 (qbh .i64 i3 1)) (qxz ((.i (qd7 (qbh .i64 i3 1) 999999999))::p0)) t0));let t3:TR:=(.br b0 t1 (.br (ile c1 i0) t1 (qxy b3 (qxy b3 (.br b0 t2 (.br b2 t2 (qxy b3 (qxy b3 (.br b1 (qxy b4 (.br (ilt 0 (qbh .i64 i3 i2)) (qxz ((.i (qd7 (qbh .i64 i3 i2) 999999999))::p0)) t0)) (qxy b5 (.br (ilt 0 (qbh .i64 i3 i1)) (qxz ((.i (qd7 (qbh .i64 i3 i1) 999999999))::p0)) t0)))))))))));let i4:Int:=(q8T .i64 (cI a2 c4 0) 1000000000);let i5:Int:=(wT .i64 i4 0);let t4:TR:=(qxy b1 (.br (ilt 0 (qbh .i64 i5 1)) (qxz ((.i (qd7 (qbh .i64 i5 1) 999999999))::p0)) t0));let t5:TR:=(.br b0 t4 (.br b2 t4 (qxy b3 (qxy b3 (.br b1 (qxy b4 (.br (ilt 0 (qbh .i64 i5 i2)) (qxz ((.i (qd7 (qbh .i64 i5 i2) 999999999))::p0)) t0)) (qxy b5 (.br (ilt 0 (qbh .i64 i5 i1)) (qxz ((.i (qd7 (qbh .i64 i5 i1) 999999999))::p0)) t0)))))));let i6:Int:=(wT .i64 i4 (cI a2 i0 0));let t6:TR:=(qxy b1 (.br (ilt 0 (qbh .i64 i6 1)) (qxz ((.i (qd7 (qbh .i64 i6 1) 999999999))::p0)) t0));(.br (ilt c4 0) t3 (.br (ile c1 c4) t3 (qxy (inb c4 232) (qxy (inb c4 232) (.br b0 t5 (.br (ile c1 i0) t5 (qxy b3 (qxy b3 (.br b0 t6 (.br b2 t6 (qxy b3 (qxy b3 (.br b1 (qxy b4 (.br (ilt 0 (qbh .i64 i6 i2)) (qxz ((.i (qd7 (qbh .i64 i6 i2) 999999999))::p0)) t0)) (qxy b5 (.br (ilt 0 (qbh .i64 i6 i1)) (qxz ((.i (qd7 (qbh .i64 i6 i1) 999999999))::p0)) t0)))))))))))))))):=by kernel_rfl
theorem qcV:vN [.i c0,.i c1,.b d2,.i c3,.r a4,.b d5,.i c6,.r a7,.b d8,.i c9,.r a10,.b d11,.i c12,.r a13]=(let r0:=zT [.b d11,.i c12,.r a13,.b d5,.i c6,.r a7];qxx r0 (.br (ile 0 (gI r0 0)) (let r1:=uQ [.b (gB r0 1),.i (gI r0 2),.r (gR r0 3),.b (gB r0 4),.i (gI r0 5),.r (gR r0 6)];qxx r1 (let r2:=qH [.i (q3e .i64 0 (gI r1 0)),.i 0,.b (gB r1 1),.i (gI r1 2),.r (gR r1 3),.b (gB r1 4),.i (gI r1 5),.r (gR r1 6)];qxx r2 (qxz [.i c0,.i (wT .i64 c1 (gI r1 0)),.b d2,.i c3,.r a4,.b (gB r2 3),.i (gI r2 4),.r (gR r2 5),.b d8,.i c9,.r a10,.b (gB r2 0),.i (gI r2 1),.r (gR r2 2)]))) (.leaf (1,[.i c0,.i c1,.b d2,.i c3,.r a4,.b (gB r0 4),.i (gI r0 5),.r (gR r0 6),.b d8,.i c9,.r a10,.b (gB r0 1),.i (gI r0 2),.r (gR r0 3)])))):=by kernel_rfl
theorem qda:u9 [.i c0,.b d1,.i c2,.r a3,.b d4,.i c5,.r a6,.b d7,.i c8,.r a9,.b d10,.i c11,.r a12]=(.br (ile 0 c0) (qxy (q5U 232 232) (qxy (q5U 1 232) (qxy (q5U c11 232) (qxy (q5U 0 c11) (qxy (inb c0 232) (qxy (inb c0 232) (let r0:=qB [.b d10,.i (wT .i64 c11 1),.r (q9e (qdI a12 1 a12 0 (qd7 (qqv c11 0) (qqv 232 1))) 0 0 [.i (cI a3 c0 0)])];qxx r0 (let r1:=qm vN [.i c0,.i 0,.b d1,.i c2,.r a3,.b d4,.i c5,.r a6,.b d7,.i c8,.r a9,.b (gB r0 0),.i (gI r0 1),.r (gR r0 2)];qxx r1 (qxy (inb (gI r1 0) 232) (qxy (inb (gI r1 0) 232) (qxz [.i (q3e .i64 (gI r1 0) 1),.b (gB r1 2),.i (gI r1 3),.r (gR r1 4),.b (gB r1 5),.i (gI r1 6),.r (gR r1 7),.b (gB r1 8),.i (qlt (gI r1 9) (wT .i64 (gI r1 0) 1)),.r (q9e (gR r1 10) (gI r1 0) 0 [.i (gI r1 1)]),.b (gB r1 11),.i (gI r1 12),.r (gR r1 13)]))))))))))) (.leaf (1,[.b d1,.i c2,.r a3,.b d4,.i c5,.r a6,.b d7,.i c8,.r a9,.b d10,.i c11,.r a12]))):=by kernel_rfl
theorem qg5:jt [.b d0,.i c1,.r a2,.b d3,.i c4,.r a5]=(let r0:=qm u9 [.i (q3e .i64 c1 1),.b d0,.i c1,.r a2,.b d3,.i c4,.r a5,.b false,.i 0,.r (q31 232 [.i 0]),.b false,.i 0,.r (q31 232 [.i 0])];qxx r0 (let r1:=qB [.b (gB r0 6),.i (gI r0 7),.r (gR r0 8)];qxx r1 (qxz [.b (gB r0 0),.i (gI r0 1),.r (gR r0 2),.b (gB r0 3),.i (gI r0 4),.r (gR r0 5),.b (gB r1 0),.i (gI r1 1),.r (gR r1 2),.b (gB r0 9),.i (gI r0 10),.r (gR r0 11)]))):=by kernel_rfl
theorem qgO:uZ [.i c0,.i c1]=(.br (ine c1 0) (qxy (ine c1 0) (qxz [.i c1,.i (qp2 c0 c1)])) (.leaf (1,[.i c0]))):=by kernel_rfl
theorem qip:q2p [.b d0,.i c1,.r a2,.b d3,.i c4,.r a5]=(let t0:=qm uZ [.i (cI a2 0 0),.i (cI a5 0 0)];let t1:=zh [.i (gI t0 0)];let t2:=jt [.b d0,.i c1,.r a2,.b d3,.i c4,.r a5];let t3:TR:=(qxx t2 (qxz [.b (gB t2 3),.i (gI t2 4),.r (gR t2 5),.b (gB t2 9),.i (gI t2 10),.r (gR t2 11)]));(.br (ilt 0 c4) (.br (ile c1 1) (.br (ile c4 1) (qxx t0 (qxx t1 (.leaf (2,[.s (gS t1 0),.i 0])))) t3) t3) (.leaf (1,[.b d0,.i c1,.r a2])))):=by kernel_rfl
theorem qmt:kY [.s e0,.s e1]=(let r0:=zC [.r [[.s e0],[.s e1]]];qxx r0 (.br (ine (gI r0 0) 0) (qxz [.s [],.i (gI r0 0)]) (let r1:=zI [.s e0];qxx r1 (let r2:=zI [.s e1];qxx r2 (let r3:=qm q2p [.b (gB r1 0),.i (gI r1 1),.r (gR r1 2),.b (gB r2 0),.i (gI r2 1),.r (gR r2 2)];qxx r3 (.br (jIs r3 0) (let r4:=qR [.b false,.i (gI r3 1),.r (gR r3 2)];qxx r4 (qxz [.s (gS r4 0),.i 0])) (qxz [.s (gS r3 0),.i (gI r3 1)]))))))):=by kernel_rfl
theorem qiI:wD [.s e0]=(let t0:=qA [.s e0];let t1:=qy [.s (gS t0 0)];let p0:List PV:=[.s (gS t0 1)];let t2:TR:=(qxz [.i 3]);let i0:Int:=(gI (qy p0) 0);let t3:TR:=(qxz [.i (qlt (gI t1 0) i0)]);let t4:TR:=(qxz [.i 0]);let t5:=kQ [.s (gS t0 1),.s [49]];let t6:=kY ((.s (gS t0 0))::p0);(qxx t0 (qxx t1 (qxx (qy p0) (.br (ieq (gI t1 0) 3) t2 (.br (ieq i0 3) t2 (.br (ine (gI t1 0) 0) t3 (.br (ine i0 0) t3 (.br (not (gB t0 2)) t4 (qxx t5 (qxx t6 (.br (ine (gI t5 1) 0) t2 (.br (ine (gI t6 1) 0) t2 (.br (ile (gI t5 0) 0) t2 (.br (not (seq (gS t6 0) [49])) t2 t4))))))))))))))):=by kernel_rfl
theorem q1t:q03 [.i c0,.i c1,.s e2,.s e3,.s e4,.r a5]=(.br (ilt c1 c0) (qxy (inb c1 (qh a5)) (let r0:=wD [.s (cS a5 c1 0)];qxx r0 (.br (ine (gI r0 0) 0) (.leaf (2,[.i (gI r0 0)])) (qxz [.i c0,.i (wT .i64 c1 1),.s e2,.s e3,.s e4,.r a5])))) (.leaf (1,[.s e2,.s e3,.s e4]))):=by kernel_rfl
theorem qiv:q09 [.s e0,.s e1,.s e2]=(let r0:=qm q03 [.i (qh [[.s e0],[.s e1],[.s e2]]),.i 0,.s e0,.s e1,.s e2,.r [[.s e0],[.s e1],[.s e2]]];qxx r0 (.br (jIs r0 0) (qxy (inb 0 (zG (gS r0 2))) (.br (ieq (sat (gS r0 2) 0) 45) (qxz [.i 2]) (qxz [.i 0]))) (qxz [.i (gI r0 0)]))):=by kernel_rfl
theorem q9W:q1b [.r a0,.r a1,.i c2,.i c3]=(.br (ilt c3 c2) (qxy (inb c3 (qh a1)) (let r0:=q09 [.s (cS a1 c3 0),.s (cS a1 c3 1),.s (cS a1 c3 2)];qxx r0 (.br (ine (gI r0 0) 0) (.leaf (2,[.i (gI r0 0)])) (qxz [.r a0,.r a1,.i c2,.i (wT .i64 c3 1)])))) (.leaf (1,[.r a0]))):=by kernel_rfl
theorem qkR:q1W [.r a0]=(.br (ilt 64 (qh a0)) (qxz [.i 5]) (let r0:=qm q1b [.r a0,.r a0,.i (qh a0),.i 0];qxx r0 (.br (jIs r0 0) (.br (ieq (qh (gR r0 0)) 0) (qxz [.i 13]) (qxz [.i 0])) (qxz [.i (gI r0 0)])))):=by kernel_rfl
theorem qiW:jf [.s e0,.s e1]=(.br (ilt 9 (zG e0)) (qxz [.i 0,.i 0,.b false]) (.br (ilt 9 (zG e1)) (qxz [.i 0,.i 0,.b false]) (qxx (vo [.s e0]) (qxx (vo [.s e1]) (qxz [.i (gI (vo [.s e0]) 0),.i (gI (vo [.s e1]) 0),.b true]))))):=by kernel_rfl
theorem qgK:yq [.i c0]=(qxx (zh [.i c0]) (qxz [.s (gS (zh [.i c0]) 0),.i 0])):=by kernel_rfl
theorem qak:j2 [.i c0,.i c1,.b d2,.i c3,.r a4,.b d5,.i c6,.r a7,.b d8,.i c9,.r a10]=(.br (ilt c1 c0) (qxy (inb c1 232) (qxy (inb c1 232) (let r0:=qH [.i (cI a7 c1 0),.i c1,.b d8,.i c9,.r a10,.b d2,.i c3,.r a4];qxx r0 (qxz [.i c0,.i (wT .i64 c1 1),.b (gB r0 3),.i (gI r0 4),.r (gR r0 5),.b d5,.i c6,.r a7,.b (gB r0 0),.i (gI r0 1),.r (gR r0 2)])))) (.leaf (1,[.b d2,.i c3,.r a4,.b d5,.i c6,.r a7,.b d8,.i c9,.r a10]))):=by kernel_rfl
theorem qcM:jP [.b d0,.i c1,.r a2,.b d3,.i c4,.r a5]=(let r0:=qm j2 [.i c4,.i 0,.b d0,.i c1,.r a2,.b d3,.i c4,.r a5,.b (not (beq d0 d3)),.i 0,.r (q31 232 [.i 0])];qxx r0 (qxz [.b (gB r0 0),.i (gI r0 1),.r (gR r0 2),.b (gB r0 3),.i (gI r0 4),.r (gR r0 5),.b (gB r0 6),.i (gI r0 7),.r (gR r0 8)])):=by kernel_rfl
theorem qap:zE [.b d0,.i c1,.r a2]=(let r0:=qR [.b d0,.i c1,.r a2];qxx r0 (let r1:=qy [.s (gS r0 0)];qxx r1 (.br (ine (gI r1 0) 0) (qxz [.s [],.i (gI r1 0),.b (gB r0 1),.i (gI r0 2),.r (gR r0 3)]) (qxz [.s (gS r0 0),.i 0,.b (gB r0 1),.i (gI r0 2),.r (gR r0 3)])))):=by kernel_rfl
theorem qmI:q1G [.s e0,.s e1]=(let r0:=zC [.r [[.s e0],[.s e1]]];qxx r0 (.br (ine (gI r0 0) 0) (qxz [.s [],.i (gI r0 0)]) (let r1:=jf [.s e0,.s e1];qxx r1 (.br (gB r1 2) (let r2:=yq [.i (q8T .i64 (gI r1 0) (gI r1 1))];qxx r2 (qxz [.s (gS r2 0),.i (gI r2 1)])) (let r2:=zI [.s e0];qxx r2 (let r3:=zI [.s e1];qxx r3 (let r4:=jP [.b (gB r2 0),.i (gI r2 1),.r (gR r2 2),.b (gB r3 0),.i (gI r3 1),.r (gR r3 2)];qxx r4 (let r5:=zE [.b (gB r4 6),.i (gI r4 7),.r (gR r4 8)];qxx r5 (qxz [.s (gS r5 0),.i (gI r5 1)]))))))))):=by kernel_rfl
theorem q6o:zd [.s e0,.s e1,.i c2]=(.br (ine c2 0) (qxz [.s [48],.i c2]) (let r0:=q1G [.s e0,.s e1];qxx r0 (.br (ine (gI r0 1) 0) (qxz [.s [48],.i (gI r0 1)]) (qxz [.s (gS r0 0),.i (gI r0 1)])))):=by kernel_rfl
theorem q64:vQ [.s e0,.r a1,.i c2,.i c3,.i c4]=(.br (ilt c3 c2) (qxy (inb c3 (qh a1)) (let r0:=zd [.s e0,.s (cS a1 c3 0),.i c4];qxx r0 (qxz [.s (gS r0 0),.r a1,.i c2,.i (wT .i64 c3 1),.i (gI r0 1)]))) (.leaf (1,[.s e0,.i c4]))):=by kernel_rfl
theorem qfh:qf [.r a0,.i c1]=(let r0:=qm vQ [.s [49],.r a0,.i (qh a0),.i 0,.i c1];qxx r0 (qxz [.s (gS r0 0),.i (gI r0 1)])):=by kernel_rfl
theorem qea:wg [.b d0,.i c1,.r a2,.b d3,.i c4,.r a5]=(.br (beq d0 d3) (let r0:=qH [.i 1,.i 0,.b d0,.i c1,.r a2,.b d3,.i c4,.r a5];qxx r0 (qxz [.b (gB r0 0),.i (gI r0 1),.r (gR r0 2),.b (gB r0 3),.i (gI r0 4),.r (gR r0 5)])) (let r0:=zT [.b d0,.i c1,.r a2,.b d3,.i c4,.r a5];qxx r0 (.br (ile 0 (gI r0 0)) (let r1:=qH [.i (-1),.i 0,.b (gB r0 1),.i (gI r0 2),.r (gR r0 3),.b (gB r0 4),.i (gI r0 5),.r (gR r0 6)];qxx r1 (qxz [.b (gB r1 0),.i (gI r1 1),.r (gR r1 2),.b (gB r1 3),.i (gI r1 4),.r (gR r1 5)])) (let r1:=qH [.i (-1),.i 0,.b (gB r0 4),.i (gI r0 5),.r (gR r0 6),.b (gB r0 1),.i (gI r0 2),.r (gR r0 3)];qxx r1 (qxz [.b (gB r1 0),.i (gI r1 1),.r (gR r1 2),.b (gB r0 4),.i (gI r0 5),.r (gR r0 6)]))))):=by kernel_rfl
theorem q7e:q24 [.r a0,.i c1,.i c2,.b d3,.i c4,.r a5]=(.br (ilt c2 c1) (qxy (inb c2 (qh a0)) (let r0:=zI [.s (cS a0 c2 0)];qxx r0 (let r1:=wg [.b d3,.i c4,.r a5,.b (gB r0 0),.i (gI r0 1),.r (gR r0 2)];qxx r1 (qxz [.r a0,.i c1,.i (wT .i64 c2 1),.b (gB r1 0),.i (gI r1 1),.r (gR r1 2)])))) (.leaf (1,[.b d3,.i c4,.r a5]))):=by kernel_rfl
theorem qmB:q62 [.r a0]=(let r0:=qm q24 [.r a0,.i (qh a0),.i 0,.b false,.i 0,.r (q31 232 [.i 0])];qxx r0 (let r1:=zE [.b (gB r0 0),.i (gI r0 1),.r (gR r0 2)];qxx r1 (qxz [.s (gS r1 0),.i (gI r1 1)]))):=by kernel_rfl
theorem qle:kN [.s e0,.s e1]=(let r0:=zC [.r [[.s e0],[.s e1]]];qxx r0 (.br (ine (gI r0 0) 0) (qxz [.s [],.i (gI r0 0)]) (let r1:=jf [.s e0,.s e1];qxx r1 (.br (gB r1 2) (let r2:=yq [.i (wT .i64 (gI r1 0) (gI r1 1))];qxx r2 (qxz [.s (gS r2 0),.i (gI r2 1)])) (let r2:=q62 [.r [[.s e0],[.s e1]]];qxx r2 (qxz [.s (gS r2 0),.i (gI r2 1)])))))):=by kernel_rfl
theorem qfc:uK [.s e0]=(let r0:=jm [.s e0];qxx r0 (.br (ieq (gI r0 0) 0) (qxz [.s e0]) (.br (ieq (gI r0 0) 1) (qxy (ile ((zG [45])+(zG e0)) 140737488355328) (qxz [.s (qmH [45] e0)])) (qxy (q5U (zG e0) (zG e0)) (qxy (q5U 1 (zG e0)) (qxz [.s (qbE e0 1 (zG e0))])))))):=by kernel_rfl
theorem qm5:q3h [.s e0,.s e1]=(let r0:=zC [.r [[.s e0],[.s e1]]];qxx r0 (.br (ine (gI r0 0) 0) (qxz [.s [],.i (gI r0 0)]) (let r1:=uK [.s e1];qxx r1 (let r2:=kN [.s e0,.s (gS r1 0)];qxx r2 (qxz [.s (gS r2 0),.i (gI r2 1)]))))):=by kernel_rfl
theorem q6f:zM [.s e0,.s e1,.i c2]=(.br (ine c2 0) (qxz [.s [48],.i c2]) (let r0:=q3h [.s e0,.s e1];qxx r0 (.br (ine (gI r0 1) 0) (qxz [.s [48],.i (gI r0 1)]) (qxz [.s (gS r0 0),.i (gI r0 1)])))):=by kernel_rfl
theorem qfj:qQ [.s e0,.s e1,.i c2]=(let r0:=zM [.s e0,.s e1,.i c2];qxx r0 (qxz [.s (gS r0 0),.i (gI r0 1)])):=by kernel_rfl
theorem qiJ:q0k [.s e0,.s e1,.s e2,.s e3,.i c4]=(let r0:=qf [.r [[.s e0],[.s e3]],.i c4];qxx r0 (let r1:=qf [.r [[.s e2],[.s e1]],.i (gI r0 1)];qxx r1 (let r2:=qQ [.s (gS r0 0),.s (gS r1 0),.i (gI r1 1)];qxx r2 (let r3:=qf [.r [[.s e1],[.s e3]],.i (gI r2 1)];qxx r3 (qxz [.s (gS r2 0),.s (gS r3 0),.i (gI r3 1)]))))):=by kernel_rfl
theorem qbC:js [.s e0,.s e1]=(let r0:=qv [.s e0,.s e1];qxx r0 (qxz [.b (gB r0 0)])):=by kernel_rfl
theorem qgw:ke [.s e0,.s e1]=(.br (seq e1 [49]) (qxz [.s e0]) (qxy (ile ((zG e0)+(zG [47])) 140737488355328) (qxy (ile ((zG (qmH e0 [47]))+(zG e1)) 140737488355328) (qxz [.s (qmH (qmH e0 [47]) e1)])))):=by kernel_rfl
theorem qgF:q10 [.s e0,.s e1]=(let t0:=zC [.r [[.s e0],[.s e1]]];let t1:=jf [.s e0,.s e1];let i0:Int:=(gI t1 1);let i1:Int:=(qp2 (gI t1 0) i0);let i2:Int:=(qbh .i64 (gI t1 0) i0);let t2:=zh [.i (q3e .i64 i2 1)];let t3:=zh [.i (wT .i64 i1 i0)];let t4:TR:=(qxx (zh [.i i2]) (qxx (zh [.i i1]) (qxz [.s (gS (zh [.i i2]) 0),.s (gS (zh [.i i1]) 0),.i 0])));let t5:=zI [.s e0];let t6:=zI [.s e1];let t7:=jt [.b (gB t5 0),.i (gI t5 1),.r (gR t5 2),.b (gB t6 0),.i (gI t6 1),.r (gR t6 2)];let b0:Bool:=(not (beq (gB t7 0) (gB t7 3)));let t8:=wg [.b true,.i (gI t7 7),.r (gR t7 8),.b true,.i 1,.r (q9e (q31 232 [.i 0]) 0 0 [.i 1])];let t9:=wg [.b (gB t7 0),.i (gI t7 10),.r (gR t7 11),.b (gB t7 3),.i (gI t7 4),.r (gR t7 5)];let t10:=qR [.b (gB t8 0),.i (gI t8 1),.r (gR t8 2)];let t11:=qR [.b (gB t9 0),.i (gI t9 1),.r (gR t9 2)];let t12:=qR [.b b0,.i (gI t7 7),.r (gR t7 8)];let t13:=qR [.b (gB t7 0),.i (gI t7 10),.r (gR t7 11)];let t14:TR:=(qxx t12 (qxx t13 (qxz [.s (gS t12 0),.s (gS t13 0),.i 0])));(qxx t0 (.br (ine (gI t0 0) 0) (qxz [.s [],.s [],.i (gI t0 0)]) (.br (seq e1 [48]) (qxz [.s [],.s [],.i 10]) (qxx t1 (.br (gB t1 2) (qxy (ine i0 0) (qxy (ine i0 0) (.br (ine i1 0) (.br (not (beq (ilt i1 0) (ilt i0 0))) (qxx t2 (qxx t3 (qxz [.s (gS t2 0),.s (gS t3 0),.i 0]))) t4) t4))) (qxx t5 (qxx t6 (qxx t7 (.br (ilt 0 (gI t7 10)) (.br b0 (qxx t8 (qxx t9 (qxx t10 (qxx t11 (qxz [.s (gS t10 0),.s (gS t11 0),.i 0]))))) t14) t14)))))))))):=by kernel_rfl
theorem qlA:q3m [.s e0,.s e1]=(let r0:=q10 [.s e0,.s e1];qxx r0 (.br (ine (gI r0 2) 0) (qxz [.s [],.i (gI r0 2)]) (let r1:=qy [.s (gS r0 0)];qxx r1 (.br (ine (gI r1 0) 0) (qxz [.s [],.i (gI r1 0)]) (qxz [.s (gS r0 0),.i 0]))))):=by kernel_rfl
theorem q6j:zQ [.s e0,.s e1,.i c2]=(.br (ine c2 0) (qxz [.s [48],.i c2]) (let r0:=kY [.s e0,.s e1];qxx r0 (.br (ine (gI r0 1) 0) (qxz [.s [48],.i (gI r0 1)]) (qxz [.s (gS r0 0),.i (gI r0 1)])))):=by kernel_rfl
theorem q6k:qF [.s e0,.s e1,.i c2]=(.br (ine c2 0) (qxz [.s [48],.i c2]) (let r0:=q3m [.s e0,.s e1];qxx r0 (.br (ine (gI r0 1) 0) (qxz [.s [48],.i (gI r0 1)]) (qxz [.s (gS r0 0),.i (gI r0 1)])))):=by kernel_rfl
theorem qbI:qt [.s e0,.s e1,.i c2]=(let r0:=zQ [.s e0,.s e1,.i c2];qxx r0 (let r1:=js [.s e1,.s [45]];qxx r1 (.br (gB r1 0) (let r2:=qQ [.s [48],.s (gS r0 0),.i (gI r0 1)];qxx r2 (.br (ine (gI r2 1) 0) (qxz [.s [],.i (gI r2 1)]) (let r3:=qF [.s e0,.s (gS r2 0),.i (gI r2 1)];qxx r3 (let r4:=qF [.s e1,.s (gS r2 0),.i (gI r3 1)];qxx r4 (let r5:=ke [.s (gS r3 0),.s (gS r4 0)];qxx r5 (qxz [.s (gS r5 0),.i (gI r4 1)])))))) (.br (ine (gI r0 1) 0) (qxz [.s [],.i (gI r0 1)]) (let r2:=qF [.s e0,.s (gS r0 0),.i (gI r0 1)];qxx r2 (let r3:=qF [.s e1,.s (gS r0 0),.i (gI r2 1)];qxx r3 (let r4:=ke [.s (gS r2 0),.s (gS r3 0)];qxx r4 (qxz [.s (gS r4 0),.i (gI r3 1)])))))))):=by kernel_rfl
theorem q86:uV [.r a0,.i c1,.i c2]=(.br (ilt c2 c1) (qxy (inb c2 (qh a0)) (let r0:=wD [.s (cS a0 c2 0)];qxx r0 (.br (ine (gI r0 0) 0) (.leaf (2,[.i (gI r0 0)])) (qxz [.r a0,.i c1,.i (wT .i64 c2 1)])))) (.leaf (1,[]))):=by kernel_rfl
theorem qia:qE [.r a0]=(let r0:=qm uV [.r a0,.i (qh a0),.i 0];qxx r0 (.br (jIs r0 0) (qxz [.i 0]) (qxz [.i (gI r0 0)]))):=by kernel_rfl
theorem q7B:zX [.s e0,.s e1]=(let r0:=qE [.r [[.s e0],[.s e1]]];qxx r0 (.br (ine (gI r0 0) 0) (qxz [.s [],.i (gI r0 0)]) (let r1:=qA [.s e0];qxx r1 (let r2:=qA [.s e1];qxx r2 (let r3:=q0k [.s (gS r1 0),.s (gS r1 1),.s (gS r2 0),.s (gS r2 1),.i 0];qxx r3 (.br (ine (gI r3 2) 0) (qxz [.s [],.i (gI r3 2)]) (.br (seq (gS r3 1) [48]) (qxz [.s [],.i 10]) (let r4:=qt [.s (gS r3 0),.s (gS r3 1),.i (gI r3 2)];qxx r4 (qxz [.s (gS r4 0),.i (gI r4 1)]))))))))):=by kernel_rfl
theorem qmy:q3c [.s e0,.s e1]=(let r0:=zX [.s e0,.s e1];qxx r0 (qxz [.s (gS r0 0),.i (gI r0 1)])):=by kernel_rfl
theorem q6n:zP [.s e0,.s e1,.i c2]=(.br (ine c2 0) (qxz [.s [48],.i c2]) (let r0:=q3c [.s e0,.s e1];qxx r0 (.br (ine (gI r0 1) 0) (qxz [.s [48],.i (gI r0 1)]) (qxz [.s (gS r0 0),.i (gI r0 1)])))):=by kernel_rfl
theorem qeL:qM [.s e0,.s e1,.i c2]=(let r0:=zP [.s e0,.s e1,.i c2];qxx r0 (qxz [.s (gS r0 0),.i (gI r0 1)])):=by kernel_rfl
theorem qei:vd [.s e0,.s e1,.s e2,.s e3,.i c4]=(let r0:=qM [.s e0,.s e2,.i c4];qxx r0 (let r1:=qM [.s e1,.s e3,.i (gI r0 1)];qxx r1 (qxz [.s (gS r0 0),.s (gS r1 0),.i (gI r1 1)]))):=by kernel_rfl
theorem q6i:zO [.s e0,.s e1,.i c2]=(.br (ine c2 0) (qxz [.s [48],.i c2]) (let r0:=kN [.s e0,.s e1];qxx r0 (.br (ine (gI r0 1) 0) (qxz [.s [48],.i (gI r0 1)]) (qxz [.s (gS r0 0),.i (gI r0 1)])))):=by kernel_rfl
theorem qeR:vV [.s e0,.s e1,.i c2]=(let r0:=zO [.s e0,.s e1,.i c2];qxx r0 (qxz [.s (gS r0 0),.i (gI r0 1)])):=by kernel_rfl
theorem qiQ:q0s [.s e0,.s e1,.s e2,.s e3,.i c4]=(let r0:=qf [.r [[.s e0],[.s e3]],.i c4];qxx r0 (let r1:=qf [.r [[.s e2],[.s e1]],.i (gI r0 1)];qxx r1 (let r2:=vV [.s (gS r0 0),.s (gS r1 0),.i (gI r1 1)];qxx r2 (let r3:=qf [.r [[.s e1],[.s e3]],.i (gI r2 1)];qxx r3 (qxz [.s (gS r2 0),.s (gS r3 0),.i (gI r3 1)]))))):=by kernel_rfl
theorem q72:zZ [.s e0,.s e1]=(let r0:=qE [.r [[.s e0],[.s e1]]];qxx r0 (.br (ine (gI r0 0) 0) (qxz [.s [],.i (gI r0 0)]) (let r1:=qA [.s e0];qxx r1 (let r2:=qA [.s e1];qxx r2 (let r3:=q0s [.s (gS r1 0),.s (gS r1 1),.s (gS r2 0),.s (gS r2 1),.i 0];qxx r3 (.br (ine (gI r3 2) 0) (qxz [.s [],.i (gI r3 2)]) (.br (seq (gS r3 1) [48]) (qxz [.s [],.i 10]) (let r4:=qt [.s (gS r3 0),.s (gS r3 1),.i (gI r3 2)];qxx r4 (qxz [.s (gS r4 0),.i (gI r4 1)]))))))))):=by kernel_rfl
theorem qm3:q3k [.s e0,.s e1]=(let r0:=zZ [.s e0,.s e1];qxx r0 (qxz [.s (gS r0 0),.i (gI r0 1)])):=by kernel_rfl
theorem q6l:zN [.s e0,.s e1,.i c2]=(.br (ine c2 0) (qxz [.s [48],.i c2]) (let r0:=q3k [.s e0,.s e1];qxx r0 (.br (ine (gI r0 1) 0) (qxz [.s [48],.i (gI r0 1)]) (qxz [.s (gS r0 0),.i (gI r0 1)])))):=by kernel_rfl
theorem qf2:z8 [.s e0,.s e1,.i c2]=(let r0:=zN [.s e0,.s e1,.i c2];qxx r0 (qxz [.s (gS r0 0),.i (gI r0 1)])):=by kernel_rfl
theorem qiX:q0d [.s e0,.s e1,.s e2,.s e3,.i c4]=(let r0:=qf [.r [[.s e0],[.s e2]],.i c4];qxx r0 (let r1:=qf [.r [[.s e1],[.s e3]],.i (gI r0 1)];qxx r1 (qxz [.s (gS r0 0),.s (gS r1 0),.i (gI r1 1)]))):=by kernel_rfl
theorem q7k:zW [.s e0,.s e1]=(let r0:=qE [.r [[.s e0],[.s e1]]];qxx r0 (.br (ine (gI r0 0) 0) (qxz [.s [],.i (gI r0 0)]) (let r1:=qA [.s e0];qxx r1 (let r2:=qA [.s e1];qxx r2 (let r3:=q0d [.s (gS r1 0),.s (gS r1 1),.s (gS r2 0),.s (gS r2 1),.i 0];qxx r3 (.br (ine (gI r3 2) 0) (qxz [.s [],.i (gI r3 2)]) (.br (seq (gS r3 1) [48]) (qxz [.s [],.i 10]) (let r4:=qt [.s (gS r3 0),.s (gS r3 1),.i (gI r3 2)];qxx r4 (qxz [.s (gS r4 0),.i (gI r4 1)]))))))))):=by kernel_rfl
theorem qmJ:kS [.s e0,.s e1]=(let r0:=zW [.s e0,.s e1];qxx r0 (qxz [.s (gS r0 0),.i (gI r0 1)])):=by kernel_rfl
theorem q6m:zL [.s e0,.s e1,.i c2]=(.br (ine c2 0) (qxz [.s [48],.i c2]) (let r0:=kS [.s e0,.s e1];qxx r0 (.br (ine (gI r0 1) 0) (qxz [.s [48],.i (gI r0 1)]) (qxz [.s (gS r0 0),.i (gI r0 1)])))):=by kernel_rfl
theorem qeD:qG [.s e0,.s e1,.i c2]=(let r0:=zL [.s e0,.s e1,.i c2];qxx r0 (qxz [.s (gS r0 0),.i (gI r0 1)])):=by kernel_rfl
theorem qes:zR [.s e0,.s e1,.s e2,.s e3,.i c4]=(let r0:=qG [.s e0,.s e2,.i c4];qxx r0 (let r1:=qG [.s e1,.s e3,.i (gI r0 1)];qxx r1 (let r2:=z8 [.s (gS r0 0),.s (gS r1 0),.i (gI r1 1)];qxx r2 (qxz [.s (gS r2 0),.i (gI r2 1)])))):=by kernel_rfl
theorem qiV:q0g [.s e0,.s e1,.s e2,.s e3,.i c4]=(let r0:=qf [.r [[.s e0],[.s e3]],.i c4];qxx r0 (let r1:=qf [.r [[.s e1],[.s e2]],.i (gI r0 1)];qxx r1 (qxz [.s (gS r0 0),.s (gS r1 0),.i (gI r1 1)]))):=by kernel_rfl
theorem q71:wd [.s e0,.s e1]=(let r0:=qE [.r [[.s e0],[.s e1]]];qxx r0 (.br (ine (gI r0 0) 0) (qxz [.s [],.i (gI r0 0)]) (let r1:=qA [.s e0];qxx r1 (let r2:=qA [.s e1];qxx r2 (let r3:=q0g [.s (gS r1 0),.s (gS r1 1),.s (gS r2 0),.s (gS r2 1),.i 0];qxx r3 (.br (ine (gI r3 2) 0) (qxz [.s [],.i (gI r3 2)]) (.br (seq (gS r3 1) [48]) (qxz [.s [],.i 10]) (let r4:=qt [.s (gS r3 0),.s (gS r3 1),.i (gI r3 2)];qxx r4 (qxz [.s (gS r4 0),.i (gI r4 1)]))))))))):=by kernel_rfl
theorem qlL:q3n [.s e0,.s e1]=(let r0:=qE [.r [[.s e0],[.s e1]]];qxx r0 (.br (ine (gI r0 0) 0) (qxz [.s [],.i (gI r0 0)]) (.br (seq e1 [48]) (qxz [.s [],.i 10]) (let r1:=wd [.s e0,.s e1];qxx r1 (qxz [.s (gS r1 0),.i (gI r1 1)]))))):=by kernel_rfl
theorem q6h:zg [.s e0,.s e1,.i c2]=(.br (ine c2 0) (qxz [.s [48],.i c2]) (let r0:=q3n [.s e0,.s e1];qxx r0 (.br (ine (gI r0 1) 0) (qxz [.s [48],.i (gI r0 1)]) (qxz [.s (gS r0 0),.i (gI r0 1)])))):=by kernel_rfl
theorem qcK:wA [.r a0,.i c1,.i c2,.i c3,.i c4]=(let t0:=vd [.s (cS a0 c2 0),.s (cS a0 c2 1),.s (cS a0 c1 0),.s (cS a0 c1 1),.i c4];let s0:List UInt8:=(gS t0 1);let s1:List UInt8:=(gS t0 0);let t1:=zR [.s s1,.s s0,.s s1,.s s0,.i (gI t0 2)];let t2:=z8 [.s (gS t1 0),.s (cS a0 c1 2),.i (gI t1 1)];let t3:=qM [.s (gS t2 0),.s (cS a0 c2 2),.i (gI t2 1)];let t4:=qG [.s [50],.s (gS t1 0),.i (gI t3 1)];let t5:=zg [.s (gS t3 0),.s (gS t4 0),.i (gI t4 1)];let t6:=qG [.s (gS t5 0),.s s1,.i (gI t5 1)];let t7:=z8 [.s (cS a0 c1 0),.s (gS t6 0),.i (gI t6 1)];let t8:=qG [.s (gS t5 0),.s s0,.i (gI t7 1)];let t9:=z8 [.s (cS a0 c1 1),.s (gS t8 0),.i (gI t8 1)];let t10:=qM [.s [48],.s s0,.i (gI t9 1)];let t11:=zg [.s (cS a0 c1 2),.s (gS t1 0),.i (gI t10 1)];let t12:=qG [.s (gS t5 0),.s (gS t5 0),.i (gI t11 1)];let t13:=qM [.s (gS t11 0),.s (gS t12 0),.i (gI t12 1)];let p0:List PV:=[.i (gI t13 1)];let t14:=qM ((.s [48])::(.s s1)::p0);let s2:List UInt8:=(gS t13 0);let b0:Bool:=(beq (seq s2 [48]) (ieq c3 0));let t15:TR:=(qxz [.s (gS t7 0),.s (gS t9 0),.s s0,.s (gS t14 0),.s s2,.b false,.i (gI t14 1)]);let t16:TR:=(qxz ((.s (gS t7 0))::(.s (gS t9 0))::(.s (gS t10 0))::(.s s1)::(.s s2)::(.b false)::p0));(qxy (inb c1 (qh a0)) (qxy (inb c2 (qh a0)) (.br (ieq c1 c2) (qxz [.s (cS a0 c1 0),.s (cS a0 c1 1),.s [48],.s [48],.s [48],.b (ieq c3 0),.i c4]) (qxx t0 (qxx t1 (.br (seq (gS t1 0) [48]) (qxz [.s [],.s [],.s [],.s [],.s [],.b false,.i (gI t1 1)]) (qxx t2 (qxx t3 (qxx t4 (qxx t5 (qxx t6 (qxx t7 (qxx t8 (qxx t9 (qxx t10 (qxx t11 (qxx t12 (qxx t13 (.br (ilt c3 0) (qxx t14 (.br (ieq (gI t14 1) 0) (qxy (inb 0 (zG s2)) (.br (ine (sat s2 0) 45) (qxz [.s (gS t7 0),.s (gS t9 0),.s s0,.s (gS t14 0),.s s2,.b b0,.i (gI t14 1)]) t15)) t15)) (.br (ieq (gI t13 1) 0) (qxy (inb 0 (zG s2)) (.br (ine (sat s2 0) 45) (qxz ((.s (gS t7 0))::(.s (gS t9 0))::(.s (gS t10 0))::(.s s1)::(.s s2)::(.b b0)::p0)) t16)) t16))))))))))))))))))))):=by kernel_rfl
theorem qjW:q3Q [.s e0]=(let r0:=qy [.s e0];qxx r0 (.br (ine (gI r0 0) 0) (qxz [.i 0,.i (gI r0 0)]) (let r1:=jm [.s e0];qxx r1 (qxz [.i (gI r1 0),.i 0])))):=by kernel_rfl
theorem qdr:qS [.s e0,.i c1]=(.br (ine c1 0) (qxz [.i 0,.i c1]) (let r0:=q3Q [.s e0];qxx r0 (qxz [.i (gI r0 0),.i (gI r0 1)]))):=by kernel_rfl
theorem qdP:jn [.s e0,.s e1,.s e2,.i c3]=(let r0:=qS [.s e0,.i c3];qxx r0 (let r1:=qS [.s e1,.i (gI r0 1)];qxx r1 (let r2:=qS [.s e2,.i (gI r1 1)];qxx r2 (.br (ile 0 (q8T .i64 (gI r0 0) (q8T .i64 (gI r1 0) (gI r2 0)))) (.br (ine (gI r0 0) 0) (qxz [.i (gI r0 0),.i (gI r2 1)]) (qxz [.i (q8T .i64 (gI r1 0) (gI r2 0)),.i (gI r2 1)])) (let r3:=qf [.r [[.s e0],[.s e0]],.i (gI r2 1)];qxx r3 (let r4:=qf [.r [[.s e1],[.s e1],[.s e2]],.i (gI r3 1)];qxx r4 (let r5:=qQ [.s (gS r3 0),.s (gS r4 0),.i (gI r4 1)];qxx r5 (let r6:=qS [.s (gS r5 0),.i (gI r5 1)];qxx r6 (qxz [.i (q8T .i64 (gI r0 0) (gI r6 0)),.i (gI r6 1)]))))))))):=by kernel_rfl
theorem qdB:yZ [.s e0,.s e1,.s e2,.s e3,.s e4]=(let r0:=qE [.r [[.s e0],[.s e1],[.s e2],[.s e3],[.s e4]]];qxx r0 (.br (ine (gI r0 0) 0) (qxz [.i 0,.i (gI r0 0)]) (qxy (inb 0 (zG e2)) (.br (ieq (sat e2 0) 45) (qxz [.i 0,.i 2]) (qxy (inb 0 (zG e4)) (.br (ieq (sat e4 0) 45) (qxz [.i 0,.i 2]) (let r1:=qA [.s e0];qxx r1 (let r2:=qA [.s e1];qxx r2 (let r3:=qA [.s e2];qxx r3 (let r4:=qA [.s e3];qxx r4 (let r5:=qA [.s e4];qxx r5 (let r6:=qf [.r [[.s (gS r1 0)],[.s (gS r2 1)],[.s (gS r3 1)],[.s (gS r4 1)],[.s (gS r5 1)]],.i 0];qxx r6 (let r7:=qf [.r [[.s (gS r2 0)],[.s (gS r1 1)],[.s (gS r4 1)],[.s (gS r5 1)]],.i (gI r6 1)];qxx r7 (let r8:=qf [.r [[.s (gS r3 0)],[.s (gS r3 1)]],.i (gI r7 1)];qxx r8 (let r9:=qf [.r [[.s (gS r4 0)],[.s (gS r1 1)],[.s (gS r2 1)],[.s (gS r3 1)]],.i (gI r8 1)];qxx r9 (let r10:=qf [.r [[.s (gS r5 0)],[.s (gS r5 1)]],.i (gI r9 1)];qxx r10 (let r11:=jn [.s (gS r6 0),.s (gS r7 0),.s (gS r8 0),.i (gI r10 1)];qxx r11 (let r12:=qS [.s (gS r9 0),.i (gI r11 1)];qxx r12 (let r13:=qS [.s (gS r10 0),.i (gI r12 1)];qxx r13 (.br (ile 0 (q8T .i64 (gI r11 0) (q8T .i64 (gI r12 0) (gI r13 0)))) (.br (ieq (gI r11 0) 0) (qxz [.i (q8T .i64 (gI r12 0) (gI r13 0)),.i (gI r13 1)]) (qxz [.i (gI r11 0),.i (gI r13 1)])) (let r14:=qf [.r [[.s (gS r6 0)],[.s (gS r6 0)]],.i (gI r13 1)];qxx r14 (let r15:=qf [.r [[.s (gS r7 0)],[.s (gS r7 0)],[.s (gS r8 0)]],.i (gI r14 1)];qxx r15 (let r16:=vV [.s (gS r14 0),.s (gS r15 0),.i (gI r15 1)];qxx r16 (let r17:=qf [.r [[.s (gS r9 0)],[.s (gS r9 0)],[.s (gS r10 0)]],.i (gI r16 1)];qxx r17 (let r18:=qQ [.s (gS r16 0),.s (gS r17 0),.i (gI r17 1)];qxx r18 (let r19:=qf [.r [[.s [50]],[.s (gS r6 0)],[.s (gS r7 0)]],.i (gI r18 1)];qxx r19 (let r20:=jn [.s (gS r18 0),.s (gS r19 0),.s (gS r8 0),.i (gI r19 1)];qxx r20 (.br (ine (gI r20 1) 0) (qxz [.i 0,.i (gI r20 1)]) (qxz [.i (q8T .i64 (gI r11 0) (gI r20 0)),.i 0]))))))))))))))))))))))))))))):=by kernel_rfl
theorem qfb:uW [.s e0,.s e1,.s e2]=(let r0:=yZ [.s e0,.s e1,.s e2,.s [48],.s [48]];qxx r0 (qxz [.i (gI r0 0),.i (gI r0 1)])):=by kernel_rfl
theorem qe6:yK [.s e0,.s e1,.s e2,.i c3]=(.br (ine c3 0) (qxz [.i 0,.i c3]) (let r0:=uW [.s e0,.s e1,.s e2];qxx r0 (qxz [.i (gI r0 0),.i (gI r0 1)]))):=by kernel_rfl
theorem qcE:vM [.s e0,.s e1,.s e2,.s e3,.s e4,.s e5,.s e6,.s e7,.i c8]=(let r0:=vd [.s e3,.s e4,.s e0,.s e1,.i c8];qxx r0 (let r1:=zR [.s (gS r0 0),.s (gS r0 1),.s (gS r0 0),.s (gS r0 1),.i (gI r0 2)];qxx r1 (let r2:=zR [.s e5,.s e6,.s e5,.s e6,.i (gI r1 1)];qxx r2 (let r3:=qG [.s e7,.s (gS r2 0),.i (gI r2 1)];qxx r3 (let r4:=z8 [.s (gS r1 0),.s (gS r3 0),.i (gI r3 1)];qxx r4 (let r5:=qM [.s (gS r4 0),.s e2,.i (gI r4 1)];qxx r5 (let r6:=zR [.s (gS r0 0),.s (gS r0 1),.s e5,.s e6,.i (gI r5 1)];qxx r6 (let r7:=qG [.s [50],.s (gS r6 0),.i (gI r6 1)];qxx r7 (let r8:=yK [.s (gS r5 0),.s (gS r7 0),.s e7,.i (gI r7 1)];qxx r8 (qxz [.b (ile (gI r8 0) 0),.i (gI r8 1)])))))))))):=by kernel_rfl
theorem ye:zY [.r a0,.i c1,.i c2,.r a3,.r a4,.r a5,.i c6,.i c7,.i c8,.b d9,.s e10,.s e11,.s e12,.s e13,.s e14,.b d15,.r a16,.i c17,.i c18,.i c19,.s e20,.s e21,.s e22,.s e23,.s e24,.b d25,.s e26,.s e27,.s e28,.s e29,.s e30,.b d31,.b d32,.r a33,.i c34,.i c35,.i c36,.i c37,.s e38,.s e39,.s e40,.s e41,.s e42]=(let t0:=vM [.s (cS a0 c2 0),.s (cS a0 c2 1),.s (cS a0 c2 2),.s e38,.s e39,.s e40,.s e41,.s e42,.i c34];let p0:List PV:=[.i c35,.i c36,.i c37,.s e38,.s e39,.s e40,.s e41,.s e42];let p1:List PV:=((.r a3)::(.r a4)::(.r a5)::(.i c6)::(.i c7)::(.i c8)::(.b d9)::(.s e10)::(.s e11)::(.s e12)::(.s e13)::(.s e14)::(.b d15)::(.r a16)::(.i c17)::(.i c18)::(.i c19)::(.s e20)::(.s e21)::(.s e22)::(.s e23)::(.s e24)::(.b d25)::(.s e26)::(.s e27)::(.s e28)::(.s e29)::(.s e30)::(.b d31)::(.b d32)::(.r a33)::(.i (gI t0 1))::p0);(.br (ilt c2 c1) (qxy (inb c2 (qh a0)) (qxx t0 (.br (not (gB t0 0)) (.leaf (2,((.i c2)::p1))) (qxz ((.r a0)::(.i c1)::(.i (wT .i64 c2 1))::p1))))) (.leaf (1,((.r a3)::(.r a4)::(.r a5)::(.i c6)::(.i c7)::(.i c8)::(.b d9)::(.s e10)::(.s e11)::(.s e12)::(.s e13)::(.s e14)::(.b d15)::(.r a16)::(.i c17)::(.i c18)::(.i c19)::(.s e20)::(.s e21)::(.s e22)::(.s e23)::(.s e24)::(.b d25)::(.s e26)::(.s e27)::(.s e28)::(.s e29)::(.s e30)::(.b d31)::(.b d32)::(.r a33)::(.i c34)::p0))))):=by kernel_rfl
theorem qbN:va [.r a0,.i c1,.i c2,.i c3,.i c4]=(let r0:=wA [.r a0,.i c1,.i c2,.i c3,.i c4];qxx r0 (.br (gB r0 5) (let r1:=qm zY [.r a0,.i (qh a0),.i 0,.r a0,.r a0,.r a0,.i c1,.i c2,.i c3,.b (gB r0 5),.s (gS r0 0),.s (gS r0 1),.s (gS r0 2),.s (gS r0 3),.s (gS r0 4),.b (gB r0 5),.r a0,.i c1,.i c2,.i c3,.s (gS r0 0),.s (gS r0 1),.s (gS r0 2),.s (gS r0 3),.s (gS r0 4),.b (gB r0 5),.s (gS r0 0),.s (gS r0 1),.s (gS r0 2),.s (gS r0 3),.s (gS r0 4),.b (gB r0 5),.b (gB r0 5),.r a0,.i (gI r0 6),.i c1,.i c2,.i c3,.s (gS r0 0),.s (gS r0 1),.s (gS r0 2),.s (gS r0 3),.s (gS r0 4)];qxx r1 (.br (jIs r1 0) (qxz [.b (ieq (gI r1 31) 0),.i (gI r1 31)]) (.br (not (ile 0 (gI r1 0))) (qxz [.b (ieq (gI r1 32) 0),.i (gI r1 32)]) (qxz [.b false,.i (gI r1 32)])))) (qxz [.b false,.i (gI r0 6)]))):=by kernel_rfl
theorem q1Z:ww [.i c0,.i c1,.i c2,.r a3,.i c4,.i c5,.i c6,.b d7,.i c8]=(.br (ilt c1 c0) (let r0:=va [.r a3,.i c1,.i c1,.i 0,.i c2];qxx r0 (.br (gB r0 0) (.leaf (2,[.i (gI r0 1),.r a3,.i c1,.i c1,.i 0,.b true,.i c8])) (qxz [.i c0,.i (wT .i64 c1 1),.i (gI r0 1),.r a3,.i c4,.i c5,.i c6,.b d7,.i c8]))) (.leaf (1,[.i c2,.r a3,.i c4,.i c5,.i c6,.b d7,.i c8]))):=by kernel_rfl
theorem q1g:wh [.i c0,.i c1,.i c2,.i c3,.i c4,.i c5,.i c6,.r a7,.i c8,.i c9,.i c10,.b d11,.i c12,.r a13]=(.br (ilt c5 c4) (qxy (inb c5 (qh a13)) (let r0:=va [.r a7,.i c0,.i c1,.i (cI a13 c5 0),.i c6];qxx r0 (.br (gB r0 0) (.leaf (2,[.i (gI r0 1),.r a7,.i c0,.i c1,.i (cI a13 c5 0),.b true,.i c12])) (qxz [.i c0,.i c1,.i c2,.i c3,.i c4,.i (wT .i64 c5 1),.i (gI r0 1),.r a7,.i c8,.i c9,.i c10,.b d11,.i c12,.r a13])))) (.leaf (1,[.i c0,.i c1,.i c2,.i c3,.i c6,.r a7,.i c8,.i c9,.i c10,.b d11,.i c12]))):=by kernel_rfl
theorem q0X:we [.i c0,.i c1,.i c2,.i c3,.i c4,.r a5,.i c6,.i c7,.i c8,.b d9,.i c10]=(.br (ilt c1 c10) (let r0:=qm wh [.i c0,.i c1,.i c2,.i c3,.i (qh [[.i 0],[.i 1],[.i (-1)]]),.i 0,.i c4,.r a5,.i c6,.i c7,.i c8,.b d9,.i c10,.r [[.i 0],[.i 1],[.i (-1)]]];qxx r0 (.br (jIs r0 0) (qxz [.i (gI r0 0),.i (wT .i64 (gI r0 1) 1),.i (gI r0 2),.i (gI r0 3),.i (gI r0 4),.r (gR r0 5),.i (gI r0 6),.i (gI r0 7),.i (gI r0 8),.b (gB r0 9),.i (gI r0 10)]) (.leaf (2,[.i (gI r0 0),.r (gR r0 1),.i (gI r0 2),.i (gI r0 3),.i (gI r0 4),.b (gB r0 5),.i (gI r0 6)])))) (.leaf (1,[.i c2,.i c3,.i c4,.r a5,.i c6,.i c7,.i c8,.b d9,.i c10]))):=by kernel_rfl
theorem q1U:wC [.i c0,.i c1,.i c2,.r a3,.i c4,.i c5,.i c6,.b d7,.i c8]=(.br (ilt c1 c0) (let r0:=qm we [.i c1,.i (wT .i64 c1 1),.i c0,.i c1,.i c2,.r a3,.i c4,.i c5,.i c6,.b d7,.i c8];qxx r0 (.br (jIs r0 0) (qxz [.i (gI r0 0),.i (wT .i64 (gI r0 1) 1),.i (gI r0 2),.r (gR r0 3),.i (gI r0 4),.i (gI r0 5),.i (gI r0 6),.b (gB r0 7),.i (gI r0 8)]) (.leaf (2,[.i (gI r0 0),.r (gR r0 1),.i (gI r0 2),.i (gI r0 3),.i (gI r0 4),.b (gB r0 5),.i (gI r0 6)])))) (.leaf (1,[.i c2,.r a3,.i c4,.i c5,.i c6,.b d7,.i c8]))):=by kernel_rfl
theorem qcF:jT [.r a0,.i c1]=(let r0:=qm ww [.i (qh a0),.i 0,.i c1,.r a0,.i 0,.i 0,.i 0,.b false,.i (qh a0)];qxx r0 (.br (jIs r0 0) (let r1:=qm wC [.i (gI r0 6),.i 0,.i (gI r0 0),.r (gR r0 1),.i (gI r0 2),.i (gI r0 3),.i (gI r0 4),.b (gB r0 5),.i (gI r0 6)];qxx r1 (.br (jIs r1 0) (qxz [.i 0,.i 0,.i 0,.b false,.i (gI r1 0)]) (qxz [.i (gI r1 2),.i (gI r1 3),.i (gI r1 4),.b (gB r1 5),.i (gI r1 0)]))) (qxz [.i (gI r0 2),.i (gI r0 3),.i (gI r0 4),.b (gB r0 5),.i (gI r0 0)]))):=by kernel_rfl
theorem qhq:q1d [.r a0]=(let r0:=q1W [.r a0];qxx r0 (.br (ine (gI r0 0) 0) (qxz [.b false,.i 0,.i 0,.i 0,.i (gI r0 0)]) (let r1:=jT [.r a0,.i 0];qxx r1 (.br (ine (gI r1 4) 0) (qxz [.b false,.i 0,.i 0,.i 0,.i (gI r1 4)]) (qxz [.b (gB r1 3),.i (gI r1 0),.i (gI r1 1),.i (gI r1 2),.i 0]))))):=by kernel_rfl
theorem qa6:uY [.s e0,.s e1,.i c2,.i c3,.r a4]=(.br (ilt c3 c2) (qxy (inb c3 (qh a4)) (let r0:=qy [.s (cS a4 c3 0)];qxx r0 (.br (ine (gI r0 0) 0) (.leaf (2,[.s [],.i (gI r0 0)])) (qxz [.s e0,.s e1,.i c2,.i (wT .i64 c3 1),.r a4])))) (.leaf (1,[.s e0,.s e1]))):=by kernel_rfl
theorem qkq:q3S [.s e0,.s e1]=(let r0:=qm uY [.s e0,.s e1,.i (qh [[.s e0],[.s e1]]),.i 0,.r [[.s e0],[.s e1]]];qxx r0 (.br (jIs r0 0) (.br (seq (gS r0 1) [48]) (qxz [.s [],.i 10]) (let r1:=qt [.s (gS r0 0),.s (gS r0 1),.i 0];qxx r1 (.br (ine (gI r1 1) 0) (qxz [.s [],.i (gI r1 1)]) (qxz [.s (gS r1 0),.i 0])))) (qxz [.s (gS r0 0),.i (gI r0 1)]))):=by kernel_rfl
theorem qnq:q7Z [.i c0,.i c1]=(let r0:=zh [.i c0];qxx r0 (let r1:=zh [.i c1];qxx r1 (let r2:=q3S [.s (gS r0 0),.s (gS r1 0)];qxx r2 (qxz [.s (gS r2 0),.i (gI r2 1)])))):=by kernel_rfl
theorem qiy:q07 [.i c0]=(qxx (zh [.i c0]) (qxz [.s (gS (zh [.i c0]) 0)])):=by kernel_rfl
theorem q6c:vO [.r a0,.i c1,.i c2,.r a3,.r a4,.r a5]=(.br (ilt c2 c1) (qxy (inb c2 (qh a0)) (qxy (inb c2 (qh a3)) (qxy (inb c2 (qh a4)) (let r0:=q7Z [.i (cI a0 c2 0),.i 2];qxx r0 (let r1:=kS [.s (gS r0 0),.s (gS r0 0)];qxx r1 (let r2:=q07 [.i (q3e .i64 (cI a4 c2 0) (cI a3 c2 0))];qxx r2 (let r3:=q07 [.i (q3e .i64 (cI a4 c2 1) (cI a3 c2 1))];qxx r3 (qxy (ile ((qh a5)+(qh [[.s (gS r2 0),.s (gS r3 0),.s (gS r1 0)]])) 2932031007402) (qxz [.r a0,.i c1,.i (wT .i64 c2 1),.r a3,.r a4,.r (q1i a5 [[.s (gS r2 0),.s (gS r3 0),.s (gS r1 0)]])]))))))))) (.leaf (1,[.r a5]))):=by kernel_rfl
theorem qet:uO [.r a0,.r a1,.r a2,.r a3]=(let r0:=vX [.r a0,.r a1,.r a2,.r a3];qxx r0 (let r1:=qm vO [.r (gR r0 0),.i (qh (gR r0 0)),.i 0,.r a2,.r a3,.r []];qxx r1 (qxz [.r (gR r1 0)]))):=by kernel_rfl
theorem qbA:vb [.r a0,.r a1,.r a2,.r a3]=(let r0:=yQ [.r a0,.r a1,.r a2,.r a3];qxx r0 (.br (ine (gI r0 0) 0) (qxz [.b false,.i 0,.i 0,.i 0,.i (gI r0 0)]) (let r1:=vX [.r a0,.r a1,.r a2,.r a3];qxx r1 (let r2:=qg [.r (gR r1 0)];qxx r2 (.br (ilt 0 (qh (gR r2 0))) (qxz [.b false,.i 0,.i 0,.i 0,.i 0]) (let r3:=uO [.r a0,.r a1,.r a2,.r a3];qxx r3 (let r4:=q1d [.r (gR r3 0)];qxx r4 (.br (ine (gI r4 4) 0) (qxz [.b false,.i 0,.i 0,.i 0,.i (gI r4 4)]) (.br (not (gB r4 0)) (qxz [.b false,.i 0,.i 0,.i 0,.i (gI r4 4)]) (qxz [.b true,.i (gI r4 1),.i (gI r4 2),.i (gI r4 3),.i 0])))))))))):=by kernel_rfl
theorem qf3:uR [.i c0]=(qxz [.r [[.i 2,.i 0,.i 100],[.i 998,.i 0,.i 100]],.r [[.i (q3e .i64 0 c0),.i 0,.i 92],[.i (wT .i64 1000 c0),.i 0,.i 92]]]):=by kernel_rfl
theorem qgf  : ue []=(let r0:=q5R [];qxx r0 (let r1:=kZ [.r (gR r0 0),.r (gR r0 1)];qxx r1 (qxx r0 (let r2:=uR [.i 2];qxx r2 (let r3:=vb [.r (gR r0 0),.r (gR r0 1),.r (gR r2 0),.r (gR r2 1)];qxx r3 (.br (ieq (wT .i64 (gI r1 1) (gI r3 4)) 0) (.br (gB r1 0) (qxz [.b (gB r3 0)]) (qxz [.b false])) (qxz [.b false]))))))):=by kernel_rfl
theorem qan:q16 [.r a0,.i c1,.i c2]=(.br (ilt c2 c1) (qxy (inb c2 (qh a0)) (let r0:=ua [.s (cS a0 c2 0),.s (cS a0 c2 1),.i (cI a0 c2 2),.i (cI a0 c2 3),.i (cI a0 c2 4)];qxx r0 (.br (ine (gI r0 0) 0) (.leaf (2,[.i (gI r0 0)])) (qxz [.r a0,.i c1,.i (wT .i64 c2 1)])))) (.leaf (1,[]))):=by kernel_rfl
theorem qjM:q3Y [.r a0]=(.br (ilt 256 (qh a0)) (qxz [.i 5]) (let r0:=qm q16 [.r a0,.i (qh a0),.i 0];qxx r0 (.br (jIs r0 0) (qxz [.i 0]) (qxz [.i (gI r0 0)])))):=by kernel_rfl
theorem qkQ:q43 [.r a0,.r a1]=(let r0:=q3Y [.r a0];qxx r0 (.br (ine (gI r0 0) 0) (qxz [.i (gI r0 0)]) (let r1:=q6p [.r a0,.r a1];qxx r1 (qxz [.i (gI r1 0)])))):=by kernel_rfl
theorem qiC:uF [.r a0,.r a1,.i c2,.i c3]=(let r0:=q43 [.r a0,.r a1];qxx r0 (.br (ine (gI r0 0) 0) (qxz [.i (gI r0 0)]) (let r1:=zV [.i c2,.i c3];qxx r1 (qxz [.i (gI r1 0)])))):=by kernel_rfl
theorem qfx:zr [.i c0,.i c1,.i c2]=(.br (ilt c2 0) (qxz [.i c1]) (qxz [.i c0])):=by kernel_rfl
theorem qjO:zH [.i c0,.i c1,.i c2]=(let r0:=zr [.i c0,.i c1,.i (q3e .i64 0 c2)];qxx r0 (qxz [.i (gI r0 0)])):=by kernel_rfl
theorem q0x:ze [.r a0,.i c1,.i c2,.r a3,.r a4,.i c5,.i c6,.i c7,.i c8,.i c9,.i c10,.r a11,.r a12,.i c13,.i c14]=(.br (ilt c2 c1) (qxy (inb c2 (qh a0)) (.br (cB a0 c2 1) (qxy (inb (cI a0 c2 0) (qh a3)) (let r0:=zr [.i (cI a3 (cI a0 c2 0) 3),.i (cI a3 (cI a0 c2 0) 4),.i (-1)];qxx r0 (let r1:=zH [.i (cI a3 (cI a0 c2 0) 3),.i (cI a3 (cI a0 c2 0) 4),.i (-1)];qxx r1 (qxz [.r a0,.i c1,.i (wT .i64 c2 1),.r a3,.r a4,.i c5,.i c6,.i c7,.i c8,.i (wT .i64 c9 (q8T .i64 (-1) (gI r0 0))),.i (wT .i64 c10 (q8T .i64 (-1) (gI r1 0))),.r a11,.r a12,.i c13,.i c14])))) (qxy (inb (cI a0 c2 0) (qh a3)) (let r0:=zr [.i (cI a3 (cI a0 c2 0) 3),.i (cI a3 (cI a0 c2 0) 4),.i 1];qxx r0 (let r1:=zH [.i (cI a3 (cI a0 c2 0) 3),.i (cI a3 (cI a0 c2 0) 4),.i 1];qxx r1 (qxz [.r a0,.i c1,.i (wT .i64 c2 1),.r a3,.r a4,.i c5,.i c6,.i c7,.i c8,.i (wT .i64 c9 (q8T .i64 1 (gI r0 0))),.i (wT .i64 c10 (q8T .i64 1 (gI r1 0))),.r a11,.r a12,.i c13,.i c14])))))) (.leaf (1,[.r a3,.r a4,.i c5,.i c6,.i c7,.i c8,.i c9,.i c10,.r a11,.r a12,.i c13,.i c14]))):=by kernel_rfl
theorem qaT:j7 [.r a0,.r a1,.i c2,.i c3]=(let r0:=qm ze [.r a1,.i (qh a1),.i 0,.r a0,.r a1,.i c2,.i c3,.i 0,.i 0,.i 0,.i 0,.r a0,.r a1,.i c2,.i c3];qxx r0 (qxz [.i (gI r0 6),.i (gI r0 7)])):=by kernel_rfl
theorem qgZ:q1c [.r a0,.r a1,.i c2,.i c3]=(let r0:=uF [.r a0,.r a1,.i c2,.i c3];qxx r0 (.br (ine (gI r0 0) 0) (qxy (ine (gI r0 0) 0) (qxz [.i 0,.i 0,.i (gI r0 0)])) (let r1:=j7 [.r a0,.r a1,.i c2,.i c3];qxx r1 (qxz [.i (gI r1 0),.i (gI r1 1),.i 0])))):=by kernel_rfl
theorem q3Z:wH [.r a0,.i c1,.i c2,.r a3,.r a4,.i c5,.i c6,.i c7,.r a8]=(.br (ilt c2 c1) (qxy (inb c2 (qh a0)) (qxy (ile ((qh a8)+(qh [[.i (cI a0 c2 3)]])) 17592186044416) (qxz [.r a0,.i c1,.i (wT .i64 c2 1),.r a3,.r a4,.i c5,.i c6,.i c7,.r (q1i a8 [[.i (cI a0 c2 3)]])]))) (.leaf (1,[.r a3,.r a4,.i c5,.i c6,.i c7,.r a8]))):=by kernel_rfl
theorem q1T:zw [.r a0,.i c1,.i c2,.r a3,.r a4,.i c5,.i c6,.i c7,.r a8,.r a9,.r a10,.i c11,.i c12]=(let i0:Int:=(cI a0 c2 0);let b0:Bool:=(inb i0 (qh a3));let p0:List PV:=[.i (cI a3 i0 3),.i (cI a3 i0 4),.i (-1)];let b1:Bool:=(inb i0 (qh a8));let p1:List PV:=[.r a9,.r a10,.i c11,.i c12];let i1:Int:=(wT .i64 c2 1);let p2:List PV:=[.i (cI a3 i0 3),.i (cI a3 i0 4),.i 1];(.br (ilt c2 c1) (qxy (inb c2 (qh a0)) (.br (cB a0 c2 1) (.br (ieq c7 1) (qxy b0 (qxx (zH p0) (qxy b1 (qxz ((.r a0)::(.i c1)::(.i i1)::(.r a3)::(.r a4)::(.i c5)::(.i c6)::(.i c7)::(.r (q9e a8 i0 0 [.i (gI (zH p0) 0)]))::p1))))) (qxy (ieq c7 0) (qxy b0 (qxx (zr p0) (qxy b1 (qxz ((.r a0)::(.i c1)::(.i i1)::(.r a3)::(.r a4)::(.i c5)::(.i c6)::(.i c7)::(.r (q9e a8 i0 0 [.i (gI (zr p0) 0)]))::p1))))))) (.br (ieq c7 1) (qxy b0 (qxx (zH p2) (qxy b1 (qxz ((.r a0)::(.i c1)::(.i i1)::(.r a3)::(.r a4)::(.i c5)::(.i c6)::(.i c7)::(.r (q9e a8 i0 0 [.i (gI (zH p2) 0)]))::p1))))) (qxy (ieq c7 0) (qxy b0 (qxx (zr p2) (qxy b1 (qxz ((.r a0)::(.i c1)::(.i i1)::(.r a3)::(.r a4)::(.i c5)::(.i c6)::(.i c7)::(.r (q9e a8 i0 0 [.i (gI (zr p2) 0)]))::p1))))))))) (.leaf (1,((.r a3)::(.r a4)::(.i c5)::(.i c6)::(.i c7)::(.r a8)::p1))))):=by kernel_rfl
theorem qcP:vG [.r a0,.r a1,.i c2,.i c3,.i c4]=(let r0:=qm wH [.r a0,.i (qh a0),.i 0,.r a0,.r a1,.i c2,.i c3,.i c4,.r []];qxx r0 (let r1:=qm zw [.r (gR r0 1),.i (qh (gR r0 1)),.i 0,.r (gR r0 0),.r (gR r0 1),.i (gI r0 2),.i (gI r0 3),.i (gI r0 4),.r (gR r0 5),.r (gR r0 0),.r (gR r0 1),.i (gI r0 2),.i (gI r0 3)];qxx r1 (qxz [.r (gR r1 5)]))):=by kernel_rfl
theorem qhT:ka [.r a0,.r a1,.i c2,.i c3,.b d4]=(let r0:=uF [.r a0,.r a1,.i c2,.i c3];qxx r0 (.br (ine (gI r0 0) 0) (.br (ine (gI r0 0) 0) (qxz [.r [],.i (gI r0 0)]) (qxy d4 .fail)) (.br d4 (let r1:=vG [.r a0,.r a1,.i c2,.i c3,.i 1];qxx r1 (qxz [.r (gR r1 0),.i 0])) (let r1:=vG [.r a0,.r a1,.i c2,.i c3,.i 0];qxx r1 (qxz [.r (gR r1 0),.i 0]))))):=by kernel_rfl
theorem qbL:zU [.i c0,.i c1,.i c2,.r a3]=(qxy (inb c0 (qh a3)) (.br (ilt c1 (cI a3 c0 0)) (qxz [.b true,.i (wT .i64 c2 c1),.r a3]) (qxy (inb c0 (qh a3)) (qxz [.b (ilt (cI a3 c0 1) c1),.i (wT .i64 c2 c1),.r a3])))):=by kernel_rfl
theorem wu:qk [.r a0,.i c1,.i c2,.i c3,.r a4,.r a5]=(.br (ilt c2 c1) (qxy (inb c2 (qh a0)) (let r0:=zU [.i c2,.i (cI a0 c2 0),.i c3,.r a4];qxx r0 (.br (gB r0 0) (qxy (ile ((qh a5)+(qh [[.i c2]])) 17592186044416) (qxz [.r a0,.i c1,.i (wT .i64 c2 1),.i (gI r0 1),.r (gR r0 2),.r (q1i a5 [[.i c2]])])) (qxz [.r a0,.i c1,.i (wT .i64 c2 1),.i (gI r0 1),.r (gR r0 2),.r a5])))) (.leaf (1,[.i c3,.r a4,.r a5]))):=by kernel_rfl
theorem uI:qw [.r a0,.i c1,.r a2]=(let r0:=qm qk [.r a0,.i (qh a0),.i 0,.i c1,.r a2,.r []];qxx r0 (qxz [.r (gR r0 2),.i (gI r0 0),.r (gR r0 1)])):=by kernel_rfl
theorem qdD:v7 [.r a0,.r a1]=(let r0:=qP [.r a0];qxx r0 (.br (ine (gI r0 0) 0) (qxz [.i 0,.i (gI r0 0)]) (.br (ine (qh a1) (qh a0)) (qxz [.i 0,.i 8]) (let r1:=qw [.r a1,.i 0,.r a0];qxx r1 (.br (ilt 0 (qh (gR r1 0))) (qxz [.i 0,.i 14]) (qxz [.i (gI r1 1),.i 0])))))):=by kernel_rfl
theorem q2y:zK [.r a0,.s e1,.r a2,.i c3,.i c4,.i c5,.i c6,.i c7,.i c8,.r a9,.r a10]=(let i0:Int:=(wT .i64 c4 1);let i1:Int:=(wT .i64 c4 2);(.br (ilt c4 c3) (qxy (inb c4 (qh a2)) (qxy (q5U i0 (zG e1)) (qxy (q5U c4 i0) (qxy (q5U i1 (zG e1)) (qxy (q5U i0 i1) (qxy (ile ((qh a9)+(qh [[.s (qbE e1 c4 i0),.s (qbE e1 i0 i1),.i 2,.i (cI a2 c4 0),.i (cI a2 c4 1)]])) 2513169434916) (qxy (ile ((qh a10)+(qh [[.i c4,.b false]])) 8796093022208) (qxz [.r a0,.s e1,.r a2,.i c3,.i i0,.i c5,.i c6,.i c7,.i c8,.r (q1i a9 [[.s (qbE e1 c4 i0),.s (qbE e1 i0 i1),.i 2,.i (cI a2 c4 0),.i (cI a2 c4 1)]]),.r (q1i a10 [[.i c4,.b false]])])))))))) (.leaf (1,[.r a0,.i c5,.i c6,.i c7,.i c8,.r a9,.r a10])))):=by kernel_rfl
theorem qa0:j9 [.r a0]=(let t0:=jN [.r a0];let t1:TR:=(qxx (ue []) (qxz [.b (gB (ue []) 0)]));let t2:=qm zK [.r a0,.s [65,66,67,68,69,70,71,72,73,74],.r a0,.i (qh a0),.i 0,.i (gI t0 0),.i (gI t0 1),.i 0,.i 0,.r [],.r []];let t3:=q1c [.r (gR t2 5),.r (gR t2 6),.i (gI t2 3),.i (gI t2 4)];let t4:=ka [.r (gR t2 5),.r (gR t2 6),.i (gI t2 3),.i (gI t2 4),.b false];let t5:=ka [.r (gR t2 5),.r (gR t2 6),.i (gI t2 3),.i (gI t2 4),.b true];let t6:=v7 [.r (gR t2 0),.r (gR t4 0)];let t7:=v7 [.r (gR t2 0),.r (gR t5 0)];let t8:TR:=(qxz [.b false]);(qxx t0 (.br (ine (gI t0 2) 0) t1 (.br (ilt 9 (qh a0)) t1 (qxx t2 (qxx t3 (qxx t4 (qxx t5 (qxx t6 (qxx t7 (.br (ieq (wT .i64 (wT .i64 (wT .i64 (wT .i64 (gI t3 2) (gI t4 1)) (gI t5 1)) (gI t6 1)) (gI t7 1)) 0) (.br (qpJ (ieq (gI t3 0) (gI t2 1)) (qpJ (ieq (gI t3 1) (gI t2 2)) true)) (.br (ieq (gI t6 0) (gI t2 1)) (.br (ieq (gI t7 0) (gI t2 2)) t1 t8) t8) t8) t8))))))))))):=by kernel_rfl
end Go.Eng

namespace Go.Eng
variable {n:Nat}
theorem qho {α:Type}(b:Bool)(t e:Tree α):(Tree.br b t e).run=if b=true then t.run else e.run:=by cases b<;>rfl
theorem q8k {α:Type}(a:α):(Tree.leaf a).run=some a:=rfl
theorem qt0 {α:Type}:(Tree.fail:Tree α).run=none:=rfl
theorem qlg {R:TR}{x:Nat×List PV}(h:R.run=some x):okR R=true:=by simp[okR,h]
theorem qqK {R:TR}{j:Nat}{ps:List PV}(h:R.run=some (j,ps))(i:Nat):pR R i=ps.getD i (.i 0):=by simp[pR,h]
theorem vZ {x y:Int}(h:-9223372036854775808<=x+y/\x+y<=9223372036854775807):wT .i64 x y=x+y:=by unfold wT IntKind.wrap;simp[IntKind.signed,IntKind.bits];omega
theorem yN {x y:Int}(h:-9223372036854775808<=x-y/\x-y<=9223372036854775807):q3e .i64 x y=x-y:=by unfold q3e IntKind.wrap;simp[IntKind.signed,IntKind.bits];omega
theorem q3i {x y:Int}(h:-9223372036854775808<=x*y/\x*y<=9223372036854775807):q8T .i64 x y=x*y:=by unfold q8T IntKind.wrap;simp[IntKind.signed,IntKind.bits];omega
theorem qhZ (x y:Int):(ieq x y=true)=(x=y):=by simp[ieq]
theorem qkp (x y:Int):(ine x y=true)=(x≠y):=by simp[ine]
theorem qhn (x y:Int):(ilt x y=true)=(x<y):=by simp[ilt]
theorem qd5 (x y:Int):(ile x y=true)=(x<=y):=by simp[ile]
theorem qk9 (x y:Bool):(Go.Eng.beq x y=true)=(x=y):=by simp[Go.Eng.beq]
theorem qvr {a b A B:Int}(h1:-A<=a)(h2:a<=A)(h3:-B<=b)(h4:b<=B):-(A*B)<=a*b/\a*b<=A*B:=by have e1:=qyU (show 0<=A-a by omega) (show 0<=B-b by omega);have e2:=qyU (show 0<=A+a by omega) (show 0<=B+b by omega);have e3:=qyU (show 0<=A-a by omega) (show 0<=B+b by omega);have e4:=qyU (show 0<=A+a by omega) (show 0<=B-b by omega);simp only[Int.sub_mul,Int.mul_sub,Int.add_mul,Int.mul_add] at e1 e2 e3 e4;omega
theorem qsn {x:Int}(h:-9223372036854775807<=x/\x<=9223372036854775807):q3e .i64 0 x=-x:=by rw[yN (by omega)];omega
theorem qtx (b:Bool):((!b)=true)=¬(b=true):=by cases b<;>simp
theorem qtV (x y:Bool):(qpJ x y=true)=(x=true/\y=true):=by simp[qpJ]
theorem qvU (i n:Int):(inb i n=true)=(0<=i/\i<n):=by simp[inb]
theorem quM (i n:Int):(q5U i n=true)=(0<=i/\i<=n):=by simp[q5U]
theorem STD:(∀(α:Type) (b:Bool) (t e:Tree α),(Tree.br b t e).run=if b=true then t.run else e.run)/\(∀(α:Type) (a:α),(Tree.leaf a).run=some a)/\(∀(α:Type),(Tree.fail:Tree α).run=none) /\(∀R:TR,okR R=R.run.isSome)/\(∀(α:Type) (a:α),(some a).isSome=true)/\(∀(R:TR) (i:Nat),gI R i=(pR R i).toI)/\(∀(R:TR) (i:Nat),gB R i=(pR R i).toB)/\(∀(R:TR) (i:Nat),gS R i=(pR R i).toS)/\(∀(R:TR) (i:Nat),gR R i=(pR R i).toR) /\(∀(R:TR) (i:Nat),pR R i=R.run.elim (.i 0) fun r=>r.2.getD i (.i 0))/\(∀(α β:Type) (b:β) (f:α->β) (a:α),(some a).elim b f=f a) /\(∀(a:PV) (l:List PV) (d:PV),(a::l).getD 0 d=a)/\(∀(a:PV) (l:List PV) (d:PV) (n:Nat),(a::l).getD (n+1) d=l.getD n d) /\(∀n,(PV.i n).toI=n)/\(∀b,(PV.b b).toB=b)/\(∀s,(PV.s s).toS=s)/\(∀l,(PV.r l).toR=l) /\(∀(α:Type) (h:Decidable True) (a b:α),@ite α True h a b=a)/\(∀(α:Type) (h:Decidable False) (a b:α),@ite α False h a b=b)/\((false=true)=False)/\((true=false)=False)/\((true=true)=True) /\(∀x y,(ieq x y=true)=(x=y))/\(∀x y,(ine x y=true)=(x≠y))/\(∀x y,(ilt x y=true)=(x<y))/\(∀x y,(ile x y=true)=(x<=y))/\(∀x y,(Go.Eng.beq x y=true)=(x=y)) /\(∀x y,(qpJ x y=true)=(x=true/\y=true))/\(∀b:Bool,((!b)=true)=¬(b=true))/\(∀i n,(inb i n=true)=(0<=i/\i<n))/\(∀i n,(q5U i n=true)=(0<=i/\i<=n)) /\(∀(p:Prop) (_:Decidable p),(decide p=true)=p)/\(∀(α:Type) (a b:α),(a≠b)=¬(a=b))/\(¬True)=False/\(¬False)=True:=
 ⟨fun _=>qho,fun _=>q8k,fun _=>qt0,fun _=>rfl,fun _ _=>rfl,fun _ _=>rfl,fun _ _=>rfl,fun _ _=>rfl,fun _ _=>rfl,fun R i=>by unfold pR;cases R.run<;>rfl,fun _ _ _ _ _=>rfl,
  fun _ _ _=>rfl,fun _ _ _ _=>rfl,fun _=>rfl,fun _=>rfl,fun _=>rfl,fun _=>rfl,fun _ _ _ _=>by simp,fun _ _ _ _=>by simp,by simp,by simp,by simp,qhZ,qkp,qhn,qd5,qk9,
  qtV,qtx,qvU,quM,fun _ _=>by simp,fun _ _ _=>rfl,by simp,by simp⟩
theorem wY {R:TR}{j:Nat}{ps:List PV}(h:R.run=some (j,ps))(i:Nat):(jIs R i=true)=(j=i):=by simp[jIs,jR,h]
theorem run_bind {α β:Type}(t:Tree α)(f:α->Tree β):(t.bind f).run=t.run.bind fun a=>(f a).run:=by
 induction t with
 | leaf a=>rfl
 | br b t e iht ihe=>cases b<;>simp[Tree.bind,Tree.run,iht,ihe]
 | fail=>rfl
theorem qbv {S:List PV->TR}{ps qs:List PV}(h:(S ps).run=some (0,qs)):(qdC S (n+1) ps).run=(qdC S n qs).run:=by simp[qdC,run_bind,h]
theorem q46 {S:List PV->TR}{n j:Nat}{ps qs:List PV}(h:(S ps).run=some (j+1,qs)):(qdC S (n+1) ps).run=some (j,qs):=by simp[qdC,run_bind,h,Tree.run]
def q2S{α:Type}(f:Nat->Option α):Nat->Nat->Option α
 | _,0=>none
 | i,k+1=>match f i with
  | some a=>some a
  | none=>q2S f (i+1) k
theorem qjy{S:List PV->TR}(st:Nat->List PV)(f:Nat->Option (Nat×List PV))(fin:Nat×List PV)(n:Nat)
  (h1:∀i,i<n->f i=none->(S (st i)).run=some (0,st (i+1))) (h2:∀i r,i<n->f i=some r->(S (st i)).run=some (r.1+1,r.2))
  (h3:(S (st n)).run=some (fin.1+1,fin.2)):∀(k i m:Nat),i+k=n->k<m->(qdC S m (st i)).run=some ((q2S f i k).getD fin)
 | 0,i,m,hi,hm=>by
  obtain⟨m,rfl⟩:∃m',m=m'+1:=⟨m-1,by omega⟩;have:i=n:=by omega
  subst this;rw[q46 h3];rfl
 | k+1,i,m,hi,hm=>by
  obtain⟨m,rfl⟩:∃m',m=m'+1:=⟨m-1,by omega⟩;cases hf:f i with
  | none=>
   rw[qbv (h1 i (by omega) hf),qjy st f fin n h1 h2 h3 k (i+1) m (by omega) (by omega)];simp[q2S,hf]
  | some r=>
   rw[q46 (h2 i r (by omega) hf)];simp[q2S,hf]
theorem qdG {S:List PV->TR}(st:Nat->List PV)(f:Nat->Option (Nat×List PV))(fin:Nat×List PV)(n:Nat)(hn:n<9223372036854775808)(h1:∀i,i<n->f i=none->(S (st i)).run=some (0,st (i+1))) (h2:∀i r,i<n->f i=some r->(S (st i)).run=some (r.1+1,r.2))(h3:(S (st n)).run=some (fin.1+1,fin.2)):(qm S (st 0)).run=some ((q2S f 0 n).getD fin):=qjy st f fin n h1 h2 h3 n 0 q9T (by omega) (Nat.lt_trans hn (by unfold q9T;decide))
theorem wG {S:List PV->TR}(st:Nat->List PV)(fin:Nat×List PV)(n:Nat)(hn:n<9223372036854775808)(h1:∀i,i<n->(S (st i)).run=some (0,st (i+1))) (h3:(S (st n)).run=some (fin.1+1,fin.2)):(qm S (st 0)).run=some fin:=by
 have h:=qdG st (fun _=>none) fin n hn (fun i hi _=>h1 i hi) (fun i r _ h=>by cases h) h3;have e:∀k i,q2S (fun _=>(none:Option (Nat×List PV))) i k=none:=by
  intro k;induction k with
  | zero=>intro i;rfl
  | succ k ih=>intro i;simp[q2S,ih]
 rw[e] at h;exact h
theorem qhc{α:Type}{f:Nat->Option α}:∀{k i:Nat},q2S f i k=none->∀j,i<=j->j<i+k->f j=none
 | 0,i,_,j,h1,h2=>by omega
 | k+1,i,h,j,h1,h2=>by
  simp only[q2S] at h;cases hf:f i with
  | some a=>rw[hf] at h;cases h
  | none=>
   rw[hf] at h;rcases qyJ h1 with rfl|h1
   ·exact hf
   ·exact qhc h j h1 (by omega)
theorem qeA{α:Type}{f g:Nat->Option α}:∀{k i:Nat},(∀j,i<=j->j<i+k->f j=g j)->q2S f i k=q2S g i k
 | 0,i,_=>rfl
 | k+1,i,h=>by
  simp only[q2S];rw[h i (by omega) (by omega),qeA (fun j h1 h2=>h j (by omega) (by omega))]
theorem qku{α β:Type}(g:α->β){f:Nat->Option α}:∀{k i:Nat},q2S (fun j=>(f j).map g) i k=(q2S f i k).map g
 | 0,i=>rfl
 | k+1,i=>by
  simp only[q2S];cases f i with
  | some a=>rfl
  | none=>exact qku g
theorem q5J {i n:Nat}(h:i<n)(hn:n<9223372036854775808):wT .i64 (i:Int) 1=((i+1:Nat):Int):=by rw[vZ (by omega)];omega
theorem qs6 {α:Type}(n:Nat):∀i,q2S (fun _=>(none:Option α)) i n=none:=by
 induction n with
 | zero=>intro i;rfl
 | succ n ih=>intro i;simp[q2S,ih]
def pick(p:Nat->Bool):Nat->R
 | 0=>[]
 | n+1=>if p n then q1i (pick p n) [[.i (n:Int)]] else pick p n
theorem qkG(p:Nat->Bool):∀n,(pick p n).length<=n
 | 0=>qxC _
 | n+1=>by
  have:=qkG p n;unfold pick;split
  ·simp[q1i];omega
  ·omega
def qge(f:Nat->Int)(i:Nat):Option Int:=if f i=0 then none else some (f i)
theorem qqG {f:Nat->Int}(h:q2S (qge f) 0 n=none)(i:Nat)(hi:i<n):f i=0:=by
 have:=qhc h i (by omega) (by omega);unfold qge at this;split at this
 ·assumption
 ·cases this
theorem qko{f:Nat->Int}:∀{k i:Nat} {e:Int},q2S (qge f) i k=some e->e≠0
 | 0,i,e,h=>by cases h
 | k+1,i,e,h=>by
  simp only[q2S] at h;unfold qge at h;by_cases h0:f i=0
  ·rw[if_pos h0] at h;exact qko h
  ·rw[if_neg h0] at h;simp at h;omega
def q2N(e:Nat->Int)(n:Nat):Int:=(q2S (qge e) 0 n).getD 0
theorem qcO {e:Nat->Int}(h:q2N e n=0)(i:Nat)(hi:i<n):e i=0:=by
 unfold q2N at h;cases hs:q2S (qge e) 0 n with
 | none=>exact qqG hs i hi
 | some x=>rw[hs] at h;exact absurd h (qko hs)
theorem qsk {e:Nat->Int}(h:∀i,i<n->e i=0):q2N e n=0:=by unfold q2N;rw[qeA (g:=fun _=>none) (fun j _ hj=>by unfold qge;rw[if_pos (h j (by omega))]),qs6];rfl
theorem qdv {S:List PV->TR}(st:Nat->List PV)(e:Nat->Int)(caps fin:List PV)(n:Nat)(hn:n<9223372036854775808)(h:∀i,i<n->(S (st i)).run=if e i=0 then some (0,st (i+1)) else some (2,.i (e i)::caps)) (h3:(S (st n)).run=some (1,fin)) :(qm S (st 0)).run=some (if q2N e n=0 then (0,fin) else (1,.i (q2N e n)::caps)):=by
 have key:=qdG st (fun i=>(qge e i).map fun x=>(1,PV.i x::caps)) (0,fin) n hn (fun i hi hf=>by
  rw[h i hi];unfold qge at hf;split at hf
  ·rename_i h0;rw[if_pos h0]
  ·simp at hf) (fun i r hi hf=>by
  rw[h i hi];unfold qge at hf;split at hf
  ·simp at hf
  ·rename_i h0;simp at hf;rw[if_neg h0,<-hf]) h3
 rw[key,qku];unfold q2N;cases hs:q2S (qge e) 0 n with
 | none=>simp
 | some x=>simp[qko hs]
def wJ(g:Nat->List U)(n:Nat):R:=(List.range n).map g
theorem qa8 (g:Nat->List U)(n:Nat):q1i (wJ g n) [g n]=wJ g (n+1):=by simp[q1i,wJ,List.range_succ]
theorem q3z (g:Nat->List U)(n:Nat):(wJ g n).length=n:=by simp[wJ]
theorem q11 (g:Nat->List U)(n:Nat):qh (wJ g n)=n:=by simp[qh,wJ]
theorem qfl (g:Nat->List U){n i:Nat}(h:i<n)(j:Nat):wv (wJ g n) (i:Int) j=(g i).getD j (.i 0):=by unfold wv wJ;simp[h]
theorem q66 (g:Nat->List U){n i:Nat}(h:i<n)(j:Nat):cI (wJ g n) (i:Int) j=((g i).getD j (.i 0)).toI:=by unfold cI;rw[qfl g h]
theorem qqM (g:Nat->List U){n i:Nat}(h:i<n)(j:Nat):cB (wJ g n) (i:Int) j=((g i).getD j (.i 0)).toB:=by unfold cB;rw[qfl g h]
theorem qkS (g:Nat->List U){n i:Nat}(h:i<n)(j:Nat):cS (wJ g n) (i:Int) j=((g i).getD j (.i 0)).toS:=by unfold cS;rw[qfl g h]
theorem qjq {g g':Nat->List U}(h:∀i,i<n->g i=g' i):wJ g n=wJ g' n:=by unfold wJ;exact qyZ fun i hi=>h i (qyR.1 hi)
theorem qh1 {g:Nat->List U}{i n:Nat}{K:Int}(hi:i<n)(hn:(n:Int)<=K)(a:List U):qh (wJ g i)+qh [a]<=K:=by rw[q11];show (i:Int)+1<=_;omega
theorem qhx {l:R}{i:Nat}(h:i<l.length):(i:Int)<qh l:=by unfold qh;omega
theorem qkN (l:R):¬((l.length:Int)<qh l):=by unfold qh;omega
theorem q0y (i:Nat):(0:Int)<=(i:Int):=by omega
theorem qth (a:List U):qh [a]=1:=rfl
theorem qo1 (l:R):0<=qh l:=by unfold qh;omega
end Go.Eng

