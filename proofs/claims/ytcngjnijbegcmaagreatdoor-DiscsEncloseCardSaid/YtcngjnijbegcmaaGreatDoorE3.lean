/- Texts of the proof, merged: what the code computes, and plain laws. No statement stands here. -/
import Derived.KernelRfl
import Derived.OpenShut
import Derived.Deep.Slices
import Derived.SizedLaws
import Derived.Below
import Derived.Lib.LaidTab
import Derived.Laws.OwnMore
import Derived.Test.YtcngjnijbegcmaaGreatDoorProg
import Derived.WalkKit
import Derived.BigCall
import Derived.Deep.RegionWith
import Derived.Deep.LoopGhost
import Derived.Test.YtcngjnijbegcmaaGreatDoorE2
namespace Go.Eng
variable {E:Env}{P:Program}{f:FuncId}{fn:Func}
def q6G(fn:Func):Code:=fn.body.getD .skip
def zm(fn:Func)(k:Nat):Code:=((zt (q6G fn))[k]?).getD .skip
def qmc:Code->Code
 | .loop c=>c
 | c=>c
def qL7(E:Env)(f:FuncId)(fn:Func)(k:Nat):qAj:=match zm fn k with
 | .rangeFunc _ ps a b=>qvM (yY E (q9C E 9) (q8N E) (qkj E (q9C E 9)) f a (k+1)) (yY E (q9C E 9) (q8N E) (qkj E (q9C E 9)) f b (k+1+zT a)) ps.toList
 | _=>fun _ _=>.fail
def hdl(E:Env):Option (FuncId×Func×Nat)->q97
 | none=>q9C E 9
 | some (fc,fnc,kc)=>qF3 (qL7 E fc fnc kc) (q9C E 9)
def rgh(E:Env):Option (FuncId×Func×Nat)->qe4
 | none=>qkj E (q9C E 9)
 | some _=>qu9
def qnR(E:Env)(y:Option (FuncId×Func×Nat))(f:FuncId)(fn:Func)(k:Nat)(st:St):Tree (Ex×St):=yY E (hdl E y) (q8N E) (rgh E y) f (qmc (zm fn k)) (k+1) st
def vj(E:Env)(f:FuncId)(fn:Func)(k:Nat)(tin:Tmpl)(outs:List Out)(ps:List PV):TR:=(qnR E none f fn k (tin.make ps)).bind (qFb tin outs)
def qof(E:Env)(y:Option (FuncId×Func×Nat))(f:FuncId)(fn:Func)(k:Nat)(tin:Tmpl)(outs:List Out)(ps:List PV):TR:=(qnR E y f fn k (tin.make ps)).bind (qFb tin outs)
def qu(E:Env)(f:FuncId)(fn:Func)(fz:Bool)(i:FIn)(outs:List FOut)(ps:List PV):TR:=(qze E 9 f fn (i.make ps).1 (i.make ps).2).bind fun q=>qIM outs 0 (qer fz q)
def qhJ:Nat:=2^70
def qh(S:List PV->TR)(ps:List PV):TR:=qlV S qhJ ps
structure EnvOK (E:Env) (P:Program):Prop where
 tok:E.tok P
 specs:E.specs P
 loops:E.loopsOK P
 bodies:E.bodies P
theorem q8t (h:E.tt.map (fun x=>qw1 P x.1)=E.tt.map (·.2)):E.tok P:=by
 intro x hx;have:∀(l:List (TypeId×TI)),l.map (fun x=>qw1 P x.1)=l.map (·.2)->∀x,x∈l->qw1 P x.1=x.2:=by
  intro l;induction l with
  | nil=>intro _ x hx;cases hx
  | cons y l ih=>
   intro h x hx;simp only[qMn,qMX] at h;rcases qLx.1 hx with rfl|hx
   ·exact h.1
   ·exact ih h.2 x hx
 exact this _ h x hx
theorem aln {α:Type}{p:α->Prop}:∀x,x∈([]:List α)->p x:=fun _ h=>by cases h
theorem alc {α:Type}{p:α->Prop}{a:α}{l:List α}(h:p a)(t:∀x,x∈l->p x):∀x,x∈a::l->p x:=fun x hx=>by
 rcases qLx.1 hx with rfl|hx
 ·exact h
 ·exact t x hx
theorem qEu (h:P.funcs[f]?=some fn)(hn:(fn.name == "runtime.NumGoroutine")=false):P.funcs[(f,fn).1]?=some (f,fn).2/\((f,fn).2.name == "runtime.NumGoroutine")=false:=⟨h,hn⟩
theorem qHi {gl:List (Nat×AV)}{ni f k:Nat}{L:St->Tree (Ex×St)}(hf:P.funcs[f]?=some fn)(hb:fn.body.isSome=true)(hn:((zt (q6G fn))[k]?).isSome=true) {it:List (FuncId×FuncId×Nat)} (hg:ql P gl ni (qD P it f) (zm fn k) L) :∃fn' c c',P.funcs[((f,k),L).1.1]?=some fn'/\fn'.body=some c/\(zt c)[((f,k),L).1.2]?=some c'/\ql P gl ni (qD P it ((f,k),L).1.1) c' ((f,k),L).2:=by
 refine⟨fn,q6G fn,zm fn k,hf,?_,?_,hg⟩
 ·unfold q6G;cases h:fn.body with
  | none=>rw[h] at hb;cases hb
  | some c=>rfl
 ·show (zt (q6G fn))[k]?=some (zm fn k);unfold zm;cases h:(zt (q6G fn))[k]? with
  | none=>rw[h] at hn;cases hn
  | some c=>rfl
def qwj:Code->Bool
 | .loop _=>true
 | _=>false
theorem qxx {A C:List Code}(hA:∀(k:Nat) (d:Code),A[k]?=some d->∀(j:Nat) (c':Code),(zt d)[j]?=some c'->A[k+j]?=some c')(hC:∀(k:Nat) (d:Code),C[k]?=some d->∀(j:Nat) (c':Code),(zt d)[j]?=some c'->C[k+j]?=some c') :∀(k:Nat) (d:Code),(A++C)[k]?=some d->∀(j:Nat) (c':Code),(zt d)[j]?=some c'->(A++C)[k+j]?=some c':=by
 intro k d hd j c' hc;rcases qLy k A.length with h|h
 ·rw[qLB h] at hd;have:=hA k d hd j c' hc;rw[qLB (qv this)];exact this
 ·rw[qLP h] at hd;have:=hC _ d hd j c' hc;rw[qLP (by omega),show k+j-A.length=k-A.length+j by omega];exact this
theorem qtZ {c:Code}{l:List Code}(hc:zt c=c::l)(hl:∀(k:Nat) (d:Code),l[k]?=some d->∀(j:Nat) (c':Code),(zt d)[j]?=some c'->l[k+j]?=some c') :∀(k:Nat) (d:Code),(c::l)[k]?=some d->∀(j:Nat) (c':Code),(zt d)[j]?=some c'->(c::l)[k+j]?=some c':=by
 intro k d hd j c' hj;cases k with
 | zero=>
  simp only[qMO,qLq] at hd;subst hd;rw[hc] at hj;simpa using hj
 | succ k=>
  simp only[qMt] at hd;have:=hl k d hd j c' hj;rw[show k+1+j=(k+j)+1 by omega,qMt];exact this
theorem qvv:∀(c:Code) (k:Nat) (d:Code),(zt c)[k]?=some d->∀(j:Nat) (c':Code),(zt d)[j]?=some c'->(zt c)[k+j]?=some c':=by
 intro c;induction c with
 | seq a b iha ihb=>exact qtZ rfl (qxx iha ihb)
 | cond x a b iha ihb=>exact qxx iha ihb
 | block id c ih=>exact ih
 | scope c ih=>exact ih
 | loop c ih=>exact qtZ rfl ih
 | rangeFunc x ps a b iha ihb=>exact qtZ rfl (qxx iha ihb)
 | _=>intro k d hd;simp[zt] at hd
theorem qEC {k:Nat}(h:((zt (q6G fn))[k]?).isSome=true):(zt (q6G fn))[k]?=some (zm fn k):=by
 unfold zm;cases h':(zt (q6G fn))[k]? with
 | none=>rw[h'] at h;cases h
 | some c=>rfl
def qJC(E:Env)(P:Program)(f:FuncId):Option (FuncId×Func×Nat)->Prop
 | none=>q8A E.iter f=true
 | some (fc,fnc,kc)=>P.funcs[fc]?=some fnc/\(qtp E.iter f fc kc&&(q8A E.iter fc&&(fnc.body.isSome&&((zt (q6G fnc))[kc]?).isSome)))=true
theorem quO (h:fn.body.isSome=true):fn.body=some (q6G fn):=by
 unfold q6G;cases hb:fn.body with
 | none=>rw[hb] at h;cases h
 | some c=>rfl
theorem qIw (hm:P.follows .mixedOrders=true)(h:EnvOK E P){y:Option (FuncId×Func×Nat)}(hy:qJC E P f y):(∀B,qD P E.iter f B->CallOK E P (hdl E y) B)/\qkI E P (rgh E y):=by
 have hcall:=qhU hm h.tok h.specs h.loops h.bodies 9;cases y with
 | none=>exact⟨fun B _=>hcall B,qeE hm h.tok h.specs h.loops h.bodies hcall⟩
 | some y=>
  obtain⟨fc,fnc,kc⟩:=y;obtain⟨hf,hc⟩:=hy;simp only[qLN] at hc;obtain⟨c1,c2,c3,c4⟩:=hc;refine⟨fun B hB=>⟨(hcall B).fn,?_⟩,qne E P⟩;have hfi:qiH E.iter f=some (fc,kc):=by
   unfold qtp at c1;split at c1
   ·rename_i z hz;simp only[qLN] at c1;rw[hz];obtain⟨z1,z2⟩:=z;have e1:z1=fc:=qMs c1.1;have e2:z2=kc:=qMs c1.2;rw[e1,e2]
   ·cases c1
  obtain⟨_,hI⟩:=hB;rw[hfi] at hI;have hnode:=qEC c4;have hsub:=qvv (q6G fnc) kc _ hnode;intro args st r X a vargs hs ha hr;simp only[hdl,qF3,qL7] at hr;cases hn:zm fnc kc with
  | rangeFunc x ps c d=>
   rw[hn] at hr hnode hsub;refine qzi hf (quO c3) hnode c2 (fun B X st act r hbo hs hr n=>?_) (fun B X st act r hbo hs hr n=>?_) hI args st r X a vargs hs ha hr
   ·refine qcm hm h.tok h.specs h.loops hf (quO c3) (fun B _=>hcall B) (qcj hm h.tok h.specs h.loops h.bodies) (q82 E) (qeE hm h.tok h.specs h.loops h.bodies hcall) c (kc+1) (fun j c' hj=>?_) hbo hs hr;have:=hsub (1+j) c' (by simp only[zt];rw[Nat.add_comm,qMt,qLB (qv hj)];exact hj);rw[show kc+1+j=kc+(1+j) by omega];exact this
   ·refine qcm hm h.tok h.specs h.loops hf (quO c3) (fun B _=>hcall B) (qcj hm h.tok h.specs h.loops h.bodies) (q82 E) (qeE hm h.tok h.specs h.loops h.bodies hcall) d (kc+1+zT c) (fun j c' hj=>?_) hbo hs hr;have:=hsub (1+zT c+j) c' (by simp only[zt];rw[show 1+zT c+j=(zT c+j)+1 by omega,qMt,qLP (by rw[kE];omega),kE];rw[show zT c+j-zT c=j by omega];exact hj);rw[show kc+1+zT c+j=kc+(1+zT c+j) by omega];exact this
  | _=>rw[hn] at hr;cases hr
theorem q1l (hm:P.follows .mixedOrders=true)(h:EnvOK E P){f k:Nat}(hf:P.funcs[f]?=some fn)(hlp:qwj (zm fn k)=true) {tin:Tmpl} {outs:List Out} {S:List PV->TR} {y:Option (FuncId×Func×Nat)} (hy:qJC E P f y)(hk:(tin.ok E.nimp&&outs.all fun o=>o.tm.ok E.nimp)=true)(hnk:(fn.body.isSome&&((zt (q6G fn))[k]?).isSome)=true)(hS:∀ps,S ps=qof E y f fn k tin outs ps):ql P E.glob E.nimp (qD P E.iter f) (zm fn k) (qk tin outs (qh S)):=by
 simp only[qLN] at hk hnk;have hnode:=qEC hnk.2;have hsub:∀j c',(zt (qmc (zm fn k)))[j]?=some c'->(zt (q6G fn))[k+1+j]?=some c':=by intro j c' hj;have:=qvv (q6G fn) k _ hnode (1+j) c' (by cases hn:zm fn k<;>simp[hn,qwj] at hlp;rw[hn] at hj;simp only[zt,qmc] at hj ⊢;rw[Nat.add_comm,qMt];exact hj);rw[show k+1+j=k+(1+j) by omega];exact this
 have hc:zm fn k=.loop (qmc (zm fn k)):=by cases hn:zm fn k<;>simp[hn,qwj] at hlp;rfl
 rw[hc];refine qCE (ev:=qnR E y f fn k) (S:=S) ?_ hk.1 hk.2 (fun ps r _ hr=>by rw[hS] at hr;exact hr) (fun ps=>⟨qhJ,rfl⟩);intro n0 B X st a r hbo hs hr;obtain⟨w1,w2⟩:=qIw hm h hy;exact qcm hm h.tok h.specs h.loops hf (quO hnk.1) w1 (qcj hm h.tok h.specs h.loops h.bodies) (q82 E) w2 (qmc (zm fn k)) (k+1) hsub hbo hs hr
theorem qxo (hm:P.follows .mixedOrders=true)(h:EnvOK E P){f k:Nat}(hf:P.funcs[f]?=some fn)(hlp:qwj (zm fn k)=true) {tin:Tmpl} {outs:List Out} {S:List PV->TR} (hni:q8A E.iter f=true)(hk:(tin.ok E.nimp&&outs.all fun o=>o.tm.ok E.nimp)=true)(hnk:(fn.body.isSome&&((zt (q6G fn))[k]?).isSome)=true)(hS:∀ps,S ps=vj E f fn k tin outs ps):ql P E.glob E.nimp (qD P E.iter f) (zm fn k) (qk tin outs (qh S)):=q1l hm h hf hlp (y:=none) hni hk hnk hS
theorem qno (hm:P.follows .mixedOrders=true)(h:EnvOK E P)(hf:P.funcs[f]?=some fn)(hn:((fn.name == "runtime.NumGoroutine")||fn.body.isNone)=false) {fz:Bool} {i:FIn} {outs:List FOut} {T:List PV->TR}(hk:(Nat.beq i.h.length E.nimp&&i.h.all BP.isCells&&outs.all fun o=>qdN E.nimp o.h)=true)(hT:∀ps,T ps=qu E f fn fz i outs ps):qQ P E.glob f (q9 i outs T):=by simp only[Bool.or_eq_false_iff] at hn;simp only[qLN] at hk;exact qEj hm h.tok h.specs h.loops h.bodies hf hn.1 hn.2 (n:=9) (fz:=fz) ⟨qMs hk.1.1,hk.1.2⟩ hk.2 (fun ps r _ hr=>by rw[hT] at hr;exact hr)
theorem b1 (h:P.funcs[f]?=some fn)(hn:(fn.name == "runtime.NumGoroutine")=false:=by kernel_rfl):∀x,x∈[(f,fn)]->P.funcs[x.1]?=some x.2/\(x.2.name == "runtime.NumGoroutine")=false:=alc (qEu h hn) aln
theorem bk (h:P.funcs[f]?=some fn)(hn:(fn.name == "runtime.NumGoroutine")=false:=by kernel_rfl):P.funcs[(f,fn).1]?=some (f,fn).2/\((f,fn).2.name == "runtime.NumGoroutine")=false:=qEu h hn
theorem lk {gl:List (Nat×AV)}{ni f k:Nat}{L:St->Tree (Ex×St)}(hf:P.funcs[f]?=some fn){it:List (FuncId×FuncId×Nat)} (hg:ql P gl ni (qD P it f) (zm fn k) L) (hb:fn.body.isSome=true:=by kernel_rfl) (hn:((zt (q6G fn))[k]?).isSome=true:=by kernel_rfl) :∃fn' c c',P.funcs[((f,k),L).1.1]?=some fn'/\fn'.body=some c/\(zt c)[((f,k),L).1.2]?=some c'/\ql P gl ni (qD P it ((f,k),L).1.1) c' ((f,k),L).2:=qHi hf hb hn hg
theorem sk (E:Env)(hm:P.follows .mixedOrders=true)(ht:E.tt.map (fun x=>qw1 P x.1)=E.tt.map (·.2))(hs:∀x,x∈E.spec->qQ P E.glob x.1 x.2)(hl:E.loopsOK P)(hb:E.bodies P)(hf:P.funcs[f]?=some fn){i:FIn} {outs:List FOut} {T:List PV->TR} (hT:∀ps,T ps=qu E f fn true i outs ps:=by exact fun _=>rfl) (hn:((fn.name == "runtime.NumGoroutine")||fn.body.isNone)=false:=by kernel_rfl)(hk:(Nat.beq i.h.length E.nimp&&i.h.all BP.isCells&&outs.all fun o=>qdN E.nimp o.h)=true:=by kernel_rfl) (hd:∀x,x∈E.dels->qnt P x.1 x.2:=by exact aln):qQ P E.glob f (q9 i outs T):=qno hm ⟨q8t ht,⟨hs,hd⟩,hl,hb⟩ hf hn hk hT
theorem gk (E:Env)(hm:P.follows .mixedOrders=true)(ht:E.tt.map (fun x=>qw1 P x.1)=E.tt.map (·.2))(hs:∀x,x∈E.spec->qQ P E.glob x.1 x.2)(hl:E.loopsOK P)(hb:E.bodies P){f k:Nat}(hf:P.funcs[f]?=some fn){tin:Tmpl} {outs:List Out} {S:List PV->TR} (hS:∀ps,S ps=vj E f fn k tin outs ps:=by exact fun _=>rfl) (hlp:qwj (zm fn k)=true:=by kernel_rfl) (hni:q8A E.iter f=true:=by kernel_rfl)(hk:(tin.ok E.nimp&&outs.all fun o=>o.tm.ok E.nimp)=true:=by kernel_rfl) (hnk:(fn.body.isSome&&((zt (q6G fn))[k]?).isSome)=true:=by kernel_rfl) (hd:∀x,x∈E.dels->qnt P x.1 x.2:=by exact aln) :ql P E.glob E.nimp (qD P E.iter f) (zm fn k) (qk tin outs (qh S)):=qxo hm ⟨q8t ht,⟨hs,hd⟩,hl,hb⟩ hf hlp hni hk hnk hS
end Go.Eng

namespace Go.Eng
mutual
def qmO{H:Type}:DataW H->List U
 | .lit (.bool b)=>[.b b]
 | .lit (.int _ n)=>[.i n]
 | .lit (.string s)=>[.s s]
 | .nil=>[.l []]
 | .slice es _=>[.l (qwU es)]
 | .agg ps=>qAT ps
 | _=>[.i 0]
def qAT{H:Type}:List (DataW H)->List U
 | []=>[]
 | d::l=>qmO d++qAT l
def qwU{H:Type}:List (DataW H)->List (List U)
 | []=>[]
 | d::l=>qmO d::qwU l
end
theorem qiv{H:Type}:∀l:List (DataW H),qwU l=l.map qmO
 | []=>rfl
 | d::l=>by simp[qwU,qiv l]
inductive UFit:Sh->U->Prop
 | int (k:IntKind) (n:Int) (h0:k.min<=n) (h1:n<=k.max):UFit (.int k) (.i n)
 | bool (b:Bool):UFit .bool (.b b)
 | str (s:qLp) (h:s.length<=maxLen):UFit .str (.s s)
 | sl (row:List Sh) (l:R) (h:l.length<=maxLen) (hl:∀r,r∈l->r.length=row.length) (hf:∀(r:List U) (j:Nat) (s:Sh) (u:U),r∈l->row[j]?=some s->r[j]?=some u->UFit s u):UFit (.sl row) (.l l)
inductive CR (W:World) (M:Nat->Prop):List Sh->List U->List Value->Prop
 | nil:CR W M [] [] []
 | cons {s:Sh} {u:U} {v:Value} {sh:List Sh} {us:List U} {vs:List Value} (h:RepU W M s u v) (f:UFit s u) (t:CR W M sh us vs):CR W M (s::sh) (u::us) (v::vs)
theorem CR.append{W:World}{M:Nat->Prop}{a a':List Sh}{b b':List U}{c c':List Value}(h:CR W M a b c)(k:CR W M a' b' c'):CR W M (a++a') (b++b') (c++c'):=by
 induction h with
 | nil=>exact k
 | cons h f t ih=>exact .cons h f ih
theorem CR.len{W:World}{M:Nat->Prop}{a:List Sh}{b:List U}{c:List Value}(h:CR W M a b c):b.length=a.length/\c.length=a.length:=by
 induction h with
 | nil=>exact⟨rfl,rfl⟩
 | cons h f t ih=>simp[ih.1,ih.2]
theorem CR.get{W:World}{M:Nat->Prop}{a:List Sh}{b:List U}{c:List Value}(h:CR W M a b c):∀(j:Nat) (s:Sh),a[j]?=some s->∃u v,b[j]?=some u/\c[j]?=some v/\RepU W M s u v/\UFit s u:=by
 induction h with
 | nil=>intro j s hj;simp at hj
 | cons h f t ih=>
  intro j s hj;cases j with
  | zero=>simp at hj;subst hj;exact⟨_,_,rfl,rfl,h,f⟩
  | succ j=>simpa using ih j s (by simpa using hj)
def Sh.good:Sh->Bool
 | .sl row=>!row.isEmpty
 | _=>true
def qvb:Nat->List (Nat×TypeId×Nat)->Bool
 | _,[]=>true
 | o,f::l=>Nat.beq f.1 o&&qvb (o+f.2.2) l
def qAu:List (Nat×TypeId×Nat)->Nat
 | []=>0
 | f::l=>f.2.2+qAu l
def qxv(x:TI):Bool:=match x.d with
 | .struct fs=>qvb 0 fs&&Nat.beq (qAu fs) x.size
 | .array n _ es=>Nat.beq (n*es) x.size
 | .slice _ es=>Nat.blt 0 es
 | _=>true
theorem qGt{E:Env}(h:E.tt.all (fun x=>qxv x.2)=true)(t:TypeId):qxv (E.ty t)=true:=by
 unfold Env.ty;cases hf:E.tt.find? fun x=>x.1==t with
 | none=>rfl
 | some x=>exact qLZ.1 h x (qMm hf)
section
variable {H:Type} {enc:TypeId×Value->H} {P:Program} {W:World} {base:Nat} {sp:Nat->Bool} {held:Bool} {E:Env}
theorem qsX{M:Nat->Prop}{fuel n:Nat}{cs:List Value}(ih:∀t cs d ps sh,E.shape n t=some sh->DataW.trod enc P W base sp held fuel t cs=some (d,ps)->CR W M sh (qmO d) cs) :
  ∀(fs:List (Nat×TypeId×Nat)) (o:Nat) (xs:List (DataW H×List MemPlace)) (shs:List (List Sh)),qvb o fs=true->o+qAu fs=cs.length->fs.mapM (fun f=>E.shape n f.2.1)=some shs ->
   xs.length=fs.length->(∀(i:Nat) (f:Nat×TypeId×Nat),fs[i]?=some f->DataW.trod enc P W base sp held fuel f.2.1 ((cs.drop f.1).take f.2.2)=xs[i]?) ->
   CR W M shs.flatten (qAT (xs.map (·.1))) (cs.drop o)
 | [],o,xs,shs,_,hs,hsh,hl,_=>by
  simp[qAu] at hs hsh hl;subst hsh hl;have:cs.drop o=[]:=qNe (by omega);rw[this];exact .nil
 | f::fs,o,xs,shs,hlay,hs,hsh,hl,hx=>by
  simp only[qvb,qLN] at hlay;obtain⟨h1,h2⟩:=hlay;have ho:f.1=o:=qMs h1;simp only[qAu] at hs;rw[List.mapM_cons] at hsh;cases hsf:E.shape n f.2.1 with
  | none=>rw[hsf] at hsh;cases hsh
  | some shf=>
   cases hrest:fs.mapM (fun f=>E.shape n f.2.1) with
   | none=>rw[hsf,hrest] at hsh;cases hsh
   | some shr=>
    rw[hsf,hrest] at hsh;cases hsh;cases xs with
    | nil=>simp at hl
    | cons x xs=>
     have h0:=hx 0 f rfl;simp only[qMO] at h0;have c1:=ih f.2.1 _ x.1 x.2 shf hsf h0;rw[ho] at c1;have c2:=qsX (cs:=cs) (M:=M) (fuel:=fuel) ih fs (o+f.2.2) xs shr h2 (by omega) hrest (by simpa using hl) fun i g hg=>by have:=hx (i+1) g (by simpa using hg);simpa using this
     have hsplit:cs.drop o=(cs.drop o).take f.2.2++cs.drop (o+f.2.2):=by rw[<-List.drop_drop,qNy]
     rw[hsplit];simp only[qNF,qMn,qAT];exact c1.append c2
theorem qx9{M:Nat->Prop}{fuel n es:Nat}{e:TypeId}{cs:List Value}{she:List Sh}(he:E.shape n e=some she)
  (ih:∀t cs d ps sh,E.shape n t=some sh->DataW.trod enc P W base sp held fuel t cs=some (d,ps)->CR W M sh (qmO d) cs) :
  ∀(m o:Nat) (xs:List (DataW H×List MemPlace)),(o+m)*es=cs.length->xs.length=m->(∀i,i<m->DataW.trod enc P W base sp held fuel e ((cs.drop ((o+i)*es)).take es)=xs[i]?) ->
   CR W M (List.replicate m she).flatten (qAT (xs.map (·.1))) (cs.drop (o*es))
 | 0,o,xs,hs,hl,_=>by
  simp at hl hs;subst hl;have:cs.drop (o*es)=[]:=qNe (by omega);rw[this];exact .nil
 | m+1,o,xs,hs,hl,hx=>by
  cases xs with
  | nil=>simp at hl
  | cons x xs=>
   have h0:=hx 0 (by omega);simp only[qMO,qM8] at h0;have c1:=ih e _ x.1 x.2 she he h0;have c2:=qx9 (cs:=cs) he ih m (o+1) xs (by rw[<-hs];congr 1;omega) (by simpa using hl) fun i hi=>by have:=hx (i+1) (by omega);rw[show o+(i+1)=o+1+i by omega] at this;simpa using this
   have hsplit:cs.drop (o*es)=(cs.drop (o*es)).take es++cs.drop ((o+1)*es):=by rw[qLH,qNa,<-List.drop_drop,qNy]
   rw[hsplit];simp only[qMU,qNF,qMn,qAT];exact c1.append c2
theorem qzK(hE:E.tok P)(hlay:E.tt.all (fun x=>qxv x.2)=true):∀(fuel n:Nat) (t:TypeId) (cs:List Value) (d:DataW H) (ps:List MemPlace) (sh:List Sh),E.shape n t=some sh ->DataW.trod enc P W base sp held fuel t cs=some (d,ps)->CR W (fun b=>b<W.heap.size) sh (qmO d) cs:=by
 intro fuel;induction fuel with
 | zero=>intro n t cs d ps sh _ h;simp[DataW.trod] at h
 | succ fuel ih=>
  intro n t cs d ps sh hsh h;cases n with
  | zero=>simp[Env.shape] at hsh
  | succ n=>
   simp only[Env.shape] at hsh;have hl:=qGt hlay t;unfold qxv at hl;cases hd:(E.ty t).d<;>rw[hd] at hsh hl<;>simp only at hsh hl<;>try (cases hsh)
   ·
    unfold DataW.trod at h;rw[qpM hE hd] at h;split at h<;>simp_all;obtain⟨rfl,_⟩:=h;exact .cons (.bool (.b _)) (.bool _) .nil
   ·
    rename_i k;unfold DataW.trod at h;rw[qqU hE hd] at h;split at h<;>simp_all;obtain⟨⟨rfl,hw⟩,rfl,_⟩:=h;simp[Lit.wf] at hw;exact .cons (.int _ (.i _)) (.int _ _ hw.1 hw.2) .nil
   ·
    unfold DataW.trod at h;rw[qgD hE hd] at h;split at h<;>simp_all;rename_i s;obtain⟨hm,rfl,_⟩:=h;refine .cons ?_ (.str _ (by simpa using hm)) .nil;have:=RepU.str (w:=W) (M:=fun b=>b<W.heap.size) (.s s.data.toList);simpa[U.toS] using this
   ·
    rename_i e es;obtain⟨ht,rfl⟩:=q1r hE hd;cases he:E.shape n e with
    | none=>rw[he] at hsh;cases hsh
    | some she=>
     rw[he] at hsh;cases hsh;have hpos:0<P.cellsOf e:=by simpa[Nat.blt_eq] using hl
     rcases DataW.trod_slice ht h with⟨rfl,hx⟩|⟨a,len,cap,elems,rest,k,hk,rfl,hx,hb,hlc,hcm,hlen,hel,_,_⟩
     ·cases hx;exact .cons (.slnil _ _ rfl) (.sl _ _ (by simp[maxLen]) (fun r hr=>by cases hr) (fun r j s u hr=>by cases hr)) .nil
     ·cases hx;cases hk;have hrow:∀(i:Nat) (hi:i<len),∃cs',W.cells? base (a.add (i*P.cellsOf e)) (P.cellsOf e)=some cs'/\CR W (fun b=>b<W.heap.size) she (qmO (elems[i]'(by omega)).1) cs':=by intro i hi;have h0:=hel i hi;rw[qLz (by omega)] at h0;obtain⟨cs',g1,g2⟩:=qMZ.1 h0;exact⟨cs',g1,ih n e cs' _ _ she he g2⟩
      have hget:∀(r:Nat) (hr:r<len),(((elems.map (·.1)).map qmO).getD r []:List U)=qmO (elems[r]'(by omega)).1:=by intro r hr;simp[hlen,hr]
      have hcell:∀(r j:Nat) (s:Sh) (hr:r<len),she[j]?=some s->∃v,W.cell? ⟨a.block,a.off+r*she.length+j,none⟩=some v/\RepU W (fun b=>b<W.heap.size) s (wD (qwU (elems.map (·.1))) r j) v/\UFit s ((qmO (elems[r]'(by omega)).1).getD j (.i 0))/\a.spot=none/\a.block<W.heap.size:=by
       intro r j s hr hj;obtain⟨cs',g1,g2⟩:=hrow r hr;obtain⟨_,g4,g5⟩:=World.cells?_some g1;obtain⟨q1,q2⟩:=g2.len;obtain⟨u,v,e1,e2,e3,e4⟩:=g2.get j s hj;have hlen:she.length=P.cellsOf e:=by rw[<-q2,g4]
       have hjl:j<P.cellsOf e:=by rw[<-hlen];exact qv hj
       have hc:=(g5 j hjl).trans e2;have h00:=g5 0 hpos;obtain⟨cs0,z1,z2⟩:=hrow 0 (by omega);obtain⟨_,z4,z5⟩:=World.cells?_some z1;have hz:=z5 0 hpos;obtain⟨v0,hv0⟩:∃v0,cs0[0]?=some v0:=⟨cs0[0],qLz (by omega)⟩;rw[hv0] at hz;simp only[Nat.zero_mul,Addr.add,if_true] at hz;have hspot:=World.cell?_spot hz;refine⟨v,?_,?_,?_,hspot,qME _ _ hz⟩
       ·rw[<-hc,Addr.add_of hspot,qMh,hlen]
       ·have:wD (qwU (elems.map (·.1))) r j=u:=by rw[qiv];unfold wD;rw[qLD,hget r hr];simp[e1]
        rw[this];exact e3
       ·simp[e1];exact e4
      have hrl:(qwU (elems.map (·.1))).length=len:=by rw[qiv];simp[hlen]
      have hsh0:0<len->0<she.length:=by intro hl0;obtain⟨cs',g1,g2⟩:=hrow 0 hl0;obtain⟨_,g4,_⟩:=World.cells?_some g1;rw[<-g2.len.2,g4];exact hpos
      refine .cons ?_ (.sl _ _ (by rw[hrl];omega) ?_ ?_) .nil
      ·have hR:=qag (w:=W) (M:=fun b=>b<W.heap.size) (row:=she) (l:=qwU (elems.map (·.1))) (v:=.slice (some a) len cap) (.inr ⟨a,cap,by rw[hrl],fun h0=>by
        rw[hrl] at h0;obtain⟨_,_,_,_,h4,_⟩:=hcell 0 0 she[0] h0 (qLz (hsh0 h0));exact h4,by rw[hrl];exact hlc,fun r j hj hr=>by
        rw[hrl] at hr;obtain⟨v,h1,h2,_,_,h5⟩:=hcell r j she[j] hr (qLz hj);exact⟨h5,v,h1,h2⟩⟩)
       exact hR
      ·intro r hr;rw[qiv] at hr;obtain⟨i,hi⟩:=qNI hr;have hil:i<len:=by have:=qv hi;simpa[hlen] using this
       have:r=qmO (elems[i]'(by omega)).1:=by rw[<-hget i hil,qLr,hi];rfl
       obtain⟨cs',g1,g2⟩:=hrow i hil;rw[this];exact g2.len.1
      ·intro r j s u hr hs hu;rw[qiv] at hr;obtain⟨i,hi⟩:=qNI hr;have hil:i<len:=by have:=qv hi;simpa[hlen] using this
       have:r=qmO (elems[i]'(by omega)).1:=by rw[<-hget i hil,qLr,hi];rfl
       subst this;obtain⟨_,_,_,h3,_⟩:=hcell i j s hil hs;simpa[qLr,hu] using h3
   ·
    rename_i m e es;obtain⟨ht,rfl⟩:=q84 hE hd;cases he:E.shape n e with
    | none=>rw[he] at hsh;cases hsh
    | some she=>
     rw[he] at hsh;cases hsh;obtain⟨xs,m0,hf,hx,hcl,hxl,hel⟩:=DataW.trod_array ht h;cases hf;cases hx;have hsz:m*P.cellsOf e=cs.length:=by rw[hcl];have h1:=qMs hl;obtain⟨_,i,dd,h2,_,_,h4,_⟩:=q0y hE (t:=t) (by rw[hd];rfl);rw[h1,h4];unfold Program.cellsOf;rw[h2];rfl
     have:=qx9 (cs:=cs) he (fun t cs d ps sh h1 h2=>ih n t cs d ps sh h1 h2) m 0 xs (by simpa using hsz) hxl (fun i hi=>by simpa using hel i hi);simpa[qmO] using this
   ·
    rename_i fs;obtain⟨fields,ht,rfl⟩:=q8J hE hd;cases hm:(fields.toList.map fun f=>(f.offset,f.type,P.cellsOf f.type)).mapM fun f=>E.shape n f.2.1 with
    | none=>rw[hm] at hsh;cases hsh
    | some shs=>
     rw[hm] at hsh;cases hsh;obtain⟨xs,m0,hf,hx,hcl,hxl,hel⟩:=DataW.trod_struct ht h;cases hf;cases hx;simp only[qLN] at hl;have hsz:qAu (fields.toList.map fun f=>(f.offset,f.type,P.cellsOf f.type))=cs.length:=by rw[hcl];have h1:=qMs hl.2;obtain⟨_,i,dd,h2,_,_,h4,_⟩:=q0y hE (t:=t) (by rw[hd];rfl);rw[h1,h4];unfold Program.cellsOf;rw[h2];rfl
     have:=qsX (cs:=cs) (fun t cs d ps sh h1 h2=>ih n t cs d ps sh h1 h2) _ 0 xs shs hl.1 (by simpa using hsz) hm (by simpa using hxl) (fun i f hf=>by
      rw[qLC] at hf;cases hfi:fields.toList[i]? with
      | none=>rw[hfi] at hf;cases hf
      | some g=>
       rw[hfi] at hf;cases hf;exact hel i g (by simpa using hfi))
     simpa[qmO] using this
end
end Go.Eng

namespace Go.Eng
open Go.RowKit
variable {P:Program}{sh:List Sh}
inductive UFits:List Sh->List U->Prop
 | nil:UFits [] []
 | cons {s:Sh} {u:U} {sh:List Sh} {us:List U} (h:UFit s u) (t:UFits sh us):UFits (s::sh) (u::us)
theorem CR.fits {W:World}{M:Nat->Prop}{a:List Sh}{b:List U}{c:List Value}(h:CR W M a b c):UFits a b:=by
 induction h with
 | nil=>exact .nil
 | cons h f t ih=>exact .cons f ih
def q9V:List Sh->List U->List AV
 | .int k::sh,u::us=>.int k u.toI::q9V sh us
 | .bool::sh,u::us=>.bool u.toB::q9V sh us
 | .str::sh,u::us=>.str u.toS::q9V sh us
 | .sl row::sh,u::us=>.imm row u.toR::q9V sh us
 | _,_=>[]
theorem qBh {X:Ctx}{us:List U}{vs:List Value}(h:CR X.w X.M sh us vs):RepL X (q9V sh us) vs:=by
 induction h with
 | nil=>exact .nil
 | cons h f t ih=>
  rename_i s u v sh us vs;cases s with
  | int k=>cases h;exact .cons (.int _ _) ih
  | bool=>cases h;exact .cons (.bool _) ih
  | str=>cases h;exact .cons (.str _) ih
  | sl row=>exact .cons (.imm _ _ _ (qls h)) ih
def qyK(agg:Bool)(sh:List Sh)(us:List U):AV:=match agg with
 | true=>.agg (q9V sh us)
 | false=>(q9V sh us).headD .undef
section
variable {H:Type} {enc:TypeId×Value->H} {P:Program} {W:World} {base:Nat} {sp:Nat->Bool} {held:Bool} {E:Env}
theorem qC4 (hE:E.tok P)(hlay:E.tt.all (fun x=>qxv x.2)=true){X:Ctx}(hw:X.w=W)(hM:X.M=fun b=>b<W.heap.size){r:Reach}{b0 n:Nat}{t:TypeId}{v:Value}{d:DataW H}{ps:List MemPlace}(hsh:E.shape n t=some sh) (hv:Value.okWide P W r b0 t v) (hd:DataW.Trod enc P W base sp held t v d ps):UFits sh (qmO d)/\Rep X (qyK (E.ty t).d.isAgg sh (qmO d)) v:=by
 obtain⟨fuel,hf⟩:=hd;have hc:=qzK hE hlay fuel n t _ d ps sh hsh hf;refine⟨hc.fits,?_⟩;have hr:RepL X (q9V sh (qmO d)) v.cells.toList:=qBh (by rw[hw,hM];exact hc);have hone:∀(_:(E.ty t).d.isAgg=false),v.cells=#[v]->Rep X (qyK (E.ty t).d.isAgg sh (qmO d)) v:=by
  intro ha hcell;rw[ha];rw[hcell] at hr;simp only[qyK];generalize q9V sh (qmO d)=l at hr;cases hr with
  | cons h1 h2=>simpa using h1
 unfold Value.okWide at hv;cases n with
 | zero=>simp[Env.shape] at hsh
 | succ n=>
  simp only[Env.shape] at hsh;cases hd:(E.ty t).d<;>rw[hd] at hsh hone<;>simp only at hsh<;>try (cases hsh)
  ·rw[qpM hE hd] at hv;refine hone rfl ?_;cases v<;>simp[Cell.okWide,qpM hE hd,Cell.ok] at hv<;>rfl
  ·rw[qqU hE hd] at hv;refine hone rfl ?_;cases v<;>simp[Cell.okWide,qqU hE hd,Cell.ok] at hv<;>rfl
  ·rw[qgD hE hd] at hv;refine hone rfl ?_;cases v<;>simp[Cell.okWide,qgD hE hd,Cell.ok] at hv<;>rfl
  ·rw[(q1r hE hd).1] at hv;refine hone rfl ?_;cases v<;>simp[Cell.okWide,(q1r hE hd).1,Cell.ok] at hv<;>rfl
  ·rw[(q84 hE hd).1] at hv;obtain⟨cs,rfl,_,_⟩:=hv;simp only[TD.isAgg,qyK];exact .agg _ _ (by simpa[Value.cells] using hr)
  ·obtain⟨fields,ht,_⟩:=q8J hE hd;rw[ht] at hv;obtain⟨cs,rfl,_,_⟩:=hv;simp only[TD.isAgg,qyK];exact .agg _ _ (by simpa[Value.cells] using hr)
end
theorem qAV {H:Type}{enc:TypeId×Value->H}{W:World}{base:Nat}{sp:Nat->Bool}{held:Bool}{ts:List TypeId}{ds:List (DataW H)}(h:(DataW.weightsEach P ts ds).all (·<=reachBytes)=true)(j:Nat) {t e:TypeId} {v:Value} {d:DataW H} {ps:List MemPlace} {x:R} {b:Nat} (ht:ts[j]?=some t) (hd:ds[j]?=some d) (hu:P.underlying t=some (.slice e)) (hb:P.bytesOf e=b)(htr:DataW.Trod enc P W base sp held t v d ps) (hx:[.l x]=qmO d):x.length*b<=140737488351232:=by
 have he:x.length=0\/∃es spr,d=.slice es spr/\x.length=es.length:=by
  obtain⟨fuel,hf⟩:=htr;rcases DataW.trod_slice hu hf with⟨_,hx'⟩|⟨_,_,_,elems,rest,_,_,_,hx',_⟩
  ·cases hx';simp only[qmO,qMX,U.l.injEq,and_true] at hx;rw[hx];exact .inl rfl
  ·cases hx';simp only[qmO,qMX,U.l.injEq,and_true] at hx;exact .inr ⟨_,_,rfl,by rw[hx,qiv];simp⟩
 rcases he with he|⟨es,spr,rfl,he⟩
 ·rw[he];omega
 ·have:=qLZ.1 h _ (DataW.weights_mem_each ht hd ((es.length+spr.length)*P.bytesOf e) (by simp[DataW.weights,hu]));have h2:(es.length+spr.length)*P.bytesOf e<=reachBytes:=by simpa using this
  rw[hb] at h2;rw[he];have h3:es.length*b<=(es.length+spr.length)*b:=qLT _ (by omega);have h4:reachBytes=140737488351232:=rfl;omega
def qA3(W:World):Ctx:={ σ:=fun _=>none,h:=[],w:=W,M:=fun b=>b<W.heap.size }
def qoQ(W:World):Base:={ w0:=W,imps:=[],M0:=fun b=>b<W.heap.size,fs:=[] }
theorem qJu (W:World):HSim (qoQ W) (qA3 W):=by
 have hno:∀b n,¬(qA3 W).own b n:=by intro b n ⟨h,_⟩;cases h
 refine⟨fun b k h=>?_,fun b b' n h=>absurd h (hno b n),fun b n h=>absurd h (hno b n),fun n h=>h,fun n h=>h,fun n h=>.inl h,rfl,rfl,rfl,qLs _,fun _ _ _=>rfl,fun b h=>?_,fun b h=>?_,fun b n h=>absurd h (hno b n),fun p hp=>by cases hp⟩
 ·have:([]:List Blk)[b]?=some k:=h;simp at this
 ·exact absurd h (by simp[qoQ])
 ·exact absurd h (by simp[qoQ])
theorem qJD (W:World):Entry (qoQ W) (qA3 W):=⟨rfl,rfl,fun _ h=>h⟩
theorem qBT {gl:List (Nat×AV)}{f:FuncId}{G:zw}(hG:qQ P gl f G){W:World}(hgl:q5G gl (qA3 W)){args:List AV}{vargs:List Value}(ha:RepL (qA3 W) args vargs)(h:(G args []).run=some (.bool true,[])):Calls P f vargs.toArray W fun e W'=>e=.returned (.bool true)/\Below W.heap.size W W':=by refine(hG.2 (qoQ W) (qA3 W) args vargs _ (qJu W) (qJD W) hgl ha h).mono fun e W' ⟨v,X',e1,e2,e3,e4,e5,_⟩=>?_;subst e2;refine⟨?_,e5.os,e5.tape,e5.output,e5.size,fun k hk=>e5.frame k hk (by simp[qoQ])⟩;rw[e1];cases e3;rfl
theorem qAC {i:FIn}{outs:List FOut}{T:List PV->TR}{args:List AV}{ps:List PV}(ho:outs=[{ res:=.bool,h:=[] }])(hi:i.take args []=some ps)(hT:(T ps).run=some (0,[.b true])) :(q9 i outs T args []).run=some (.bool true,[]):=by subst ho;unfold q9;rw[hi];simp only[Tree.run,okR,hT,qNJ];simp only[qC3,FOut.kinds,AP.kinds,BP.kindsL,qMC,qm1,gB,pR,hT,qNo,PV.toB,FOut.make,AP.make,BP.makeL,Tree.run]
theorem qI6 {W:World}{E:Env}(hE:E.tok P)(hlay:E.tt.all (fun x=>qxv x.2)=true){name:String}{g n:Nat}{t:TypeId}{d:DataW Unit}(hg:P.globalNamed name=some g) (hty:(P.globals[g]?).map (·.type)=some t) (hsh:E.shape n t=some sh) {ds:List (String×DataW Unit)} (h:laidMet P ds W) (hm:(name,d)∈ds) :qFS (qA3 W) (g,.eptr sh [qmO d] 0 0):=by
 obtain⟨ps,hl,_⟩:=h;have key:∀(ds:List (String×DataW Unit)) (ps:List MemPlace),DataW.LaidVars P W ds ps->(name,d)∈ds->∃cs fuel p,W.var? P name=some cs/\DataW.trod (fun _=>()) P W 0 (fun _=>true) false fuel t cs.toList=some (d,p):=by
  intro ds;induction ds with
  | nil=>intro ps _ h;cases h
  | cons x ds ih=>
   intro ps hl hm;obtain⟨nm,dd⟩:=x;obtain⟨g',t',cs,fuel,p,q,h1,h2,h3,h4,h5,_⟩:=hl;rcases qLx.1 hm with he|hm
   ·cases he;obtain rfl:=qMd (hg.symm.trans h1);obtain rfl:=qMd (hty.symm.trans h2);exact⟨cs,fuel,p,h3,h4⟩
   ·exact ih q h5 hm
 obtain⟨cs,fuel,p,h3,h4⟩:=key ds ps hl hm;have hc:=qzK hE hlay fuel n t _ d p sh hsh h4;have hheap:∃T fr,W.heap[g]?=some (.cells cs T fr):=by
  unfold World.var? at h3;rw[hg] at h3;simp only[qLW] at h3;split at h3
  ·rename_i cs' T fr he;cases h3;exact⟨T,fr,he⟩
  ·cases h3
 suffices hs:Rows (qA3 W).w (qA3 W).M sh [qmO d] ⟨g,0,none⟩ by
  refine⟨?_,?_,?_⟩
  ·have:=Rep.eptr (X:=qA3 W) sh [qmO d] 0 0 ⟨g,0,none⟩ rfl (qLG _) (by simp) hs;simpa using this
  ·obtain⟨T,fr,he⟩:=hheap;exact(qLw.1 he).1
  ·have:=World.var?_cell hg h3 sh.length;show W.cell? ⟨g,sh.length*1,none⟩=none;rw[qNc,this,Array.getElem?_eq_none];rw[<-Array.length_toList,hc.len.2];exact qLs _
 intro r j hj hr;have hr0:r=0:=by simpa using hr
 subst hr0;obtain⟨u,v,e1,e2,e3,_⟩:=hc.get j sh[j] (qLz hj);have hcell:W.cell? ⟨g,j,none⟩=some v:=by have:=World.var?_cell hg h3 j;rw[this];simpa using e2
 refine⟨qME W ⟨g,j,none⟩ hcell,v,?_,?_⟩
 ·rw[Nat.zero_mul,qM8,qMe];exact hcell
 have:wD [qmO d] (0:Nat) j=u:=by simp[wD,e1]
 rw[this];exact e3
theorem UFits.int {k:IntKind}{us:List U}(h:UFits (.int k::sh) us):∃n us',us=.i n::us'/\k.min<=n/\n<=k.max/\UFits sh us':=by
 cases h with
 | cons h t=>cases h with
  | int k n h0 h1=>exact⟨n,_,rfl,h0,h1,t⟩
theorem UFits.bool {us:List U}(h:UFits (.bool::sh) us):∃b us',us=.b b::us'/\UFits sh us':=by
 cases h with
 | cons h t=>cases h with
  | bool b=>exact⟨b,_,rfl,t⟩
theorem UFits.str {us:List U}(h:UFits (.str::sh) us):∃s us',us=.s s::us'/\s.length<=maxLen/\UFits sh us':=by
 cases h with
 | cons h t=>cases h with
  | str s h0=>exact⟨s,_,rfl,h0,t⟩
theorem UFits.sl {row sh:List Sh}{us:List U}(h:UFits (.sl row::sh) us):∃l us',us=.l l::us'/\UFit (.sl row) (.l l)/\UFits sh us':=by
 cases h with
 | cons h t=>
  rename_i u us;cases u with
  | l x=>exact⟨x,_,rfl,h,t⟩
  | _=>cases h
theorem UFits.none {us:List U}(h:UFits [] us):us=[]:=by cases h;rfl
end Go.Eng

namespace Go.Eng
abbrev Bs:=List UInt8
abbrev Op2:=Bs->Bs->Option Bs
def opF(T:List PV->TR):Op2:=fun a b=>match (T [.s a,.s b]).run with
 | some (0,[.s r,.i e])=>if e=0 then some r else none
 | _=>none
theorem qFO{T:List PV->TR}{a b r:Bs}(h:opF T a b=some r):(T [.s a,.s b]).run=some (0,[.s r,.i 0]):=by
 unfold opF at h;split at h
 ·rename_i r' e heq;split at h
  ·rename_i he;cases h;subst he;exact heq
  ·cases h
 ·cases h
abbrev Mx:=List (List Bs)
def q8c(Z:Mx)(i c:Nat):Bs:=(Z.getD i []).getD c []
def qBI(Z:Mx)(i c:Nat)(v:Bs):Mx:=Z.set i ((Z.getD i []).set c v)
def qbX(Z:Mx)(i j:Nat):Mx:=(Z.set i (Z.getD j [])).set j (Z.getD i [])
structure Dim (Z:Mx) (N C:Nat):Prop where
 n:Z.length=N
 c:∀r,r∈Z->r.length=C
theorem Dim.row{Z:Mx}{N C i:Nat}(h:Dim Z N C)(hi:i<N):(Z.getD i []).length=C:=by rw[qLr,qLz (by rw[h.n];exact hi)];exact h.c _ (qMg _)
theorem Dim.set{Z:Mx}{N C:Nat}(h:Dim Z N C){i c:Nat}(hi:i<N)(v:Bs):Dim (qBI Z i c v) N C:=by
 refine⟨by unfold qBI;rw[qMS,h.n],fun r hr=>?_⟩;rcases qNL hr with hr|rfl
 ·exact h.c r hr
 ·rw[qMS,h.row hi]
theorem Dim.swap{Z:Mx}{N C:Nat}(h:Dim Z N C){i j:Nat}(hi:i<N)(hj:j<N):Dim (qbX Z i j) N C:=by
 refine⟨by unfold qbX;rw[qMS,qMS,h.n],fun r hr=>?_⟩;rcases qNL hr with hr|rfl
 ·rcases qNL hr with hr|rfl
  ·exact h.c r hr
  ·exact h.row hj
 ·exact h.row hi
def qsx(dv:Op2)(p:Nat)(f:Bs)(C:Nat):Nat->Mx->Option Mx
 | 0,Z=>some Z
 | g+1,Z=>(dv (q8c Z p (C-(g+1))) f).bind fun v=>qsx dv p f C g (qBI Z p (C-(g+1)) v)
def qfl(ml sb:Op2)(i p:Nat)(t:Bs)(C:Nat):Nat->Mx->Option Mx
 | 0,Z=>some Z
 | g+1,Z=>(ml t (q8c Z p (C-(g+1)))).bind fun y=>(sb (q8c Z i (C-(g+1))) y).bind fun v=>qfl ml sb i p t C g (qBI Z i (C-(g+1)) v)
def qoS(ml sb:Op2)(p k N C:Nat):Nat->Mx->Option Mx
 | 0,Z=>some Z
 | g+1,Z=>if N-(g+1)=p\/q8c Z (N-(g+1)) k=[48] then qoS ml sb p k N C g Z
  else (qfl ml sb (N-(g+1)) p (q8c Z (N-(g+1)) k) C C Z).bind (qoS ml sb p k N C g)
def qf5(Z:Mx)(k N:Nat):Nat->Nat
 | 0=>N
 | g+1=>if q8c Z (N-(g+1)) k=[48] then qf5 Z k N g else N-(g+1)
structure RS where
 Z:Mx
 det:Bs
 lead:List Nat
 p:Nat
def qkd(ml dv sb:Op2)(k N C:Nat)(s:RS):Option RS:=
 if qf5 s.Z k N (N-s.p)=N then some s
 else (if qf5 s.Z k N (N-s.p)=s.p then some s.det else sb [48] s.det).bind fun d=>
  (ml d (q8c (qbX s.Z (qf5 s.Z k N (N-s.p)) s.p) s.p k)).bind fun d'=>
  (qsx dv s.p (q8c (qbX s.Z (qf5 s.Z k N (N-s.p)) s.p) s.p k) C C (qbX s.Z (qf5 s.Z k N (N-s.p)) s.p)).bind fun Z'=>
  (qoS ml sb s.p k N C N Z').bind fun Z''=>some ⟨Z'',d',s.lead++[k],s.p+1⟩
def qvq(ml dv sb:Op2)(K N C:Nat):Nat->RS->Option RS
 | 0,s=>some s
 | g+1,s=>(qkd ml dv sb (K-(g+1)) N C s).bind (qvq ml dv sb K N C g)
theorem qAP(Z:Mx)(i:Nat):qbX Z i i=Z:=by
 unfold qbX;rw[List.set_set];by_cases h:i<Z.length
 ·rw[qLr,qLz h];exact List.set_getElem_self h
 ·exact List.set_eq_of_length_le (by omega)
theorem qEl{ml dv sb:Op2}{K N C k:Nat}{s fin:RS}(hk:k<K)(h:qvq ml dv sb K N C (K-k) s=some fin)(hf:qf5 s.Z k N (N-s.p)=N):qvq ml dv sb K N C (K-(k+1)) s=some fin:=by rw[show K-k=(K-(k+1))+1 by omega] at h;unfold qvq at h;rw[show K-(K-(k+1)+1)=k by omega] at h;unfold qkd at h;rw[if_pos hf] at h;exact h
theorem qEd{ml dv sb:Op2}{K N C k i:Nat}{s fin:RS}(hk:k<K)(h:qvq ml dv sb K N C (K-k) s=some fin)(hf:qf5 s.Z k N (N-s.p)=i)(hi:i<N) :∃d d' Z' Z'',(if i=s.p then some s.det else sb [48] s.det)=some d/\ml d (q8c (qbX s.Z i s.p) s.p k)=some d'/\qsx dv s.p (q8c (qbX s.Z i s.p) s.p k) C C (qbX s.Z i s.p)=some Z' /\qoS ml sb s.p k N C N Z'=some Z''/\qvq ml dv sb K N C (K-(k+1)) ⟨Z'',d',s.lead++[k],s.p+1⟩=some fin:=by rw[show K-k=(K-(k+1))+1 by omega] at h;unfold qvq at h;rw[show K-(K-(k+1)+1)=k by omega] at h;unfold qkd at h;rw[hf,if_neg (by omega)] at h;obtain⟨s1,h1,h⟩:=qMZ.1 h;obtain⟨d,e1,h1⟩:=qMZ.1 h1;obtain⟨d',e2,h1⟩:=qMZ.1 h1;obtain⟨Z',e3,h1⟩:=qMZ.1 h1;obtain⟨Z'',e4,h1⟩:=qMZ.1 h1;cases h1;exact⟨d,d',Z',Z'',e1,e2,e3,e4,h⟩
theorem qBG{dv:Op2}{p C n:Nat}{f:Bs}{Z Z':Mx}(hn:n<C)(h:qsx dv p f C (C-n) Z=some Z'):∃v,dv (q8c Z p n) f=some v/\qsx dv p f C (C-(n+1)) (qBI Z p n v)=some Z':=by rw[show C-n=(C-(n+1))+1 by omega] at h;unfold qsx at h;rw[show C-(C-(n+1)+1)=n by omega] at h;exact qMZ.1 h
theorem qvQ{ml sb:Op2}{i p C n:Nat}{t:Bs}{Z Z':Mx}(hn:n<C)(h:qfl ml sb i p t C (C-n) Z=some Z') :∃y v,ml t (q8c Z p n)=some y/\sb (q8c Z i n) y=some v/\qfl ml sb i p t C (C-(n+1)) (qBI Z i n v)=some Z':=by rw[show C-n=(C-(n+1))+1 by omega] at h;unfold qfl at h;rw[show C-(C-(n+1)+1)=n by omega] at h;obtain⟨y,e1,h⟩:=qMZ.1 h;obtain⟨v,e2,h⟩:=qMZ.1 h;exact⟨y,v,e1,e2,h⟩
theorem qBC{ml sb:Op2}{p k N C i:Nat}{Z Z':Mx}(hi:i<N)(h:qoS ml sb p k N C (N-i) Z=some Z') :((i=p\/q8c Z i k=[48])/\qoS ml sb p k N C (N-(i+1)) Z=some Z')\/(i≠p/\q8c Z i k≠[48]/\∃Z1,qfl ml sb i p (q8c Z i k) C C Z=some Z1/\qoS ml sb p k N C (N-(i+1)) Z1=some Z'):=by
 rw[show N-i=(N-(i+1))+1 by omega] at h;unfold qoS at h;rw[show N-(N-(i+1)+1)=i by omega] at h;split at h
 ·rename_i hc;exact .inl ⟨hc,h⟩
 ·rename_i hc;rw[not_or] at hc;obtain⟨Z1,e1,h⟩:=qMZ.1 h;exact .inr ⟨hc.1,hc.2,Z1,e1,h⟩
theorem qt7{Z:Mx}{k N i:Nat}(hi:i<N):qf5 Z k N (N-i)=if q8c Z i k=[48] then qf5 Z k N (N-(i+1)) else i:=by rw[show N-i=(N-(i+1))+1 by omega];show (if q8c Z (N-(N-(i+1)+1)) k=[48] then qf5 Z k N (N-(i+1)) else N-(N-(i+1)+1))=_;rw[show N-(N-(i+1)+1)=i by omega]
open Go.RowKit
variable {X:Ctx}{ps:List PV}{vs:List Value}
theorem HSim.grow {B:Base}(hs:HSim B X){w':World}(hb:Below X.w.heap.size X.w w'):HSim B { X with w:=w' }/\Ext X { X with w:=w' }:=by
 have hold:∀n (o:Obj),X.w.heap[n]?=some o->w'.heap[n]?=some o:=fun n o h=>(hb.block n (qLw.1 h).1).trans h;have hx:Ext X { X with w:=w' }:=Move.of (fun _ h=>h) (fun a ha=>qMu (hb.block _ (hs.ltM _ ha))) (fun b b' hb' h=>by cases h;exact⟨hb',rfl,fun _ _ h=>h,fun _ _ _ n _ c T fr h=>⟨c,T,fr,hold n _ h,rfl⟩⟩);refine⟨⟨fun b k hk=>?_,hs.inj,hs.notM,fun n hn=>qMc (hs.ltM n hn) hb.size,hs.M0,hs.newM,hb.os.trans hs.os,hb.tape.trans hs.tape,hb.output.trans hs.output,qLu hs.size hb.size,
  fun n hn hni=>?_,hs.imps,hs.impc,hs.fresh,fun p hp=>?_⟩,hx⟩
 ·by_cases hd:k=.dead
  ·subst hd;trivial
  ·exact jJ.ext hx rfl (fun n hn=>hb.block n (hs.lt hk hd hn)) (hs.blk b k hk)
 ·show w'.heap[n]?=_;rw[hb.block n (qMc hn hs.size)];exact hs.frame n hn hni
 ·obtain⟨q1,q2,q3⟩:=hs.kept p hp;exact⟨hold _ _ q1,q2,q3⟩
theorem qiP {P:Program}{gl:List (Nat×AV)}{f:FuncId}{i:FIn}{o:FOut}{T:List PV->TR}(he:qcs P f)(hi:i.h.all BP.isCells=true)(h:∀(B:Base) (X:Ctx) (ps:List PV) (j:Nat) (qs:List PV) (vargs:List Value),HSim B X->q5G gl X->X.h=(i.make ps).2->RepL X (i.make ps).1 vargs->ps.map PV.kind=i.kinds->(T ps).run=some (j,qs) ->j=0/\qs.map PV.kind=o.kinds/\(o.make qs).2=(i.make ps).2/\Calls P f vargs.toArray X.w fun e w'=>∃v,e=.returned v/\Below X.w.heap.size X.w w'/\Rep X (o.make qs).1 v) :qQ P gl f (q9 i [o] T):=by
 refine⟨he,fun B X args vargs r hs hen hgl ha hr=>?_⟩;obtain⟨ps,j,qs,h1,h2,h3⟩:=qlZ hr;unfold FIn.take at h1;obtain⟨x,y,g1,g2,rfl⟩:=q1a h1;obtain⟨a1,a2,a3⟩:=AP.takeL_ok (X:=X) _ _ x y g1;obtain⟨b1,b2,b3,b4,b5⟩:=BP.takeL_ok (X:=X) _ _ y [] g2;rw[qMC] at b3 b5;have himp:B.imps.length=X.h.length:=by rw[hen.imps];simp
 obtain⟨d1,d2⟩:=qbU hs (h':=(BP.makeL i.h y).1) b3 (fun b k' hb=>by obtain⟨k0,e1,e2,_⟩:=b5 b k' hb;exact⟨k0,e1,e2⟩)
  (fun b hb k' hk'=>by
   obtain⟨k0,_,_,e3⟩:=b5 b k' hk';have hlt:b<i.h.length:=by omega
   exact e3 i.h[b] (qLz hlt) (qLZ.1 hi _ (qMg hlt)))
 have hkd:(x++y).map PV.kind=i.kinds:=by simp[FIn.kinds,a2,b2]
 have hgl1:q5G gl ({ X with h:=(BP.makeL i.h y).1 }:Ctx):=fun z hz=>⟨(hgl z hz).1,(hgl z hz).2.move d2.M d2.w ((hgl z hz).2.1.ext d2)⟩;have hmk:i.make (x++y)=((AP.makeL i.args (x++y)).1,(BP.makeL i.h y).1):=by simp only[FIn.make,a1]
 obtain⟨k1,k2,k3,k4⟩:=h B _ (x++y) j qs vargs d1 hgl1 (by rw[hmk]) (by rw[hmk];exact(a3 _ ha).ext d2) hkd h2;subst k1;refine k4.mono fun e w' ⟨v,e1,e2,e3⟩=>?_;obtain⟨m1,m2⟩:=d1.grow e2;have hre:=qps h2 [o] 0 o r (qMY _) rfl k2 h3;subst hre;exact⟨v,_,e1,rfl,e3.ext m2,by rw[k3,hmk],m1,rfl⟩
theorem qAd {s:qLp}(h:RepL X [.str s] vs):vs=[.string ⟨s.toArray⟩]:=by
 cases h with
 | cons h t=>cases h;cases t;rfl
theorem qA1 {k:IntKind}{n:Int}(h:RepL X [.int k n] vs):vs=[.int k n]:=by
 cases h with
 | cons h t=>cases h;cases t;rfl
theorem qrJ {s t:qLp}(h:RepL X [.str s,.str t] vs):vs=[.string ⟨s.toArray⟩,.string ⟨t.toArray⟩]:=by
 cases h with
 | cons h t=>cases h;rw[qAd t]
theorem qHB (h:ps.map PV.kind=[.s]):∃s,ps=[.s s]:=by
 match ps,h with
 | [.s s],_=>exact⟨s,rfl⟩
theorem qHC (h:ps.map PV.kind=[.i]):∃s,ps=[.i s]:=by
 match ps,h with
 | [.i s],_=>exact⟨s,rfl⟩
theorem qud (h:ps.map PV.kind=[.s,.s]):∃s t,ps=[.s s,.s t]:=by
 match ps,h with
 | [.s s,.s t],_=>exact⟨s,t,rfl⟩
end Go.Eng

namespace Go.Eng
open Go.RowKit
variable {e:TypeId}{v:Value}{w:World}{w':World}
def q0s(b:Bs):Value:=.string ⟨b.toArray⟩
def qmE(n:Nat):Value:=.int .i64 (n:Int)
theorem q1k {w w':World}{B z n:Nat}{xs:List Value}(h:w.ownsRow B e z v n xs)(hb:Below w.heap.size w w'):w'.ownsRow B e z v n xs:=h.kept (row:=none) ⟨hb.os,hb.tape,hb.output,hb.size,fun k hk _=>hb.block k hk⟩ (by cases v.ownBlock<;>simp)
theorem qK {B z n:Nat}{xs:List Value}(h:w.ownsRow B e z v n xs){a:Addr}(ha:v.ownBlock≠some a.block)(u:Value):(w.setCell a u).ownsRow B e z v n xs:=h.kept (row:=some a.block) ⟨rfl,rfl,rfl,by simp[World.setCell],fun k _ hk=>heap_setCell_other w a k u (fun e=>hk (by rw[e]))⟩ (.inr ha)
theorem qeZ {B z n:Nat}{xs:List Value}(h:w.ownsRow B e z v n xs)(hn:0<n):∃g c,v=.slice (some ⟨g,0,none⟩) n c/\B<=g/\g<w.heap.size/\(∃cur,w.heap[g]?=some (.cells cur e (0,0))):=by
 rcases h.2 with⟨_,h0⟩|⟨g,c,cur,rfl,hb,hg,_⟩
 ·omega
 ·exact⟨g,c,rfl,hb,(qLw.1 hg).1,cur,hg⟩
theorem zC {B z n:Nat}{xs:List Value}(h:w.ownsRow B e z v n xs){b:Nat}(hv:v.ownBlock=some b):∃cur,w.heap[b]?=some (.cells cur e (0,0)):=by
 rcases h.2 with⟨rfl,_⟩|⟨g,c,cur,rfl,_,hg,_⟩
 ·simp[Value.ownBlock] at hv
 ·simp[Value.ownBlock] at hv;subst hv;exact⟨cur,hg⟩
theorem qca {a b:Nat}{c c':Array Value}{e e':TypeId}{f f':Nat×Nat}(ha:w.heap[a]?=some (.cells c e f))(hb:w.heap[b]?=some (.cells c' e' f'))(h:e≠e'):a≠b:=by rintro rfl;rw[ha] at hb;cases hb;exact h rfl
structure Sch (B S:Nat) (tS tR tE tI:TypeId) (N C:Nat) (ek K:Value) (w:World) (vR vL:Value) (H:List Value) (Z:Mx) (det:Bs) (lead:List Nat):Prop where
 bs:B<=S
 st:w.heap[S]?=some (.cells #[ek,vR,K,vL,q0s det] tS (0,0))
 dim:Dim Z N C
 outer:w.ownsRow B tR 1 vR N H
 inner:∀(j:Nat) h r,H[j]?=some h->Z[j]?=some r->w.ownsRow B tE 1 h C (r.map q0s)
 own:w.ownsRow B tI 1 vL lead.length (lead.map qmE)
 ap:∀(i j:Nat) h h' b,i≠j->H[i]?=some h->H[j]?=some h'->h.ownBlock=some b->h'.ownBlock≠some b
 ne:tS≠tR/\tS≠tE/\tS≠tI/\tR≠tE/\tR≠tI/\tE≠tI
section
variable {B S:Nat} {tS tR tE tI:TypeId} {N C:Nat} {ek K:Value} {w:World} {vR vL:Value} {H:List Value} {Z:Mx} {det:Bs} {lead:List Nat}
theorem Sch.hlen (h:Sch B S tS tR tE tI N C ek K w vR vL H Z det lead):H.length=N:=by have:=h.outer.1;omega
theorem Sch.hrow (h:Sch B S tS tR tE tI N C ek K w vR vL H Z det lead){j:Nat}(hj:j<N):∃hd r,H[j]?=some hd/\Z[j]?=some r/\w.ownsRow B tE 1 hd C (r.map q0s):=by
 have h1:j<H.length:=by rw[h.hlen];exact hj
 have h2:j<Z.length:=by rw[h.dim.n];exact hj
 exact⟨H[j],Z[j],qLz h1,qLz h2,h.inner j _ _ (qLz h1) (qLz h2)⟩
theorem Sch.grow (h:Sch B S tS tR tE tI N C ek K w vR vL H Z det lead)(hb:Below w.heap.size w w'):Sch B S tS tR tE tI N C ek K w' vR vL H Z det lead:=⟨h.bs,by rw[hb.block S (qLw.1 h.st).1];exact h.st,h.dim,q1k h.outer hb,fun j a r e1 e2=>q1k (h.inner j a r e1 e2) hb,q1k h.own hb,h.ap,h.ne⟩
theorem Sch.cell (h:Sch B S tS tR tE tI N C ek K w vR vL H Z det lead):w.cell? ⟨S,0,none⟩=some ek/\w.cell? ⟨S,1,none⟩=some vR/\w.cell? ⟨S,2,none⟩=some K/\w.cell? ⟨S,3,none⟩=some vL/\w.cell? ⟨S,4,none⟩=some (q0s det):=by refine⟨?_,?_,?_,?_,?_⟩<;>rw[cell_of_row w S _ _ tS (0,0) h.st]<;>rfl
theorem Sch.free (h:Sch B S tS tR tE tI N C ek K w vR vL H Z det lead)(o:Nat):w.frozen? ⟨S,o,none⟩=false:=frozen_of_row w S o _ tS h.st
theorem Sch.lt (h:Sch B S tS tR tE tI N C ek K w vR vL H Z det lead):S<w.heap.size:=(qLw.1 h.st).1
theorem Sch.setS (h:Sch B S tS tR tE tI N C ek K w vR vL H Z det lead)(o:Nat)(u:Value){det':Bs}(hu:(#[ek,vR,K,vL,q0s det].setIfInBounds o u)=#[ek,vR,K,vL,q0s det']) :Sch B S tS tR tE tI N C ek K (w.setCell ⟨S,o,none⟩ u) vR vL H Z det' lead:=by
 have hn:∀{e:TypeId} {n:Nat} {v:Value} {xs:List Value},tS≠e->w.ownsRow B e 1 v n xs->v.ownBlock≠some S:=fun hne hr hv=>by obtain⟨cur,hc⟩:=zC hr hv;exact qca h.st hc hne rfl
 exact⟨h.bs,by rw[heap_setCell_same w S o _ tS u h.st,hu],h.dim,qK h.outer (hn h.ne.1 h.outer) u,fun j a r e1 e2=>qK (h.inner j a r e1 e2) (hn h.ne.2.1 (h.inner j a r e1 e2)) u,
  qK h.own (hn h.ne.2.2.1 h.own) u,h.ap,h.ne⟩
theorem Sch.setDet (h:Sch B S tS tR tE tI N C ek K w vR vL H Z det lead)(d:Bs):Sch B S tS tR tE tI N C ek K (w.setCell ⟨S,4,none⟩ (q0s d)) vR vL H Z d lead:=h.setS 4 _ rfl
theorem Sch.head (h:Sch B S tS tR tE tI N C ek K w vR vL H Z det lead){j:Nat}(hj:j<N)(hC:0<C):∃g c,H[j]?=some (.slice (some ⟨g,0,none⟩) C c)/\B<=g/\g<w.heap.size /\(∀o,o<C->w.cell? ⟨g,o,none⟩=some (q0s (q8c Z j o)))/\(∀o,w.frozen? ⟨g,o,none⟩=false)/\(∃cur,w.heap[g]?=some (.cells cur tE (0,0))):=by
 obtain⟨hd,r,e1,e2,ho⟩:=h.hrow hj;obtain⟨g,c,rfl,hb,hlt,hc⟩:=qeZ ho hC;refine⟨g,c,e1,hb,hlt,fun o hoC=>?_,fun o=>ho.frozenAt o,hc⟩;have hr:r.length=C:=by have:=ho.1;rw[qLF] at this;omega
 rw[ho.cellAt o (by omega),qLC,qLz (by omega)];unfold q8c;rw[qLr,qLr,e2,qMv,qLz (by omega)];rfl
theorem Sch.rows (h:Sch B S tS tR tE tI N C ek K w vR vL H Z det lead)(hN:0<N):∃g c,vR=.slice (some ⟨g,0,none⟩) N c/\B<=g/\g<w.heap.size /\(∀(j:Nat) v,H[j]?=some v->w.cell? ⟨g,j,none⟩=some v)/\(∀o,w.frozen? ⟨g,o,none⟩=false)/\(∃cur,w.heap[g]?=some (.cells cur tR (0,0))):=by have ho:=h.outer;obtain⟨g,c,rfl,hb,hlt,hc⟩:=qeZ ho hN;refine⟨g,c,rfl,hb,hlt,fun j v hv=>?_,fun o=>ho.frozenAt o,hc⟩;have hj:=(qNb.1 hv).1;rw[h.hlen] at hj;rw[ho.cellAt j (by omega)];exact hv
theorem Sch.put (h:Sch B S tS tR tE tI N C ek K w vR vL H Z det lead){j g c o:Nat}(hH:H[j]?=some (.slice (some ⟨g,0,none⟩) C c))(x:Bs) :Sch B S tS tR tE tI N C ek K (w.setCell ⟨g,o,none⟩ (q0s x)) vR vL H (qBI Z j o x) det lead:=by
 have hj:j<N:=by have:=(qNb.1 hH).1;rw[h.hlen] at this;exact this
 obtain⟨hd,r,e1,e2,ho⟩:=h.hrow hj;rw[hH] at e1;cases e1;obtain⟨cur,hcur⟩:=zC ho rfl;have hz:Z.getD j []=r:=by rw[qLr,e2];rfl
 refine⟨h.bs,?_,h.dim.set hj x,qK h.outer (fun hv=>?_) _,fun i a r' q1 q2=>?_,qK h.own (fun hv=>?_) _,h.ap,h.ne⟩
 ·rw[heap_setCell_other w ⟨g,o,none⟩ S _ (qca h.st hcur h.ne.2.1)];exact h.st
 ·obtain⟨c2,hc2⟩:=zC h.outer hv;exact qca hc2 hcur h.ne.2.2.2.1 rfl
 ·unfold qBI at q2;rw[hz] at q2;by_cases hij:i=j
  ·subst hij;rw[hH] at q1;cases q1;rw[qLL (by rw[h.dim.n];exact hj)] at q2;cases q2;have:=(ho.stored o (q0s x)).1;rw[List.map_set];exact this
  ·rw[qLt (fun e=>hij e.symm)] at q2;exact qK (h.inner i a r' q1 q2) (h.ap j i _ a g (fun e=>hij e.symm) hH q1 rfl) _
 ·obtain⟨c2,hc2⟩:=zC h.own hv;exact qca hcur hc2 h.ne.2.2.2.2.2 rfl
theorem qBV {i j m m':Nat}(hij:i≠j)(h:m≠m'):(if m=i then j else if m=j then i else m)≠(if m'=i then j else if m'=j then i else m'):=by split<;>split<;>(try split)<;>(try split)<;>omega
theorem Sch.swap (h:Sch B S tS tR tE tI N C ek K w vR vL H Z det lead){i j:Nat}(hi:i<N)(hj:j<N)(hij:i≠j){g c:Nat}(hR:vR=.slice (some ⟨g,0,none⟩) N c){u v:Value}(hu:H[i]?=some u)(hv:H[j]?=some v) :Sch B S tS tR tE tI N C ek K ((w.setCell ⟨g,i,none⟩ v).setCell ⟨g,j,none⟩ u) vR vL ((H.set i v).set j u) (qbX Z i j) det lead:=by
 subst hR;obtain⟨cur,hcur⟩:=zC h.outer rfl;have o1:=(h.outer.stored i v).1;have o2:=(o1.stored j u).1;have hn:∀{e:TypeId} {n:Nat} {a:Value} {xs:List Value},tR≠e->w.ownsRow B e 1 a n xs->a.ownBlock≠some g:=fun hne hr hv=>by obtain⟨c2,hc2⟩:=zC hr hv;exact qca hcur hc2 hne rfl
 have hSg:S≠g:=qca h.st hcur h.ne.1;have hl:=h.hlen;have hzl:=h.dim.n;have z1:∀k,k<N->Z[k]?=some (Z.getD k []):=fun k hk=>by rw[qLr,qLz (by omega)];rfl
 have key:∀(m:Nat) a,((H.set i v).set j u)[m]?=some a->∃m',H[m']?=some a/\(qbX Z i j)[m]?=Z[m']?/\(m'=if m=i then j else if m=j then i else m):=by
  intro m a hm;unfold qbX;by_cases h1:m=j
  ·subst h1;rw[qLL (by rw[qMS];omega)] at hm;cases hm;refine⟨i,hu,?_,by rw[if_neg (fun e=>hij e.symm),if_pos rfl]⟩;rw[qLL (by rw[qMS];omega),z1 i hi]
  ·rw[qLt (fun e=>h1 e.symm)] at hm;rw[qLt (fun e=>h1 e.symm)];by_cases h2:m=i
   ·subst h2;rw[qLL (by omega)] at hm;cases hm;refine⟨j,hv,?_,by rw[if_pos rfl]⟩;rw[qLL (by omega),z1 j hj]
   ·rw[qLt (fun e=>h2 e.symm)] at hm;rw[qLt (fun e=>h2 e.symm)];exact⟨m,hm,rfl,by rw[if_neg h2,if_neg h1]⟩
 refine⟨h.bs,?_,h.dim.swap hi hj,o2,fun m a r q1 q2=>?_,qK (qK h.own (hn h.ne.2.2.2.2.1 h.own) _) (hn h.ne.2.2.2.2.1 h.own) _,fun m m' a a' b hmm q1 q2 q3=>?_,h.ne⟩
 ·rw[heap_setCell_other _ ⟨g,j,none⟩ S _ hSg,heap_setCell_other _ ⟨g,i,none⟩ S _ hSg];exact h.st
 ·obtain⟨m',k1,k2,_⟩:=key m a q1;rw[k2] at q2;have:=h.inner m' a r k1 q2;exact qK (qK this (hn h.ne.2.2.2.1 this) _) (hn h.ne.2.2.2.1 this) _
 ·obtain⟨x,k1,_,k3⟩:=key m a q1;obtain⟨y,l1,_,l3⟩:=key m' a' q2;refine h.ap x y a a' b ?_ k1 l1 q3;rw[k3,l3];exact qBV hij hmm
theorem Sch.setLead (h:Sch B S tS tR tE tI N C ek K w vR vL H Z det lead){vL':Value}{lead':List Nat}(hg:w.grownBy w' vL.ownBlock)(ho:w'.ownsRow B tI 1 vL' lead'.length (lead'.map qmE)) :Sch B S tS tR tE tI N C ek K (w'.setCell ⟨S,3,none⟩ vL') vR vL' H Z det lead':=by
 have hb:∀b,(∃(cur:Array Value) (e:TypeId),w.heap[b]?=some (Obj.cells cur e (0,0))/\e≠tI)->w'.heap[b]?=w.heap[b]?:=fun b ⟨cur,e,hc,hne⟩=>hg.block b (qLw.1 hc).1 (fun hv=>by obtain⟨c2,hc2⟩:=zC h.own hv.symm;exact qca hc hc2 hne rfl);have hS:w'.heap[S]?=some (.cells #[ek,vR,K,vL,q0s det] tS (0,0)):=by rw[hb S ⟨_,_,h.st,h.ne.2.2.1⟩];exact h.st
 have keep:∀{e:TypeId} {n:Nat} {a:Value} {xs:List Value},e≠tI->tS≠e->w.ownsRow B e 1 a n xs->(w'.setCell ⟨S,3,none⟩ vL').ownsRow B e 1 a n xs:=by
  intro e n a xs hne hSe hr;have h1:w'.ownsRow B e 1 a n xs:=hr.kept hg (by
   cases hv:a.ownBlock with
   | none=>exact .inl rfl
   | some b=>
    right;intro he;obtain⟨c1,hc1⟩:=zC hr hv;obtain⟨c2,hc2⟩:=zC h.own he.symm;exact qca hc1 hc2 hne rfl)
  refine qK h1 (fun hv=>?_) _;obtain⟨c1,hc1⟩:=zC h1 hv;exact qca hS hc1 hSe rfl
 refine⟨h.bs,by rw[heap_setCell_same w' S 3 _ tS _ hS];rfl,h.dim,keep h.ne.2.2.2.2.1 h.ne.1 h.outer,fun j a r e1 e2=>keep h.ne.2.2.2.2.2 h.ne.2.1 (h.inner j a r e1 e2),qK ho (fun hv=>?_) _,h.ap,h.ne⟩;obtain⟨c1,hc1⟩:=zC ho hv;exact qca hS hc1 h.ne.2.2.1 rfl
theorem Sch.reads {O cO:Nat}(h:Sch B S tS tR tE tI N C ek K w (.slice (some ⟨O,0,none⟩) N cO) vL H Z det lead){j g c:Nat}(hH:H[j]?=some (.slice (some ⟨g,0,none⟩) C c)) :w.cell? ⟨S,1,none⟩=some (.slice (some ⟨O,0,none⟩) N cO)/\w.cell? ⟨O,j,none⟩=some (.slice (some ⟨g,0,none⟩) C c)/\(∀o,o<C->w.cell? ⟨g,o,none⟩=some (q0s (q8c Z j o)))/\(∀o,w.frozen? ⟨g,o,none⟩=false)/\(0<C->B<=g):=by
 have hj:j<N:=by have:=(qNb.1 hH).1;rw[h.hlen] at this;exact this
 obtain⟨O',c',e,_,_,r,_,_⟩:=h.rows (by omega);cases e;obtain⟨hd,rw_,e1,e2,ho⟩:=h.hrow hj;rw[hH] at e1;cases e1;refine⟨h.cell.2.1,r j _ hH,fun o hoC=>?_,fun o=>ho.frozenAt o,fun hC=>?_⟩
 ·obtain⟨g',c'',q1,_,_,q2,_⟩:=h.head hj (by omega);rw[hH] at q1;cases q1;exact q2 o hoC
 ·obtain⟨g',c'',q1,q2,_⟩:=h.head hj hC;rw[hH] at q1;cases q1;exact q2
theorem Sch.leadCell (h:Sch B S tS tR tE tI N C ek K w vR vL H Z det lead)(hg:w.grownBy w' vL.ownBlock):w'.cell? ⟨S,3,none⟩=some vL/\w'.frozen? ⟨S,3,none⟩=false:=by
 have hS:w'.heap[S]?=some (.cells #[ek,vR,K,vL,q0s det] tS (0,0)):=by rw[hg.block S h.lt (fun hv=>by obtain⟨c2,hc2⟩:=zC h.own hv.symm;exact qca h.st hc2 h.ne.2.2.1 rfl)];exact h.st
 exact⟨by rw[cell_of_row w' S 3 _ tS (0,0) hS];rfl,frozen_of_row w' S 3 _ tS hS⟩
end
end Go.Eng

namespace Go.Eng
open Go.RowKit
variable {B:Base}{P:Program}{X:Ctx}{f:FuncId}{gl:List (Nat×AV)}{w:World}
def qGo(W:World)(y:Nat):Ctx:={ qA3 W with y:=y }
theorem qKA (W:World)(y:Nat):HSim (qoQ W) (qGo W y):=
 have h:=qJu W
 ⟨fun b k hk=>by have:([]:List Blk)[b]?=some k:=hk;simp at this,fun b b' n ⟨_,k,hk,_⟩=>by have:([]:List Blk)[b]?=some k:=hk;simp at this,
  fun b n ⟨_,k,hk,_⟩=>by have:([]:List Blk)[b]?=some k:=hk;simp at this,h.ltM,h.M0,h.newM,rfl,rfl,rfl,h.size,h.frame,h.imps,h.impc,
  fun b n ⟨_,k,hk,_⟩=>by have:([]:List Blk)[b]?=some k:=hk;simp at this,fun p hp=>by cases hp⟩
theorem qJS (W:World)(y:Nat):Entry (qoQ W) (qGo W y):=⟨rfl,rfl,fun _ h=>h⟩
theorem qJc (hs:HSim B X)(hX:X.h=[])(hb:Below X.w.heap.size X.w w):Move0 X (qGo w X.y) some:=⟨fun n hn=>qMc (hs.ltM n hn) hb.size,fun a ha=>qMu (hb.block _ (hs.ltM _ ha)),fun b b' hb' _=>by rw[hX] at hb';exact absurd hb' (qNw _),rfl⟩
theorem qKQ (hs:HSim B X)(hX:X.h=[])(hg:q5G gl X)(hb:Below X.w.heap.size X.w w):q5G gl (qGo w X.y):=fun x hx=>
 have m:=qJc hs hX hb
 ⟨(hg x hx).1,(hg x hx).2.move m.M m.w ((hg x hx).2.1.ext0 m)⟩
theorem qxz {X':Ctx}(hs:HSim (qoQ w) X'):Below w.heap.size w X'.w:=⟨hs.os,hs.tape,hs.output,hs.size,fun k hk=>hs.frame k hk (by simp[qoQ])⟩
theorem qwc {G:zw}(hG:qQ P gl f G){y:Nat}(hgl:q5G gl (qGo w y)){args:List AV}{vargs:List Value}(ha:RepL (qGo w y) args vargs){r:AV×List Blk}(h:(G args []).run=some r):Calls P f vargs.toArray w fun e w'=>∃v X',e=.returned v/\X'.w=w'/\Rep X' r.1 v/\X'.h=r.2/\HSim (qoQ w) X'/\Below w.heap.size w w':=
 (hG.2 (qoQ w) (qGo w y) args vargs r (qKA w y) (qJS w y) hgl ha h).mono fun e w' ⟨v,X',e1,e2,e3,e4,e5,_⟩=>by subst e2;exact⟨v,X',e1,rfl,e3,e4,e5,qxz e5⟩
theorem qDe {T:List PV->TR}{a b r:Bs}(h:opF T a b=some r):(q9 ⟨[.str,.str],[]⟩ [⟨.tuple [.str,.int .i64],[],none⟩] T [.str a,.str b] []).run=some (.tuple [.str r,.int .i64 0],[]):=by have hT:=qFO h;unfold q9;have ht:(FIn.mk [.str,.str] []).take [.str a,.str b] []=some [.s a,.s b]:=rfl;rw[ht];simp only[Tree.run,okR,hT,qNJ];simp[qC3,FOut.kinds,AP.kinds,AP.kindsL,BP.kindsL,qm1,gS,gI,pR,hT,PV.toS,PV.toI,FOut.make,AP.make,AP.makeL,BP.makeL,Tree.run]
theorem qEN {T:List PV->TR}(hG:qQ P gl f (q9 ⟨[.str,.str],[]⟩ [⟨.tuple [.str,.int .i64],[],none⟩] T)){y:Nat}(hgl:q5G gl (qGo w y)){a b r:Bs}(h:opF T a b=some r) :Calls P f #[q0s a,q0s b] w fun e w'=>e=.returned (.tuple #[q0s r,.int .i64 0])/\Below w.heap.size w w':=by
 refine(qwc hG hgl (args:=[.str a,.str b]) (vargs:=[q0s a,q0s b]) (.cons (.str a) (.cons (.str b) .nil)) (qDe h)).mono ?_;rintro e w' ⟨v,X',rfl,rfl,hr,_,_,hb⟩;refine⟨?_,hb⟩;cases hr with
 | tuple _ vs h=>
  cases h with
  | cons h1 t=>
   cases h1;cases t with
   | cons h2 t2=>
    cases h2;cases t2;rfl
theorem HSim.growM (hs:HSim B X){w':World}(hb:Below X.w.heap.size X.w w'){M':Nat->Prop}(h1:∀n,X.M n->M' n)(h2:∀n,M' n->X.M n\/(X.w.heap.size<=n/\n<w'.heap.size)) :HSim B { X with w:=w',M:=M' }/\Ext X { X with w:=w',M:=M' }:=by
 have hold:∀n (o:Obj),X.w.heap[n]?=some o->w'.heap[n]?=some o:=fun n o h=>(hb.block n (qLw.1 h).1).trans h;have hx:Ext X { X with w:=w',M:=M' }:=Move.of (fun n h=>h1 n h) (fun a ha=>qMu (hb.block _ (hs.ltM _ ha))) (fun b b' hb' h=>by cases h;exact⟨hb',rfl,fun _ _ h=>h,fun _ _ _ n _ c T fr h=>⟨c,T,fr,hold n _ h,rfl⟩⟩);refine⟨⟨fun b k hk=>?_,hs.inj,fun b n ho hm=>?_,fun n hn=>?_,fun n hn=>h1 n (hs.M0 n hn),fun n hn=>?_,hb.os.trans hs.os,hb.tape.trans hs.tape,hb.output.trans hs.output,qLu hs.size hb.size,
  fun n hn hni=>?_,hs.imps,hs.impc,hs.fresh,fun p hp=>?_⟩,hx⟩
 ·by_cases hd:k=.dead
  ·subst hd;trivial
  ·exact jJ.ext hx rfl (fun n hn=>hb.block n (hs.lt hk hd hn)) (hs.blk b k hk)
 ·have ho':X.own b n:=ho;rcases h2 n hm with h|h
  ·exact hs.notM b n ho' h
  ·have:=Ctx.own.lt hs ho';omega
 ·rcases h2 n hn with h|h
  ·exact qMc (hs.ltM n h) hb.size
  ·exact h.2
 ·rcases h2 n hn with h|h
  ·exact hs.newM n h
  ·exact .inr (qLu hs.size h.1)
 ·show w'.heap[n]?=_;rw[hb.block n (qMc hn hs.size)];exact hs.frame n hn hni
 ·obtain⟨q1,q2,q3⟩:=hs.kept p hp;exact⟨hold _ _ q1,q2,q3⟩
theorem qDv {ap:List AP}{o:FOut}{T:List PV->TR}(he:qcs P f)(ho:o.h=[])(h:∀(B:Base) (X:Ctx) (ps:List PV) (j:Nat) (qs:List PV) (vargs:List Value),HSim B X->q5G gl X->X.h=[]->RepL X ((FIn.mk ap []).make ps).1 vargs->ps.map PV.kind=(FIn.mk ap []).kinds->(T ps).run=some (j,qs) ->j=0/\qs.map PV.kind=o.kinds/\Calls P f vargs.toArray X.w fun e w'=>∃v M',e=.returned v/\Below X.w.heap.size X.w w'/\(∀n,X.M n->M' n)/\(∀n,M' n->X.M n\/(X.w.heap.size<=n/\n<w'.heap.size))/\Rep { X with w:=w',M:=M' } (o.make qs).1 v) :qQ P gl f (q9 ⟨ap,[]⟩ [o] T):=by
 refine⟨he,fun B X args vargs r hs hen hgl ha hr=>?_⟩;obtain⟨ps,j,qs,h1,h2,h3⟩:=qlZ hr;unfold FIn.take at h1;obtain⟨x,y,g1,g2,rfl⟩:=q1a h1;obtain⟨a1,a2,a3⟩:=AP.takeL_ok (X:=X) _ _ x y g1;obtain⟨b1,b2,b3,b4,b5⟩:=BP.takeL_ok (X:=X) _ _ y [] g2;rw[qMC] at b3 b5;have himp:B.imps.length=X.h.length:=by rw[hen.imps];simp
 obtain⟨d1,d2⟩:=qbU hs (h':=(BP.makeL (FIn.mk ap []).h y).1) b3 (fun b k' hb=>by obtain⟨k0,e1,e2,_⟩:=b5 b k' hb;exact⟨k0,e1,e2⟩)
  (fun b hb k' hk'=>by
   obtain⟨k0,_,_,e3⟩:=b5 b k' hk';have hlt:b<(FIn.mk ap []).h.length:=by omega
   exact absurd hlt (qNw _))
 have hkd:(x++y).map PV.kind=(FIn.mk ap []).kinds:=by simp[FIn.kinds,a2,b2]
 have hgl1:q5G gl ({ X with h:=(BP.makeL (FIn.mk ap []).h y).1 }:Ctx):=fun z hz=>⟨(hgl z hz).1,(hgl z hz).2.move d2.M d2.w ((hgl z hz).2.1.ext d2)⟩;have hmk:(FIn.mk ap []).make (x++y)=((AP.makeL ap (x++y)).1,(BP.makeL (FIn.mk ap []).h y).1):=by simp only[FIn.make,a1]
 have hh:(BP.makeL (FIn.mk ap []).h y).1=[]:=rfl;obtain⟨k1,k2,k4⟩:=h B _ (x++y) j qs vargs d1 hgl1 hh (by rw[hmk];exact(a3 _ ha).ext d2) hkd h2;subst k1;refine k4.mono fun e w' ⟨v,M',e1,e2,e3,e4,e5⟩=>?_;obtain⟨m1,m2⟩:=d1.growM e2 e3 e4;have hre:=qps h2 [o] 0 o r (qMY _) rfl k2 h3;subst hre;have ho2:(o.make qs).2=[]:=by unfold FOut.make;rw[ho];rfl
 exact⟨v,_,e1,rfl,e5,hh.trans ho2.symm,m1,rfl⟩
end Go.Eng

namespace Go.Eng
open Go.RowKit Go.Proofs
open Tryz
set_option maxHeartbeats 2000000 in
set_option maxRecDepth 100000 in
theorem qyl(S:Nat)(x:Bs)(w:World)(h0:w.cell? ⟨S,0,none⟩=some (.int .i64 0)) :Calls prog 210 #[.pointer (some ⟨S,0,none⟩),q0s x,.int .i64 0] w fun e w'=>e=.returned (q0s x)/\w'=w:=by
 unfold q0s
 go_enter func210,ntmps210
 go_wp2
 go_ret
 exact⟨rfl,rfl⟩
def qB2(P:Program)(gl:World->Prop)(f:FuncId)(F:Op2):Prop:=∀w,gl w->∀a b r,F a b=some r ->
 Calls P f #[q0s a,q0s b] w fun e w'=>e=.returned (.tuple #[q0s r,.int .i64 0])/\Below w.heap.size w w'
set_option maxHeartbeats 2000000 in
set_option maxRecDepth 100000 in
theorem qH1(gl:World->Prop)(F:Op2)(hF:qB2 prog gl 115 F)(S:Nat)(a b r:Bs)(w:World)(hw:gl w)(hr:F a b=some r)(hS:S<w.heap.size)(h0:w.cell? ⟨S,0,none⟩=some (.int .i64 0)) :Calls prog 229 #[.pointer (some ⟨S,0,none⟩),q0s a,q0s b] w fun e w'=>e=.returned (q0s r)/\Below w.heap.size w w':=by
 have key:=hF w hw a b r hr;have kept:=qyl S r;unfold q0s at key kept ⊢
 go_enter func229,ntmps229
 go_wp2_with (go_at_call 115;refine key.mono ?_)
 rintro e w1 ⟨rfl,hb⟩;have c1:w1.cell? ⟨S,0,none⟩=some (.int .i64 0):=by rw[hb.cell (p:=⟨S,0,none⟩) hS];exact h0
 go_wp2_with (go_at_call 210;refine(kept _ c1).mono ?_;rintro e w' ⟨rfl,rfl⟩)
 go_ret
 exact⟨rfl,hb⟩
set_option maxHeartbeats 2000000 in
set_option maxRecDepth 100000 in
theorem qGI(gl:World->Prop)(F:Op2)(hF:qB2 prog gl 124 F)(S:Nat)(a b r:Bs)(w:World)(hw:gl w)(hr:F a b=some r)(hS:S<w.heap.size)(h0:w.cell? ⟨S,0,none⟩=some (.int .i64 0)) :Calls prog 180 #[.pointer (some ⟨S,0,none⟩),q0s a,q0s b] w fun e w'=>e=.returned (q0s r)/\Below w.heap.size w w':=by
 have key:=hF w hw a b r hr;have kept:=qyl S r;unfold q0s at key kept ⊢
 go_enter func180,ntmps180
 go_wp2_with (go_at_call 124;refine key.mono ?_)
 rintro e w1 ⟨rfl,hb⟩;have c1:w1.cell? ⟨S,0,none⟩=some (.int .i64 0):=by rw[hb.cell (p:=⟨S,0,none⟩) hS];exact h0
 go_wp2_with (go_at_call 210;refine(kept _ c1).mono ?_;rintro e w' ⟨rfl,rfl⟩)
 go_ret
 exact⟨rfl,hb⟩
set_option maxHeartbeats 2000000 in
set_option maxRecDepth 100000 in
theorem qJ2(gl:World->Prop)(F:Op2)(hF:qB2 prog gl 142 F)(S:Nat)(a b r:Bs)(w:World)(hw:gl w)(hr:F a b=some r)(hS:S<w.heap.size)(h0:w.cell? ⟨S,0,none⟩=some (.int .i64 0)) :Calls prog 230 #[.pointer (some ⟨S,0,none⟩),q0s a,q0s b] w fun e w'=>e=.returned (q0s r)/\Below w.heap.size w w':=by
 have key:=hF w hw a b r hr;have kept:=qyl S r;unfold q0s at key kept ⊢
 go_enter func230,ntmps230
 go_wp2_with (go_at_call 142;refine key.mono ?_)
 rintro e w1 ⟨rfl,hb⟩;have c1:w1.cell? ⟨S,0,none⟩=some (.int .i64 0):=by rw[hb.cell (p:=⟨S,0,none⟩) hS];exact h0
 go_wp2_with (go_at_call 210;refine(kept _ c1).mono ?_;rintro e w' ⟨rfl,rfl⟩)
 go_ret
 exact⟨rfl,hb⟩
end Go.Eng

