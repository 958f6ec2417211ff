/- Texts of the proof, merged: what the code computes, and plain laws. No statement stands here. -/
import Derived.KernelRfl
import Derived.Shelf.Strings.SlTrimAscii
import Derived.Shelf.Strings.Search2
import Derived.Shelf.Small.Strs
import Derived.Shelf.Strconv.Itoa3
import Derived.Shelf.Strconv.Atoi
import Derived.Shelf.Strings.BuilderK
import Derived.Shelf.LaysM
import Derived.Test.YtflobilbbfefaaaGreatDoorProg
import Derived.WalkKit
import Derived.BigCall
import Derived.Deep.RegionWith
import Derived.Laws.Externs
import Derived.Lib.Builder
import Derived.Lib.AppendStr
import Derived.Shelf.SlBodiesN
import Derived.Shelf.SlicesE.Delete
import Derived.Test.YtflobilbbfefaaaGreatDoorP2
namespace Go.Eng
theorem Sim.env{E E':Env}(he:E.glob=E'.glob)(hn:E.nimp=E'.nimp){B:Base}{X:Ctx}{st:St}{a:Act}(hs:Sim E B X st a):Sim E' B X st a:=
 ⟨hs.hs,hs.h,hs.t,hs.fs,he▸hs.glob,hs.df,hn▸hs.ni,hs.y,hs.pin⟩
theorem uc:∀c:Code,(qY c).length=zz c:=by
 intro c
 induction c<;>simp_all [qY,zz]
 all_goals omega
theorem qdF{f k:Nat}{L:St→Tree (Ex×St)}:∀{l:List ((Nat×Nat)×(St→Tree (Ex×St)))},q6V l f k=some L→((f,k),L)∈l
 | [],h=>by cases h
 | x::l,h=>by
  simp only[q6V] at h
  split at h
  ·rename_i hb
   cases h
   simp only[Bool.and_eq_true] at hb
   have h1:=Nat.eq_of_beq_eq_true hb.1
   have h2:=Nat.eq_of_beq_eq_true hb.2
   have:x=((f,k),x.2):=by obtain⟨⟨a,b⟩,c⟩:=x;simp only at h1 h2;rw[h1,h2]
   exact this▸List.mem_cons_self
  ·exact List.mem_cons_of_mem _ (qdF h)
def qp(P:Program)(gl:List (Nat×AV))(ni:Nat)(BO:Base→Prop)(c:Code)(L:St→Tree (Ex×St)):Prop:=
 ∀(E:Env) (B:Base) (X:Ctx) (st:St) (a:Act) (r:Ex×St),E.glob=gl→E.nimp=ni→BO B→Sim E B X st a→(L st).run=some r→∀(n0:Nat),c.wpIn (q0q B.ro) n0 P (qs5 E B r) a X.w
def Env.loopsOK(E:Env)(P:Program):Prop:=
 ∀x,x∈E.loops→∃fn c c',P.funcs[x.1.1]?=some fn∧fn.body=some c∧(qY c)[x.1.2]?=some c'∧qp P E.glob E.nimp (qy P E.iter x.1.1) c' x.2
theorem qxI{E:Env}{P:Program}{rangeH:qaW}(hrg:qgt E P rangeH){f:FuncId}{fn:Func}(hf:P.funcs[f]?=some fn){cb:Code}(hb:fn.body=some cb){k:Nat}{x:Operand}{ps:Array Tmp}{a b:Code}
    (hk:(qY cb)[k]?=some (.rangeFunc x ps a b)) {evA evB:St→Tree (Ex×St)}
    (hA:∀(B:Base) (X:Ctx) (st:St) (act:Act) (r:Ex×St),qy P E.iter f B→Sim E B X st act→(evA st).run=some r→∀n,a.wpIn (q0q B.ro) n P (qs5 E B r) act X.w)
    (hB:∀(B:Base) (X:Ctx) (st:St) (act:Act) (r:Ex×St),qy P E.iter f B→Sim E B X st act→(evB st).run=some r→∀n,b.wpIn (q0q B.ro) n P (qs5 E B r) act X.w)
    {B:Base} {X:Ctx} {st:St} {act:Act} {r:Ex×St} {n0:Nat} (hbo:qy P E.iter f B) (hs:Sim E B X st act) {g:FuncId} {first caps:List AV} (hx:E.opd st.t x=.fn g first caps)
    (hc:(qnH E.iter g f k&&q61 E.iter f&&qsi st)=true) (h:((rangeH g (qpE evA evB ps.toList) (first++[.yld]++caps) st).bind qwf).run=some r) :
    (Code.rangeFunc x ps a b).wpIn (q0q B.ro) n0 P (qs5 E B r) act X.w:=by
  simp only[Bool.and_eq_true] at hc
  obtain⟨⟨hit,hni⟩,htop⟩:=hc
  have htop':st.fs=[[]]∧st.pend=none∧AV.noYL st.t=true∧st.h.all Blk.noY=true:=by
    unfold qsi at htop
    split at htop
    · rename_i h1 h2
      simp only[Bool.and_eq_true] at htop
      exact⟨h1,h2,htop.1,htop.2⟩
    · cases htop
  obtain⟨t1,t2,t3,t4⟩:=htop'
  have hBfs:B.fs=[[]]:=by
    have:=hs.fs
    rw[t1] at this
    generalize B.fs=l at this
    cases this with
    | cons g1 g2=>cases g1;cases g2;rfl
  have hro:B.ro=none:=by
    cases hr:B.ro with
    | none=>rfl
    | some l =>
      have:=hbo.1 (by rw[hr];rfl)
      rw[hBfs] at this
      simp at this
  have hfi:qeH E.iter g=some (f,k):=by
    unfold qnH at hit
    split at hit
    · rename_i y hy
      simp only[Bool.and_eq_true] at hit
      rw[hy]
      obtain⟨y1,y2⟩:=y
      have e1:y1=f:=Nat.eq_of_beq_eq_true hit.1
      have e2:y2=k:=Nat.eq_of_beq_eq_true hit.2
      rw[e1,e2]
    · cases hit
  obtain⟨q,h1,h2⟩:=bind_some h
  have hvx:=q6z hs x
  rw[hx] at hvx
  generalize hev:act.eval x=vx at hvx
  cases hvx with
  | fn _ _ _ vf vc g1 g2 =>
  rw[hro]
  apply wpIn_rangeFunc
  intro fid _
  let D:=X.w.heap.size
  let l:=X.w.heap.size+1
  let rec0:Obj:=.loop (q5f fid act.tmps ps a b D none)
  obtain⟨k1,k2⟩:=qhM hs.hs (o:=.deferred (some [])) (fun _ _ _ h=>by cases h)
  obtain⟨k3,k4⟩:=qhM k1 (o:=rec0) (fun _ _ _ h=>Obj.noConfusion h)
  let X1:Ctx:={ X with w:=(X.w.alloc (.deferred (some []))).alloc rec0,kept:=(l,rec0)::(D,.deferred (some []))::X.kept }
  have hsz:(X.w.alloc (.deferred (some []))).heap.size=l:=by simp[l]
  have hX1:({ ({ X with w:=X.w.alloc (.deferred (some [])),kept:=(X.w.heap.size,.deferred (some []))::X.kept }:Ctx) with w:=(X.w.alloc (.deferred (some []))).alloc rec0,kept:=((X.w.alloc (.deferred (some []))).heap.size,rec0)::(X.w.heap.size,.deferred (some []))::X.kept }:Ctx)=X1:=by
    rw[hsz]
  have k3':HSim B X1:=hX1▸k3
  have k4':Move0 { X with w:=X.w.alloc (.deferred (some [])),kept:=(X.w.heap.size,.deferred (some []))::X.kept } X1 some:=hX1▸k4
  have hall:X1.h.all Blk.noY=true:=by show X.h.all Blk.noY=true;rw[hs.h];exact t4
  let X2:Ctx:={ X1 with y:=l }
  have hs2:HSim B X2:=k3'.setY l hall
  let B1:Base:={ B with fs:=act.tmps.toList::B.fs,ro:=none,y:=l,pin:=fun e=>(l,.loop (q5f fid act.tmps ps a b D e))::(D,.deferred (some []))::X.kept }
  have hlt:∀p,p∈(D,(.deferred (some []):Obj))::X.kept→p.1≠l:=by
    intro p hp
    rcases List.mem_cons.1 hp with rfl|hp
    · show D≠l;simp[D,l]
    · have:=qso hs.hs hp;simp only[l];omega
  have hI:qrn P (f,k) B1:=⟨fn,cb,x,ps,a,b,hf,hb,hk,act.tmps,B.fs,D,fid,(D,.deferred (some []))::X.kept,rfl,fun e=>rfl,hlt,rfl⟩
  have hB1:qy P E.iter g B1:=⟨fun h=>(by cases h),by rw[hfi];exact hI⟩
  have hargs:RepL X2 (first++[.yld]++caps) (vf++[Value.func (.yield l) #[] #[]]++vc):=by
    have hno:AV.noYL first=true∧AV.noYL caps=true:=by
      have hn:(AV.fn g first caps).noY=true:=by
        rw[←hx]
        cases x with
        | tmp i =>
          simp only[Env.opd]
          rw[List.getD_eq_getElem?_getD]
          cases hi:st.t[i]? with
          | none=>rfl
          | some v =>
            have:∀(l:List AV),AV.noYL l=true→∀v,v∈l→v.noY=true:=by
              intro l
              induction l with
              | nil=>intro _ v hv;cases hv
              | cons y l ih =>
                intro hl v hv
                simp only[AV.noYL,Bool.and_eq_true] at hl
                rcases List.mem_cons.1 hv with rfl|hv
                · exact hl.1
                · exact ih hl.2 v hv
            exact this _ t3 v (List.mem_of_getElem? hi)
        | const v => rw [show E.opd st.t (.const v) = ofV v from rfl] at hx; unfold ofV at hx; split at hx; · cases hx
                     · unfold vr at hx;split at hx<;>first|cases hx|(split at hx<;>cases hx)
        | global g' =>
          simp only[Env.opd] at hx
          cases hg:E.glob.find? fun x=>x.1==g' with
          | none=>rw[hg] at hx;cases hx
          | some y =>
            rw[hg] at hx
            obtain⟨⟨sh,r',i,off,he⟩,_⟩:=hs.glob y (List.mem_of_find?_eq_some hg)
            simp only[Option.map_some,Option.getD_some] at hx
            rw[he] at hx;cases hx
        | func f'=>rw[show E.opd st.t (.func f')=.fn f' [] [] from rfl] at hx;cases hx;rfl
      simpa only [AV.noY,Bool.and_eq_true] using hn
    have m1:RepL X1 first vf:=(g1.ext0 k2).ext0 k4'
    have m2:RepL X1 caps vc:=(g2.ext0 k2).ext0 k4'
    exact((m1.setY l hno.1).append (.cons .yld .nil)).append (m2.setY l hno.2)
  have hF:SimF E B1 X2 st:=by
    have m1:RepL X1 st.t act.tmps.toList:=(hs.t.ext0 k2).ext0 k4'
    refine⟨hs2.base rfl rfl rfl,hs.h,?_,qqY (qdH k4' (qdH k2 hs.glob)) l,hs.ni,rfl,fun p hp=>by rw[t2] at hp;exact hp⟩
    show RepLL X2 _ (act.tmps.toList::B.fs)
    rw[t1,hBfs]
    exact .cons (m1.setY l t3) (.cons .nil .nil)
  obtain⟨henter,hcalls⟩:=hrg g _ _ st q B1 X2 _ hF hB1 (fun B' hB'=>by
    obtain⟨_,h'⟩:=hB'
    rw[hfi] at h'
    exact qth hf hb hk hni hA hB h') rfl hargs h1
  refine⟨l,[qfH D],X1.w,{ target:=.fn (.func g) vc.toArray,args:=vf.toArray++#[Value.func (.yield l) #[] #[]] },X1.w,g,(vf++[Value.func (.yield l) #[] #[]]++vc).toArray,X1.w,?_,?_,fun _ _=>trivial,?_,qbB none,?_⟩
  · exact run_enterLoop_outer fid act.tmps ps a b
  · simp only[resolve,hev,Deferred.ofValue,Sem.run_pure]
    simp[Act.eval]
  · simp only[invoke]
    have:vf.toArray++#[Value.func (.yield l) #[] #[]]++vc.toArray=(vf++[Value.func (.yield l) #[] #[]]++vc).toArray:=by
      apply Array.ext';simp
    rw[this]
    exact henter X1.w
  · refine qwu.2 (hcalls.mono fun e w' ⟨v,X',e1,e2,_,hF'⟩=>?_)
    subst e1 e2
    have hpin:=hF'.pin
    have hrec:(l,.loop (q5f fid act.tmps ps a b D q.2.pend))∈X'.kept:=hpin _ List.mem_cons_self
    have hlie:=(hF'.hs.kept _ hrec).1
    simp only at hlie
    have hbusy:(q5f fid act.tmps ps a b D q.2.pend).state≠.busy:=by
      simp only[q5f];split<;>simp
    obtain⟨m1,m2⟩:=q9A hF'.hs (o':=.loop { q5f fid act.tmps ps a b D q.2.pend with state:=.exhausted }) hrec (fun _ _ _ h=>by cases h)
    refine⟨_,_,run_endLoop hlie hbusy,?_⟩
    unfold qwf at h2
    cases htq:qsi { q.2 with pend:=none } with
    | false=>rw[htq] at h2;cases h2
    | true =>
    rw[htq] at h2
    simp only at h2
    have htop2:q.2.fs=[[]]∧AV.noYL q.2.t=true∧q.2.h.all Blk.noY=true:=by
      unfold qsi at htq
      split at htq
      · rename_i h1 h2
        simp only[Bool.and_eq_true] at htq
        exact⟨h1,htq.1,htq.2⟩
      · cases htq
    obtain⟨u1,u2,u3⟩:=htop2
    let X3:Ctx:={ X' with w:=X'.w.putObj l (.loop { q5f fid act.tmps ps a b D q.2.pend with state:=.exhausted }),kept:=qa8 l (.loop { q5f fid act.tmps ps a b D q.2.pend with state:=.exhausted }) X'.kept }
    have hsim:Sim E B { X3 with y:=B.y } { q.2 with pend:=none } { act with defers:=[qfH D]++act.defers }:=by
      have hfs':=hF'.fs.ext0 m2
      have hold:∀p,p∈(D,(.deferred (some []):Obj))::X.kept→p∈X3.kept:=fun p hp=>q09 (hpin p (List.mem_cons_of_mem _ hp)) (hlt p hp)
      have hfs2:RepLL X3 (q.2.t::q.2.fs) (act.tmps.toList::B.fs):=hfs'
      refine⟨((m1.base (B':=B) rfl rfl rfl).setY B.y (by show X'.h.all Blk.noY=true;rw[hF'.h];exact u3)),hF'.h,?_,?_,qqY (qdH m2 hF'.glob) B.y,?_,hs.ni,rfl,?_⟩
      · cases hfs2 with|cons z1 z2=>exact z1.setY B.y u2
      · show RepLL _ q.2.fs B.fs
        rw[u1,hBfs];exact .cons .nil .nil
      · obtain⟨Ds,d1,d2,d3⟩:=hs.df
        rw[t2] at d3
        refine⟨D::Ds,by rw[d1];rfl,List.nodup_cons.2 ⟨fun hD=>?_,d2⟩,fun D' hD'=>?_⟩
        · have:=qso hs.hs (d3 D hD).1
          simp[D] at this
        · rcases List.mem_cons.1 hD' with rfl|hD'
          · refine⟨hold _ List.mem_cons_self,fun p hp=>?_⟩
            have hp':=hs.pin p (by rw[t2];exact hp)
            have:=qso hs.hs hp'
            simp only[D];omega
          · exact⟨hold _ (List.mem_cons_of_mem _ (d3 D' hD').1),(d3 D' hD').2⟩
      · intro p hp
        exact hold p (List.mem_cons_of_mem _ (hs.pin p (by rw[t2];exact hp)))
    cases hpe:q.2.pend with
    | none =>
      rw[hpe] at h2
      simp only[Tree.run,Option.some.injEq] at h2
      subst h2
      exact⟨rfl,{ X3 with y:=B.y },by show X'.w.putObj l _=_;rw[hpe],hsim⟩
    | some e =>
      rw[hpe] at h2
      cases e with
      | normal=>cases h2
      | ret =>
        simp only[Tree.run,Option.some.injEq] at h2
        subst h2
        exact wpIn_ret ⟨rfl,{ X3 with y:=B.y },by show X'.w.putObj l _=_;rw[hpe],hsim⟩
      | exit i =>
        simp only[Tree.run,Option.some.injEq] at h2
        subst h2
        exact wpIn_exit ⟨rfl,{ X3 with y:=B.y },by show X'.w.putObj l _=_;rw[hpe],hsim⟩
theorem q9b{E:Env}{P:Program}(hm:P.follows .mixedOrders=true)(hE:E.tok P)(hS:E.specs P)(hL:E.loopsOK P){f:FuncId}{fn:Func}(hf:P.funcs[f]?=some fn){cb:Code}(hb:fn.body=some cb)
  {callH:q4w} (hcH:∀B,qy P E.iter f B→CallOK E P callH B) {callS:List Blk→q1i} (hc:q9Q E P callS) (hmo:q1F E callS) {rangeH:qaW} (hrg:qgt E P rangeH) :
  ∀(c:Code) (k:Nat),(∀j c',(qY c)[j]?=some c'→(qY cb)[k+j]?=some c') →
  ∀{B:Base} {X:Ctx} {st:St} {a:Act} {r:Ex×St} {n0:Nat},qy P E.iter f B→Sim E B X st a→(jt E callH callS rangeH f c k st).run=some r→c.wpIn (q0q B.ro) n0 P (qs5 E B r) a X.w:=by
 intro c
 induction c with
 | skip=>
  intro k _ B X st a r n0 hbo hs h
  simp only[jt,Tree.run,Option.some.injEq] at h
  subst h
  exact wpIn_skip ⟨rfl,X,rfl,hs⟩
 | label _=>
  intro k _ B X st a r n0 hbo hs h
  simp only[jt,Tree.run,Option.some.injEq] at h
  subst h
  exact wpIn_label ⟨rfl,X,rfl,hs⟩
 | region id ops draw=>
  intro k _ B X st a r n0 hbo hs h
  simp only[jt] at h
  obtain⟨s,h1,h2⟩:=bind_some h
  simp only[Tree.run,Option.some.injEq] at h2
  subst h2
  cases draw with
  | true=>exact qpJ hm hE hS (hcH B hbo) hc hmo hs h1 fun X' a' hs'=>⟨rfl,X',rfl,hs'⟩
  | false=>exact qmP hE (hcH B hbo) hs h1 fun X' a' hs'=>⟨rfl,X',rfl,hs'⟩
 | seq c d ihc ihd=>
  intro k hl B X st a r n0 hbo hs h
  simp only[jt] at h
  cases hfn:q6V E.loops f k with
  | some L=>
   rw[hfn] at h
   obtain⟨fn',c1,c2,q1,q2,q3,q4⟩:=hL _ (qdF hfn)
   simp only at q1 q3 q4
   rw[hf] at q1;cases q1
   rw[hb] at q2;cases q2
   have:=hl 0 (.seq c d) (by simp[qY])
   rw[Nat.add_zero,q3] at this
   cases this
   exact q4 E B X st a r rfl rfl hbo hs h n0
  | none=>
  rw[hfn] at h
  obtain⟨r1,h1,h2⟩:=bind_some h
  apply wpIn_seq
  have g1:=ihc (k+1) (fun j c' hj=>by
   have:=hl (1+j) c' (by simp only[qY];rw[Nat.add_comm,List.getElem?_cons_succ,List.getElem?_append_left (qk hj)];exact hj)
   rw[show k+1+j=k+(1+j) by omega];exact this) (n0:=n0) hbo hs h1
  refine wpIn_mono g1 fun e a' w' ⟨he,X',hw,hs'⟩=>?_
  subst hw
  obtain⟨x1,s1⟩:=r1
  cases x1 with
  | normal=>
   subst he
   refine ihd (k+1+zz c) (fun j c' hj=>?_) hbo hs' h2
   have:=hl (1+zz c+j) c' (by
    simp only[qY]
    rw[show 1+zz c+j=(zz c+j)+1 by omega,List.getElem?_cons_succ,List.getElem?_append_right (by rw[uc];omega),uc]
    rw[show zz c+j-zz c=j by omega];exact hj)
   rw[show k+1+zz c+j=k+(1+zz c+j) by omega];exact this
  | exit i=>
   simp only[Tree.run,Option.some.injEq] at h2
   subst he h2
   exact⟨rfl,X',rfl,hs'⟩
  | ret=>
   simp only[Tree.run,Option.some.injEq] at h2
   subst he h2
   exact⟨rfl,X',rfl,hs'⟩
 | cond x c d ihc ihd=>
  intro k hl B X st a r n0 hbo hs h
  simp only[jt] at h
  have hlc:=fun j c' (hj:(qY c)[j]?=some c')=>hl j c' (by simp only[qY];rw[List.getElem?_append_left (qk hj)];exact hj)
  have hld:∀j c',(qY d)[j]?=some c'→(qY cb)[k+zz c+j]?=some c':=fun j c' hj=>by
   have:=hl (zz c+j) c' (by
    simp only[qY]
    rw[List.getElem?_append_right (by rw[uc];omega),uc]
    rw[show zz c+j-zz c=j by omega];exact hj)
   rw[show k+zz c+j=k+(zz c+j) by omega];exact this
  have hx:=q6z hs x
  cases hv:E.opd st.t x with
  | blit b=>
   rw[hv] at h hx
   generalize hev:a.eval x=vx at hx
   cases hx
   cases b with
   | true=>exact wpIn_cond_true hev (ihc k hlc hbo hs h)
   | false=>exact wpIn_cond_false hev (ihd _ hld hbo hs h)
  | bool b=>
   rw[hv] at h hx
   generalize hev:a.eval x=vx at hx
   cases hx
   cases x with
   | tmp t=>
    simp only at h
    have ht:st.t[t]?=some (.bool b):=by
     simp only[Env.opd,List.getD_eq_getElem?_getD] at hv
     cases hg:st.t[t]? with
     | none=>rw[hg] at hv;cases hv
     | some y=>rw[hg] at hv;simp at hv;rw[hv]
    have hs':=hs.lit ht
    cases b with
    | true=>exact wpIn_cond_true hev (ihc k hlc hbo hs' h)
    | false=>exact wpIn_cond_false hev (ihd _ hld hbo hs' h)
   | _=>cases h
  | _=>rw[hv] at h;cases h
 | block id c ihc=>
  intro k hl B X st a r n0 hbo hs h
  simp only[jt] at h
  obtain⟨r1,h1,h2⟩:=bind_some h
  apply wpIn_block
  have g1:=@ihc k hl _ _ _ _ _ n0 hbo hs h1
  refine wpIn_mono g1 fun e a' w' ⟨he,X',hw,hs'⟩=>?_
  subst hw he
  obtain⟨x1,s1⟩:=r1
  cases x1 with
  | normal=>
   simp only[Tree.run,Option.some.injEq] at h2
   subst h2
   exact⟨rfl,X',rfl,hs'⟩
  | ret=>
   simp only[Tree.run,Option.some.injEq] at h2
   subst h2
   exact⟨rfl,X',rfl,hs'⟩
  | exit i=>
   simp only[Ex.out,Exit.inBlock]
   simp only at h2
   by_cases hi:i=id
   ·rw[if_pos hi] at h2 ⊢
    simp only[Tree.run,Option.some.injEq] at h2
    subst h2
    exact⟨rfl,X',rfl,hs'⟩
   ·rw[if_neg hi] at h2 ⊢
    simp only[Tree.run,Option.some.injEq] at h2
    subst h2
    exact⟨rfl,X',rfl,hs'⟩
 | loop c ihc=>
  intro k hl B X st a r n0 hbo hs h
  simp only[jt] at h
  cases hfn:q6V E.loops f k with
  | none=>rw[hfn] at h;cases h
  | some L=>
   rw[hfn] at h
   obtain⟨fn',c1,c2,q1,q2,q3,q4⟩:=hL _ (qdF hfn)
   simp only at q1 q3 q4
   rw[hf] at q1;cases q1
   rw[hb] at q2;cases q2
   have:=hl 0 (.loop c) (by simp[qY])
   rw[Nat.add_zero,q3] at this
   cases this
   exact q4 E B X st a r rfl rfl hbo hs h n0
 | exit id=>
  intro k _ B X st a r n0 hbo hs h
  simp only[jt,Tree.run,Option.some.injEq] at h
  subst h
  exact wpIn_exit ⟨rfl,X,rfl,hs⟩
 | ret  =>
  intro k _ B X st a r n0 hbo hs h
  simp only[jt,Tree.run,Option.some.injEq] at h
  subst h
  exact wpIn_ret ⟨rfl,X,rfl,hs⟩
 | goto _=>
  intro k _ B X st a r n0 hbo hs h
  simp only[jt] at h;cases h
 | scope _ ihc=>
  intro k _ B X st a r n0 hbo hs h
  simp only[jt] at h;cases h
 | rangeFunc x ps c d ihc ihd=>
  intro k hl B X st a r n0 hbo hs h
  simp only[jt] at h
  cases hx:E.opd st.t x with
  | fn g first caps=>
   rw[hx] at h
   simp only at h
   cases hcd:qnH E.iter g f k&&q61 E.iter f&&qsi st with
   | false=>rw[hcd] at h;cases h
   | true=>
    rw[hcd] at h
    simp only at h
    refine qxI hrg hf hb (hl 0 _ (by simp[qY])) (fun B X st act r hbo hs hr n=>?_) (fun B X st act r hbo hs hr n=>?_) hbo hs hx hcd h
    ·refine ihc (k+1) (fun j c' hj=>?_) hbo hs hr
     have:=hl (1+j) c' (by simp only[qY];rw[Nat.add_comm,List.getElem?_cons_succ,List.getElem?_append_left (qk hj)];exact hj)
     rw[show k+1+j=k+(1+j) by omega];exact this
    ·refine ihd (k+1+zz c) (fun j c' hj=>?_) hbo hs hr
     have:=hl (1+zz c+j) c' (by
      simp only[qY]
      rw[show 1+zz c+j=(zz c+j)+1 by omega,List.getElem?_cons_succ,List.getElem?_append_right (by rw[uc];omega),uc]
      rw[show zz c+j-zz c=j by omega];exact hj)
     rw[show k+1+zz c+j=k+(1+zz c+j) by omega];exact this
  | _=>rw[hx] at h;cases h
 | _=>
  intro k hl B X st a r n0 hbo hs h
  simp only[jt] at h;cases h
theorem qri{P:Program}{w:World}{t:TypeId}{v u:Value}(h:(Instr.loadAt t v).run P w=.ok u w):∃ad,v=.pointer (some ad)∧(loadVar t ad).run P w=.ok u w:=by
 cases v with
 | pointer p=>
  cases p with
  | some ad=>exact⟨ad,rfl,by simpa[Instr.loadAt,Instr.sureAddr] using h⟩
  | none=>simp[Instr.loadAt,Instr.sureAddr] at h
 | _=>simp[Instr.loadAt,Instr.sureAddr] at h
def qzU(tmps:Array Value):ResultVar→Sem Value
 | .tmp t=>pure (tmps.getD t undef)
 | .cell a t=>do loadVar t (←asAddr (tmps.getD a undef))
theorem qun(fn:Func)(tmps:Array Value):results fn tmps=(fn.results.mapM (qzU tmps) >>= fun vs=>pure (if h:vs.size=1 then vs[0] else .tuple vs)):=by
 unfold results
 congr 1
theorem qfZ{E:Env}{P:Program}(hE:E.tok P){B:Base}{X:Ctx}{st:St}{a:Act}(hs:Sim E B X st a):∀(l:List ResultVar) (vs:List AV),qjM E st.h st.t l=some vs →
  ∃us,(l.mapM (qzU a.tmps)).run P X.w=.ok us X.w∧RepL X vs us
 | [],vs,h=>by simp only[qjM,Option.some.injEq] at h;subst h;exact⟨[],by simp,.nil⟩
 | .tmp i::l,vs,h=>by
  simp only[qjM] at h
  split at h
  ·rename_i r hr
   cases h
   obtain⟨us,h1,h2⟩:=qfZ hE hs l r hr
   have:=q6z hs (.tmp i)
   simp only[Env.opd,Act.eval] at this
   exact⟨_::us,by simp[List.mapM_cons,qzU,h1],.cons this h2⟩
  ·cases h
 | .cell i ty::l,vs,h=>by
  simp only[qjM] at h
  split at h
  ·rename_i v h' n r hld hr
   cases h
   obtain⟨us,h1,h2⟩:=qfZ hE hs l r hr
   have hv:=q6z hs (.tmp i)
   simp only[Env.opd,Act.eval] at hv
   rw[←hs.h] at hld
   obtain⟨av,u,g1,g2,g3⟩:=qe0 hE hs.hs hv (r:=(v,h',n)) (by rw[hld];rfl)
   obtain⟨ad,g4,g5⟩:=qri g2
   have:v=av:=congrArg Prod.fst g1
   subst this
   refine⟨u::us,?_,.cons g3 h2⟩
   simp only[List.mapM_cons,qzU,Sem.run_bind,g4,asAddr,Sem.run_pure,Result.andThen_ok,g5,h1]
  ·cases h
theorem RepL.len{X:Ctx}:∀{azz:List AV} {vs:List Value},RepL X azz vs→azz.length=vs.length
 | _,_,.nil=>rfl
 | _,_,.cons _ t=>by simp[t.len]
theorem qpg{E:Env}{P:Program}(hE:E.tok P){B:Base}{X:Ctx}{st:St}{a:Act}(hs:Sim E B X st a){fn:Func}{vs:List AV}(h:qjM E st.h st.t fn.results.toList=some vs) :
  ∃u,(results fn a.tmps).run P X.w=.ok u X.w∧Rep X (qvO vs) u:=by
 obtain⟨us,h1,h2⟩:=qfZ hE hs _ _ h
 have hm:(fn.results.mapM (qzU a.tmps)).run P X.w=.ok us.toArray X.w:=by
  rw[Array.mapM_eq_mapM_toList,Sem.run_map,h1];rfl
 rw[qun,Sem.run_bind,hm]
 simp only[Result.andThen_ok,Sem.run_pure]
 have hl:=h2.len
 cases h2 with
 | nil=>exact⟨_,rfl,.tuple [] [] .nil⟩
 | cons g1 g2=>
  cases g2 with
  | nil=>exact⟨_,rfl,by simpa[qvO] using g1⟩
  | cons g3 g4=>
   refine⟨_,rfl,?_⟩
   rw[dif_neg (by simp)]
   exact .tuple _ _ (.cons g1 (.cons g3 g4))
theorem qvE{X:Ctx}{fn:Func}{args:List AV}{vargs:List Value}(h:RepL X args vargs):RepL X (quG fn args) (vargs.toArray++Array.replicate (fn.ntmps-vargs.toArray.size) undef).toList:=by
 have hrep:∀n,RepL X (List.replicate n .skip) (List.replicate n undef):=by
  intro n
  induction n with
  | zero=>exact .nil
  | succ n ih=>simp only[List.replicate_succ];exact .cons .skip ih
 unfold quG
 simp only[Array.toList_append,Array.toList_replicate,List.size_toArray]
 rw[h.len]
 exact h.append (hrep _)
def Env.bodies(E:Env)(P:Program):Prop:=∀x,x∈E.body→P.funcs[x.1]?=some x.2∧(x.2.name == "runtime.NumGoroutine")=false
theorem qh1{E:Env}{P:Program}(hm:P.follows .mixedOrders=true)(hE:E.tok P)(hS:E.specs P)(hL:E.loopsOK P){f:FuncId}{fn:Func}(hf:P.funcs[f]?=some fn)
  {callH:q4w} (hcH:∀B,qy P E.iter f B→CallOK E P callH B) {callS:List Blk→q1i} (hc:q9Q E P callS) (hmo:q1F E callS) {rangeH:qaW} (hrg:qgt E P rangeH)
  {args:List AV} {st:St} {r:AV×St} {B:Base} {X:Ctx} {vargs:List Value} (hro:B.ro=none) (hbo:qy P E.iter f B) (hs:SimF E B X st) (ha:RepL X args vargs) (h:(qoi E callS callH rangeH f fn args st).run=some r) :
  fn.body.isNone=false∧Calls P f vargs.toArray X.w fun e w'=>∃v X',e=.returned v∧X'.w=w'∧Rep X' r.1 v∧SimF E B X' r.2:=by
 unfold qoi at h
 cases hb:fn.body with
 | none=>rw[hb] at h;cases h
 | some c=>
  rw[hb] at h
  refine⟨rfl,qwu.1 (callsIn_of_wp_marks (F:=q0q none) (n:=0) hf hb trivial ?_)⟩
  obtain⟨r1,h1,h2⟩:=bind_some h
  have hsim:Sim E B X { t:=quG fn args,fs:=st.t::st.fs,h:=st.h,pend:=st.pend } { tmps:=vargs.toArray++Array.replicate (fn.ntmps-vargs.toArray.size) undef,defers:=[] }:=
   ⟨hs.hs,hs.h,qvE ha,hs.fs,hs.glob,qrE.nil,hs.ni,hs.y,hs.pin⟩
  have hcode:=q9b (n0:=0) hm hE hS hL hf hb hcH hc hmo hrg c 0 (fun j c' hj=>by rw[Nat.zero_add];exact hj) hbo hsim h1
  rw[hro] at hcode
  refine wpIn_mono hcode fun e a' w' ⟨he,X',hw,hs'⟩=>?_
  subst he hw
  obtain⟨x1,s1⟩:=r1
  have fin:∀{vs:List AV} {caller:List AV} {fs:List (List AV)},qjM E s1.h s1.t fn.results.toList=some vs→s1.fs=caller::fs→r=(qvO vs,{ t:=caller,fs:=fs,h:=s1.h,pend:=s1.pend }) →
    LeavesInM (q0q none) 0 P fn a'.tmps (fun e w'=>∃v X',e=.returned v∧X'.w=w'∧Rep X' r.1 v∧SimF E B X' r.2) a'.defers .returning X'.w:=by
   intro vs caller fs hr hfs hre
   obtain⟨Ds,d1,_⟩:=hs'.df
   rw[d1]
   refine qpV Ds hs' d1 fun X2 hs2=>?_
   obtain⟨u,g1,g2⟩:=qpg hE hs2 hr
   refine⟨u,g1,u,X2,rfl,rfl,by rw[hre];exact g2,?_⟩
   rw[hre]
   exact⟨hs2.hs,hs2.h,by rw[←hfs];exact hs2.fs,hs2.glob,hs2.ni,hs2.y,hs2.pin⟩
  unfold qxq at h2
  cases x1 with
  | exit i=>simp only at h2;cases h2
  | normal=>
   simp only at h2
   split at h2
   ·rename_i vs caller fs hr hfs;cases h2;exact fin hr hfs rfl
   ·cases h2
  | ret=>
   simp only at h2
   split at h2
   ·rename_i vs caller fs hr hfs;cases h2;exact fin hr hfs rfl
   ·cases h2
theorem uO {P:Program} {f:FuncId} {fn:Func} (hf:P.funcs[f]?=some fn) (hn:(fn.name == "runtime.NumGoroutine")=false) (hb:fn.body.isNone=false):qhL P f:=by
 intro args w
 unfold callFunc
 rw[Sem.run_bind]
 show (Result.ok P w).andThen _=_
 simp only[Result.andThen_ok,hf,hn,hb,Bool.false_eq_true,if_false,Sem.run_pure]
theorem qzC{all:Array Oper}{k:Nat}{o:Oper}{s s':St}(h:(qli all k o s).run=some s')(u:St)(hu:u.t=s.t):(qli all k o u).run=some { u with t:=s'.t }:=by
 unfold qli at h ⊢
 split at h
 ·rename_i hg
  rw[if_pos hg]
  split at h
  ·rename_i d hd
   simp only[hu]
   split at h
   ·rename_i b hb
    simp only[Tree.run] at h ⊢
    cases b<;>(simp only[Option.some.injEq] at h ⊢;subst h;rfl)
   ·rename_i hb
    cases hx:s.t[d]? with
    | none=>simp only[Tree.run,Option.some.injEq] at h ⊢;subst h;rw[←hu]
    | some v=>
     rw[hx] at hb
     cases v<;>first|(exact absurd rfl (hb _))|(simp only[Tree.run,Option.some.injEq] at h ⊢;subst h;rw[←hu])
  ·simp only[Tree.run,Option.some.injEq] at h ⊢;subst h;rw[←hu]
 ·rename_i hg
  rw[if_neg hg]
  simp only[Tree.run,Option.some.injEq] at h ⊢;subst h;rw[←hu]
theorem qiR{E:Env}{callH:q4w}{all:Array Oper}{st0:St}:∀(l:List Oper) (k:Nat) (t t':List AV),(qnt E st0.h all k l t).run=some t'→(qeb E callH all k l { st0 with t:=t }).run=some { st0 with t:=t' }
 | [],k,t,t',h=>by simp only[qnt,Tree.run,Option.some.injEq] at h;subst h;rfl
 | o::rest,k,t,t',h=>by
  simp only[qnt] at h
  simp only[qeb]
  cases hw:jJ all o t with
  | none=>rw[hw] at h;cases h
  | some b=>
   rw[hw] at h
   cases b with
   | false=>
    simp only at h ⊢
    exact qiR rest (k+1) _ t' h
   | true=>
    simp only at h ⊢
    cases hst:q8r E o.op with
    | false=>rw[hst] at h;cases h
    | true=>
     rw[hst] at h
     obtain⟨r,h1,h2⟩:=bind_some h
     obtain⟨s,h3,h4⟩:=bind_some h2
     have hr:=qnB hst h1
     have hstep:(qko E callH o { st0 with t:=t }).run=some { st0 with t:=qd7 t o.dst r.1 }:=by
      unfold qko
      split
      ·rename_i x args tys hop;rw[hop] at hst;cases hst
      ·rw[Tree.run_bind,h1]
       obtain⟨r1,r2⟩:=r
       simp only at hr
       subst hr
       rfl
     rw[Tree.run_bind,hstep]
     simp only[Option.bind_some]
     rw[Tree.run_bind,qzC h3 { st0 with t:=qd7 t o.dst r.1 } rfl]
     exact qiR rest (k+1) _ t' h4
theorem qqq{E:Env}{callH:q4w}{callS:List Blk→q1i}{rangeH:qaW}{f:FuncId}{st0:St}:∀(c:Code) (k:Nat) (t:List AV) (r:Ex×List AV),(q0S E st0.h f c k t).run=some r →
  (jt E callH callS rangeH f c k { st0 with t:=t }).run=some (r.1,{ st0 with t:=r.2 }):=by
 intro c
 induction c with
 | skip=>intro k t r h;simp only[q0S,Tree.run,Option.some.injEq] at h;subst h;rfl
 | label _=>intro k t r h;simp only[q0S,Tree.run,Option.some.injEq] at h;subst h;rfl
 | region id ops draw=>
  intro k t r h
  simp only[q0S] at h
  cases draw with
  | true=>cases h
  | false=>
   obtain⟨s,h1,h2⟩:=bind_some h
   simp only[Tree.run,Option.some.injEq] at h2
   subst h2
   simp only[jt]
   rw[Tree.run_bind,qiR (callH:=callH) _ _ _ _ h1]
   rfl
 | seq c d ihc ihd=>
  intro k t r h
  simp only[q0S] at h
  simp only[jt]
  cases hfn:q6V E.loops f k with
  | some L=>rw[hfn] at h;cases h
  | none=>
   rw[hfn] at h
   simp only at h ⊢
   obtain⟨s,h1,h2⟩:=bind_some h
   rw[Tree.run_bind,ihc _ _ _ h1]
   simp only[Option.bind_some]
   obtain⟨e,s2⟩:=s
   cases e with
   | normal=>exact ihd _ _ _ h2
   | ret=>simp only[Tree.run,Option.some.injEq] at h2 ⊢;subst h2;rfl
   | exit i=>simp only[Tree.run,Option.some.injEq] at h2 ⊢;subst h2;rfl
 | cond x c d ihc ihd=>
  intro k t r h
  simp only[q0S] at h
  simp only[jt]
  split at h
  ·exact ihc _ _ _ h
  ·exact ihd _ _ _ h
  ·rename_i b hx
   cases x with
   | tmp d'=>
    simp only[Tree.run] at h ⊢
    cases b with
    | true=>exact ihc _ _ _ h
    | false=>exact ihd _ _ _ h
   | _=>cases h
  ·cases h
 | block id c ihc=>
  intro k t r h
  simp only[q0S] at h
  simp only[jt]
  obtain⟨s,h1,h2⟩:=bind_some h
  rw[Tree.run_bind,ihc _ _ _ h1]
  simp only[Option.bind_some]
  obtain⟨e,s2⟩:=s
  cases e with
  | normal=>simp only[Tree.run,Option.some.injEq] at h2 ⊢;subst h2;rfl
  | ret=>simp only[Tree.run,Option.some.injEq] at h2 ⊢;subst h2;rfl
  | exit i=>
   simp only at h2 ⊢
   split at h2
   ·rename_i hi;rw[if_pos hi];simp only[Tree.run,Option.some.injEq] at h2 ⊢;subst h2;rfl
   ·rename_i hi;rw[if_neg hi];simp only[Tree.run,Option.some.injEq] at h2 ⊢;subst h2;rfl
 | exit id=>intro k t r h;simp only[q0S,Tree.run,Option.some.injEq] at h;subst h;rfl
 | ret=>intro k t r h;simp only[q0S,Tree.run,Option.some.injEq] at h;subst h;rfl
 | _=>intro k t r h;simp only[q0S] at h;cases h
theorem qpZ{E:Env}{callH:q4w}{rangeH:qaW}{f:FuncId}{fn:Func}{args:List AV}{st:St}{v:AV}(h:(qrX E st.h f fn args).run=some v):(qoi E qoF callH rangeH f fn args st).run=some (v,st):=by
 unfold qrX at h
 unfold qoi
 cases hb:fn.body with
 | none=>rw[hb] at h;cases h
 | some c=>
  rw[hb] at h
  simp only at h ⊢
  obtain⟨r,h1,h2⟩:=bind_some h
  rw[Tree.run_bind,qqq (callH:=callH) (callS:=qoF) (rangeH:=rangeH) (st0:={ t:=[],fs:=st.t::st.fs,h:=st.h,pend:=st.pend }) c 0 _ r h1]
  simp only[Option.bind_some]
  obtain⟨e,t'⟩:=r
  unfold qxq
  cases e with
  | exit i=>cases h2
  | normal=>
   simp only at h2 ⊢
   cases hr:qjM E st.h t' fn.results.toList with
   | none=>rw[hr] at h2;cases h2
   | some vs=>rw[hr] at h2;cases h2;rfl
  | ret=>
   simp only at h2 ⊢
   cases hr:qjM E st.h t' fn.results.toList with
   | none=>rw[hr] at h2;cases h2
   | some vs=>rw[hr] at h2;cases h2;rfl
theorem qgm{P:Program}{it:List (FuncId×FuncId×Nat)}{f:FuncId}(h:q61 it f=true){B:Base}(hB:B.ro.isSome=true→2≤B.fs.length):qy P it f B:=by
 refine⟨hB,?_⟩
 unfold q61 at h
 split at h
 ·cases h
 ·rename_i hn;rw[hn];trivial
theorem qiP(E:Env)(P:Program):qgt E P qp7:=fun _ _ _ _ _ _ _ _ _ _ _ _ _ h=>by cases h
theorem qwW{E:Env}{P:Program}(B:Base):CallOK E P (fun _ _ _=>.fail) B:=⟨(fun f args st r X a vargs _ _ h=>by cases h),(fun args st r X a vargs _ _ h=>by cases h)⟩
theorem q9g{E:Env}{P:Program}(hm:P.follows .mixedOrders=true)(hE:E.tok P)(hS:E.specs P)(hL:E.loopsOK P)(hb:E.bodies P):q9Q E P (q5X E):=by
 intro f args st v B X a vargs hs ha h
 unfold q5X at h
 cases hsp:E.spec.find? fun x=>x.1==f with
 | some G=>rw[hsp] at h;exact qpo hS f args st v B X a vargs hs ha h
 | none=>
  rw[hsp] at h
  simp only at h
  cases hbd:E.body.find? fun x=>x.1==f with
  | none=>rw[hbd] at h;cases h
  | some fn=>
   rw[hbd] at h
   simp only at h
   cases hni:q61 E.iter f with
   | false=>rw[hni] at h;cases h
   | true=>
   rw[hni] at h
   simp only at h
   have hx:=hb fn (List.mem_of_find?_eq_some hbd)
   have hfe:fn.1=f:=by simpa using List.find?_some hbd
   rw[hfe] at hx
   let B':Base:={ B with fs:=a.tmps.toList::B.fs,ro:=none,pin:=fun _=>X.kept }
   have hF:SimF E B' X st:=⟨hs.hs.base rfl rfl rfl,hs.h,.cons hs.t hs.fs,hs.glob,hs.ni,hs.y,fun p hp=>hp⟩
   have h1:=qpZ (callH:=fun _ _ _=>.fail) (rangeH:=qp7) h
   obtain⟨g1,g2⟩:=qh1 hm hE hS hL hx.1 (fun B _=>qwW B) (callS:=qoF) (fun _ _ _ _ _ _ _ _ _ _ h=>by cases h) (qpP E) (qiP E P) (B:=B') rfl (qgm hni (fun h=>by cases h)) hF ha h1
   refine⟨uO hx.1 hx.2 g1 _,g2.mono fun e w' ⟨u,X',e1,e2,e3,e4⟩=>⟨u,X',e1,e2,e3,?_⟩⟩
   have hpin:∀p,p∈X.kept→p∈X'.kept:=e4.pin
   have hfs:RepLL X' (st.t::st.fs) (a.tmps.toList::B.fs):=e4.fs
   obtain⟨Ds,d1,d2,d3⟩:=hs.df
   refine⟨e4.hs.base rfl rfl rfl,e4.h,?_,?_,e4.glob,⟨Ds,d1,d2,fun D hD=>⟨hpin _ (d3 D hD).1,(d3 D hD).2⟩⟩,hs.ni,e4.y,fun p hp=>hpin p (hs.pin p hp)⟩
   ·cases hfs with|cons k1 k2=>exact k1
   ·cases hfs with|cons k1 k2=>exact k2
theorem qdg{E:Env}{P:Program}(hm:P.follows .mixedOrders=true)(hE:E.tok P)(hS:E.specs P)(hL:E.loopsOK P)(hbs:E.bodies P){f:FuncId}{fn:Func}(hf:P.funcs[f]?=some fn)
  {callH:q4w} (hcH:∀B,qy P E.iter f B→CallOK E P callH B) {rangeH:qaW} (hrg:qgt E P rangeH)
  {args:List AV} {st:St} {r:AV×St} {B:Base} {X:Ctx} {vargs:List Value} (hro:B.ro=none) (hbo:qy P E.iter f B) (hs:SimF E B X st) (ha:RepL X args vargs) (h:(qsT E callH rangeH f fn args st).run=some r) :
  fn.body.isNone=false∧Calls P f vargs.toArray X.w fun e w'=>∃v X',e=.returned v∧X'.w=w'∧Rep X' r.1 v∧SimF E B X' r.2:=
 qh1 hm hE hS hL hf hcH (q9g hm hE hS hL hbs) (q5P E) hrg hro hbo hs ha h
theorem qaz{E:Env}{P:Program}(hm:P.follows .mixedOrders=true)(hE:E.tok P)(hS:E.specs P)(hL:E.loopsOK P)(hb:E.bodies P){callH:q4w}(hcH:∀B,CallOK E P callH B):qgt E P (qgb E callH):=by
 intro g y args st r B X vargs hs hbo hy hro ha h
 unfold qgb at h
 cases hbd:E.body.find? fun x=>x.1==g with
 | none=>rw[hbd] at h;cases h
 | some fn=>
  rw[hbd] at h
  have hx:=hb fn (List.mem_of_find?_eq_some hbd)
  have hfe:fn.1=g:=by simpa using List.find?_some hbd
  rw[hfe] at hx
  obtain⟨g1,g2⟩:=qdg hm hE hS hL hb hx.1 (callH:=qxo y callH) (fun B' hB'=>⟨(hcH B').fn,hy B' hB'⟩) (qiP E P) hro hbo hs ha h
  exact⟨uO hx.1 hx.2 g1 _,g2⟩
theorem qdi{E:Env}{P:Program}(hm:P.follows .mixedOrders=true)(hE:E.tok P)(hS:E.specs P)(hL:E.loopsOK P)(hb:E.bodies P):∀n B,CallOK E P (q6M E n) B
 | 0,_=>⟨(fun f args st r X a vargs _ _ h=>by simp only[q6M] at h;cases h),(fun args st r X a vargs _ _ h=>by simp only[q6M] at h;cases h)⟩
 | n+1,B=>⟨(fun f args st r X a vargs hs ha h=>by
  simp only[q6M] at h
  cases hdl:qzI E f with
  | some e=>
   rw[hdl] at h
   have hD:=qqE hS hdl
   exact⟨hD.1 _,qqr hE hD hs ha h⟩
  | none=>
  rw[hdl] at h
  simp only at h
  cases hsp:E.spec.find? fun x=>x.1==f with
  | some G=>
   rw[hsp] at h
   have hG:=hS.sp G (List.mem_of_find?_eq_some hsp)
   have hfe:G.1=f:=by simpa using List.find?_some hsp
   rw[hfe] at hG
   exact⟨hG.1 _,q5Q hG hs ha h⟩
  | none=>
   rw[hsp] at h
   cases hbd:E.body.find? fun x=>x.1==f with
   | none=>rw[hbd] at h;cases h
   | some fn=>
    rw[hbd] at h
    simp only at h
    cases hni:q61 E.iter f with
    | false=>rw[hni] at h;cases h
    | true=>
    rw[hni] at h
    simp only at h
    obtain⟨r1,h1,h2⟩:=bind_some h
    simp only[Tree.run,Option.some.injEq] at h2
    subst h2
    have hx:=hb fn (List.mem_of_find?_eq_some hbd)
    have hfe:fn.1=f:=by simpa using List.find?_some hbd
    rw[hfe] at hx
    let B':Base:={ B with fs:=a.tmps.toList::B.fs,ro:=none,pin:=fun _=>X.kept }
    have hF:SimF E B' X st:=⟨hs.hs.base rfl rfl rfl,hs.h,.cons hs.t hs.fs,hs.glob,hs.ni,hs.y,fun p hp=>hp⟩
    obtain⟨g1,g2⟩:=qdg hm hE hS hL hb hx.1 (fun B _=>qdi hm hE hS hL hb n B) (qaz hm hE hS hL hb (qdi hm hE hS hL hb n)) (B:=B') rfl (qgm hni (fun h=>by cases h)) hF ha h1
    refine⟨uO hx.1 hx.2 g1 _,g2.mono fun e w' ⟨v,X',e1,e2,e3,e4⟩=>⟨v,X',e1,e2,e3,?_⟩⟩
    have hpin:∀p,p∈X.kept→p∈X'.kept:=e4.pin
    have hfs:RepLL X' (r1.2.t::r1.2.fs) (a.tmps.toList::B.fs):=e4.fs
    obtain⟨Ds,d1,d2,d3⟩:=hs.df
    refine⟨e4.hs.base rfl rfl rfl,e4.h,?_,?_,e4.glob,⟨Ds,d1,d2,fun D hD=>⟨hpin _ (d3 D hD).1,(d3 D hD).2⟩⟩,hs.ni,e4.y,fun p hp=>hpin p (hs.pin p hp)⟩
    ·cases hfs with|cons k1 k2=>exact k1
    ·cases hfs with|cons k1 k2=>exact k2),
  (fun args st r X a vargs _ _ h=>by simp only[q6M] at h;cases h)⟩
theorem qqc{E:Env}{P:Program}(hm:P.follows .mixedOrders=true)(hE:E.tok P)(hS:E.specs P)(hL:E.loopsOK P)(hb:E.bodies P){f:FuncId}{fn:Func}(hf:P.funcs[f]?=some fn)
  {n:Nat} {B:Base} {X:Ctx} {args:List AV} {vargs:List Value} {r:AV×List Blk} (hs:HSim B X) (h0:B.imps.length≤E.nimp) (hgl:q95 E.glob X) (ha:RepL X args vargs)
  (h:(qsK E n f fn args X.h).run=some r) :
  Calls P f vargs.toArray X.w fun e w'=>∃v X',e=.returned v∧X'.w=w'∧Rep X' r.1 v∧X'.h=r.2∧HSim B X'∧X'.y=X.y:=by
 unfold qsK at h
 cases hni:q61 E.iter f with
 | false=>rw[hni] at h;cases h
 | true=>
 rw[hni] at h
 simp only at h
 obtain⟨r1,h1,h2⟩:=bind_some h
 simp only[Tree.run,Option.some.injEq] at h2
 subst h2
 let B0:Base:={ B with fs:=[[]],ro:=none,y:=X.y,pin:=fun _=>[] }
 have hF:SimF E B0 X { t:=[],fs:=[],h:=X.h,pend:=none }:=⟨hs.base rfl rfl rfl,rfl,.cons .nil .nil,hgl,h0,rfl,fun p hp=>by cases hp⟩
 obtain⟨_,g2⟩:=qdg hm hE hS hL hb hf (fun B _=>qdi hm hE hS hL hb n B) (qaz hm hE hS hL hb (qdi hm hE hS hL hb n)) (B:=B0) rfl (qgm hni (fun h=>by cases h)) hF ha h1
 refine g2.mono fun e w' ⟨v,X',e1,e2,e3,e4⟩=>⟨v,X',e1,e2,e3,e4.h,e4.hs.base rfl rfl rfl,e4.y⟩
end Go.Eng

namespace Go.Eng
inductive PK where
 | i|b|s|r
inductive PV where
 | i (n:Int)|b (x:Bool)|s (l:List UInt8)|r (l:R)
def PV.kind:PV→PK|.i _=>.i|.b _=>.b|.s _=>.s|.r _=>.r
def PV.toI:PV→Int|.i n=>n|_=>0
def PV.toB:PV→Bool|.b x=>x|_=>false
def PV.toS:PV→List UInt8|.s x=>x|_=>[]
def PV.toR:PV→R|.r x=>x|_=>[]
inductive AP where
 | any|yld
 | int (k:IntKind)|bool|str|blit (b:Bool)
 | nilp|ptr (b off:Nat)|eptr (sh:List Sh) (off:Nat)|mptr (sh:List Sh) (off:Nat)|vptr (b off:Nat)
 | nils|imm (sh:List Sh)|vec (b:Nat)
 | nilf|fn (f:FuncId) (first caps:List AP)
 | agg (l:List AP)|tuple (l:List AP)
def qB:Nat→List AP→List AP
 | 0,l=>l
 | n+1,l=>.any::qB n l
def qvv:Option (List PV)→Option (List PV)→Option (List PV)
 | some a,some b=>some (a++b)
 | _,_=>none
mutual
def AP.take:AP→AV→Option (List PV)
 | .any,_=>some []
 | .yld,.yld=>some []
 | .int k,.int k' n=>if k=k' then some [.i n] else none
 | .int k,.ilit k' n=>if k=k' then some [.i n] else none
 | .bool,.bool b=>some [.b b]
 | .bool,.blit b=>some [.b b]
 | .str,.str s=>some [.s s]
 | .blit b,.blit b'=>if b=b' then some [] else none
 | .nilp,.nilp=>some []
 | .ptr b off,.ptr b' off'=>if b=b'∧off=off' then some [] else none
 | .eptr sh off,.eptr sh' l i off'=>if Sh.beqL sh sh'=true∧off=off' then some [.r l,.i i] else none
 | .mptr _ _,.nilp=>some [.b false,.r [],.i 0]
 | .mptr sh off,.eptr sh' l i off'=>if Sh.beqL sh sh'=true∧off=off' then some [.b true,.r l,.i i] else none
 | .mptr sh off,.mptr c sh' l i off'=>if Sh.beqL sh sh'=true∧off=off' then some [.b c,.r l,.i i] else none
 | .vptr b off,.vptr b' i off'=>if b=b'∧off=off' then some [.i i] else none
 | .nils,.nils=>some []
 | .imm sh,.imm sh' l=>if Sh.beqL sh sh'=true then some [.r l] else none
 | .imm _,.nils=>some [.r []]
 | .vec b,.vec b'=>if b=b' then some [] else none
 | .nilf,.nilf=>some []
 | .fn f p q,.fn g a c=>if f=g then qvv (AP.takeL p a) (AP.takeL q c) else none
 | .agg l,.agg a=>AP.takeL l a
 | .tuple l,.tuple a=>AP.takeL l a
 | _,_=>none
def AP.takeL:List AP→List AV→Option (List PV)
 | [],[]=>some []
 | p::l,a::azz=>qvv (p.take a) (AP.takeL l azz)
 | _,_=>none
end
mutual
def AP.make:AP→List PV→AV×List PV
 | .any,ps=>(.undef,ps)
 | .yld,ps=>(.yld,ps)
 | .int k,.i n::ps=>(.int k n,ps)
 | .bool,.b x::ps=>(.bool x,ps)
 | .str,.s x::ps=>(.str x,ps)
 | .blit b,ps=>(.blit b,ps)
 | .nilp,ps=>(.nilp,ps)
 | .ptr b off,ps=>(.ptr b off,ps)
 | .eptr sh off,.r l::.i i::ps=>(.eptr sh l i off,ps)
 | .mptr sh off,.b c::.r l::.i i::ps=>(.mptr c sh l i off,ps)
 | .vptr b off,.i i::ps=>(.vptr b i off,ps)
 | .nils,ps=>(.nils,ps)
 | .imm sh,.r l::ps=>(.imm sh l,ps)
 | .vec b,ps=>(.vec b,ps)
 | .nilf,ps=>(.nilf,ps)
 | .fn f p q,ps=>let x:=AP.makeL p ps;let y:=AP.makeL q x.2;(.fn f x.1 y.1,y.2)
 | .agg l,ps=>let x:=AP.makeL l ps;(.agg x.1,x.2)
 | .tuple l,ps=>let x:=AP.makeL l ps;(.tuple x.1,x.2)
 | _,ps=>(.undef,ps)
def AP.makeL:List AP→List PV→List AV×List PV
 | [],ps=>([],ps)
 | p::l,ps=>let x:=p.make ps;let y:=AP.makeL l x.2;(x.1::y.1,y.2)
end
mutual
def AP.kinds:AP→List PK
 | .int _=>[.i]|.bool=>[.b]|.str=>[.s]
 | .eptr _ _=>[.r,.i]|.mptr _ _=>[.b,.r,.i]|.vptr _ _=>[.i]|.imm _=>[.r]
 | .fn _ p q=>AP.kindsL p++AP.kindsL q
 | .agg l=>AP.kindsL l
 | .tuple l=>AP.kindsL l
 | _=>[]
def AP.kindsL:List AP→List PK
 | []=>[]
 | p::l=>p.kinds++AP.kindsL l
end
theorem q32{a b:Option (List PV)}{c:List PV}(h:qvv a b=some c):∃x y,a=some x∧b=some y∧c=x++y:=by
 cases a<;>cases b<;>simp[qvv] at h
 exact⟨_,_,rfl,rfl,h.symm⟩
mutual
theorem AP.take_ok{X:Ctx}:∀(p:AP) (a:AV) (ps rest:List PV),p.take a=some ps→(p.make (ps++rest)).2=rest∧ps.map PV.kind=p.kinds∧∀v,Rep X a v→Rep X (p.make (ps++rest)).1 v
 | .any,a,ps,rest,h=>by simp only[AP.take,Option.some.injEq] at h;subst h;exact⟨rfl,rfl,fun v _=>.undef v⟩
 | .yld,a,ps,rest,h=>by
  cases a<;>simp only[AP.take] at h<;>first|(cases h;done)|skip
  cases h;exact⟨rfl,rfl,fun v hv=>hv⟩
 | .int k,a,ps,rest,h=>by
  cases a<;>simp only[AP.take] at h<;>first|(cases h;done)|skip
  all_goals
   split at h
   ·rename_i hk;cases h;subst hk
    refine⟨rfl,rfl,fun v hv=>?_⟩
    cases hv
    exact .int _ _
   ·cases h
 | .bool,a,ps,rest,h=>by
  cases a<;>simp only[AP.take] at h<;>first|(cases h;done)|skip
  all_goals
   cases h
   refine⟨rfl,rfl,fun v hv=>?_⟩
   cases hv
   exact .bool _
 | .str,a,ps,rest,h=>by
  cases a<;>simp only[AP.take] at h<;>first|(cases h;done)|skip
  cases h
  exact⟨rfl,rfl,fun v hv=>hv⟩
 | .blit b,a,ps,rest,h=>by
  cases a<;>simp only[AP.take] at h<;>first|(cases h;done)|skip
  split at h
  ·rename_i hb;cases h;subst hb;exact⟨rfl,rfl,fun v hv=>hv⟩
  ·cases h
 | .nilp,a,ps,rest,h=>by
  cases a<;>simp only[AP.take] at h<;>first|(cases h;done)|skip
  cases h;exact⟨rfl,rfl,fun v hv=>hv⟩
 | .ptr b off,a,ps,rest,h=>by
  cases a<;>simp only[AP.take] at h<;>first|(cases h;done)|skip
  split at h
  ·rename_i hb;cases h;obtain⟨rfl,rfl⟩:=hb;exact⟨rfl,rfl,fun v hv=>hv⟩
  ·cases h
 | .eptr sh off,a,ps,rest,h=>by
  cases a<;>simp only[AP.take] at h<;>first|(cases h;done)|skip
  split at h
  ·rename_i hb;cases h;obtain⟨hb,rfl⟩:=hb;have:=Sh.beqL_eq _ _ hb;subst this;exact⟨rfl,rfl,fun v hv=>hv⟩
  ·cases h
 | .mptr sh off,a,ps,rest,h=>by
  cases a<;>simp only[AP.take] at h<;>first|(cases h;done)|skip
  ·cases h
   refine⟨rfl,rfl,fun v hv=>?_⟩
   cases hv
   exact .mnil _ _ _ _
  ·split at h
   ·rename_i hb;cases h;obtain⟨hb,rfl⟩:=hb;have:=Sh.beqL_eq _ _ hb;subst this
    refine⟨rfl,rfl,fun v hv=>?_⟩
    cases hv with
    | eptr _ _ _ _ a h1 h2 h3 h4=>exact .mptr _ _ _ _ a h1 h2 h3 h4
   ·cases h
  ·split at h
   ·rename_i hb;cases h;obtain⟨hb,rfl⟩:=hb;have:=Sh.beqL_eq _ _ hb;subst this;exact⟨rfl,rfl,fun v hv=>hv⟩
   ·cases h
 | .vptr b off,a,ps,rest,h=>by
  cases a<;>simp only[AP.take] at h<;>first|(cases h;done)|skip
  split at h
  ·rename_i hb;cases h;obtain⟨rfl,rfl⟩:=hb;exact⟨rfl,rfl,fun v hv=>hv⟩
  ·cases h
 | .nils,a,ps,rest,h=>by
  cases a<;>simp only[AP.take] at h<;>first|(cases h;done)|skip
  cases h;exact⟨rfl,rfl,fun v hv=>hv⟩
 | .imm sh,a,ps,rest,h=>by
  cases a<;>simp only[AP.take] at h<;>first|(cases h;done)|skip
  ·cases h
   refine⟨rfl,rfl,fun v hv=>?_⟩
   cases hv
   exact .imm _ _ _ (.inl ⟨rfl,rfl⟩)
  ·split at h
   ·rename_i hb;cases h;have:=Sh.beqL_eq _ _ hb;subst this;exact⟨rfl,rfl,fun v hv=>hv⟩
   ·cases h
 | .vec b,a,ps,rest,h=>by
  cases a<;>simp only[AP.take] at h<;>first|(cases h;done)|skip
  split at h
  ·rename_i hb;cases h;subst hb;exact⟨rfl,rfl,fun v hv=>hv⟩
  ·cases h
 | .nilf,a,ps,rest,h=>by
  cases a<;>simp only[AP.take] at h<;>first|(cases h;done)|skip
  cases h;exact⟨rfl,rfl,fun v hv=>hv⟩
 | .fn f p q,a,ps,rest,h=>by
  cases a<;>simp only[AP.take] at h<;>first|(cases h;done)|skip
  rename_i g a c
  split at h
  ·rename_i hf;subst hf
   obtain⟨x,y,h1,h2,rfl⟩:=q32 h
   obtain⟨a1,a2,a3⟩:=AP.takeL_ok (X:=X) p a x (y++rest) h1
   obtain⟨b1,b2,b3⟩:=AP.takeL_ok (X:=X) q c y rest h2
   simp only[AP.make,List.append_assoc,a1,b1,AP.kinds,List.map_append,a2,b2,true_and]
   intro v hv
   cases hv with
   | fn _ _ _ vf vc g1 g2=>exact .fn _ _ _ vf vc (a3 _ g1) (b3 _ g2)
  ·cases h
 | .agg l,a,ps,rest,h=>by
  cases a<;>simp only[AP.take] at h<;>first|(cases h;done)|skip
  obtain⟨a1,a2,a3⟩:=AP.takeL_ok (X:=X) l _ ps rest h
  simp only[AP.make,a1,AP.kinds,a2,true_and]
  intro v hv
  cases hv with
  | agg _ vs g=>exact .agg _ vs (a3 _ g)
 | .tuple l,a,ps,rest,h=>by
  cases a<;>simp only[AP.take] at h<;>first|(cases h;done)|skip
  obtain⟨a1,a2,a3⟩:=AP.takeL_ok (X:=X) l _ ps rest h
  simp only[AP.make,a1,AP.kinds,a2,true_and]
  intro v hv
  cases hv with
  | tuple _ vs g=>exact .tuple _ vs (a3 _ g)
theorem AP.takeL_ok{X:Ctx}:∀(p:List AP) (a:List AV) (ps rest:List PV),AP.takeL p a=some ps→(AP.makeL p (ps++rest)).2=rest∧ps.map PV.kind=AP.kindsL p∧∀v,RepL X a v→RepL X (AP.makeL p (ps++rest)).1 v
 | [],a,ps,rest,h=>by
  cases a<;>simp only[AP.takeL] at h<;>cases h
  exact⟨rfl,rfl,fun v hv=>hv⟩
 | p::l,a,ps,rest,h=>by
  cases a with
  | nil=>simp only[AP.takeL] at h;cases h
  | cons a azz=>
   simp only[AP.takeL] at h
   obtain⟨x,y,h1,h2,rfl⟩:=q32 h
   obtain⟨a1,a2,a3⟩:=AP.take_ok (X:=X) p a x (y++rest) h1
   obtain⟨b1,b2,b3⟩:=AP.takeL_ok (X:=X) l azz y rest h2
   simp only[AP.makeL,List.append_assoc,a1,b1,AP.kindsL,List.map_append,a2,b2,true_and]
   intro v hv
   cases hv with
   | cons g1 g2=>exact .cons (a3 _ g1) (b3 _ g2)
end
def AP.takeLL:List (List AP)→List (List AV)→Option (List PV)
 | [],[]=>some []
 | p::l,a::azz=>qvv (AP.takeL p a) (AP.takeLL l azz)
 | _,_=>none
def AP.makeLL:List (List AP)→List PV→List (List AV)×List PV
 | [],ps=>([],ps)
 | p::l,ps=>let x:=AP.makeL p ps;let y:=AP.makeLL l x.2;(x.1::y.1,y.2)
def AP.kindsLL:List (List AP)→List PK
 | []=>[]
 | p::l=>AP.kindsL p++AP.kindsLL l
theorem AP.takeLL_ok{X:Ctx}:∀(p:List (List AP)) (a:List (List AV)) (ps rest:List PV),AP.takeLL p a=some ps→(AP.makeLL p (ps++rest)).2=rest∧ps.map PV.kind=AP.kindsLL p∧∀v,RepLL X a v→RepLL X (AP.makeLL p (ps++rest)).1 v
 | [],a,ps,rest,h=>by
  cases a<;>simp only[AP.takeLL] at h<;>cases h
  exact⟨rfl,rfl,fun v hv=>hv⟩
 | p::l,a,ps,rest,h=>by
  cases a with
  | nil=>simp only[AP.takeLL] at h;cases h
  | cons a azz=>
   simp only[AP.takeLL] at h
   obtain⟨x,y,h1,h2,rfl⟩:=q32 h
   obtain⟨a1,a2,a3⟩:=AP.takeL_ok (X:=X) p a x (y++rest) h1
   obtain⟨b1,b2,b3⟩:=AP.takeLL_ok (X:=X) l azz y rest h2
   simp only[AP.makeLL,List.append_assoc,a1,b1,AP.kindsLL,List.map_append,a2,b2,true_and]
   intro v hv
   cases hv with
   | cons g1 g2=>exact .cons (a3 _ g1) (b3 _ g2)
inductive BP where
 | cells (l:List AP)|big (l:List AP) (k:IntKind) (n:Nat)|vec (e:TypeId) (sh:List Sh)|frz (e:TypeId) (sh:List Sh)|dead
def BP.take:BP→Blk→Option (List PV)
 | .cells l,.cells cs=>AP.takeL l cs
 | .big l k n,.big cs k' n' r=>if k=k'∧n=n' then qvv (AP.takeL l cs) (some [.r r]) else none
 | .vec e sh,.vec e' sh' l=>if e=e'∧Sh.beqL sh sh'=true then some [.r l] else none
 | .frz e sh,.frz e' sh' l=>if e=e'∧Sh.beqL sh sh'=true then some [.r l] else none
 | .dead,_=>some []
 | _,_=>none
def BP.make:BP→List PV→Blk×List PV
 | .cells l,ps=>let x:=AP.makeL l ps;(.cells x.1,x.2)
 | .big l k n,ps=>let x:=AP.makeL l ps;match x.2 with
  | .r r::qs=>(.big x.1 k n r,qs)
  | qs=>(.dead,qs)
 | .vec e sh,.r l::ps=>(.vec e sh l,ps)
 | .frz e sh,.r l::ps=>(.frz e sh l,ps)
 | _,ps=>(.dead,ps)
def BP.kinds:BP→List PK
 | .cells l=>AP.kindsL l
 | .big l _ _=>AP.kindsL l++[.r]
 | .vec _ _=>[.r]
 | .frz _ _=>[.r]
 | .dead=>[]
def BP.takeL:List BP→List Blk→Option (List PV)
 | [],[]=>some []
 | p::l,b::bs=>qvv (p.take b) (BP.takeL l bs)
 | _,_=>none
def BP.makeL:List BP→List PV→List Blk×List PV
 | [],ps=>([],ps)
 | p::l,ps=>let x:=p.make ps;let y:=BP.makeL l x.2;(x.1::y.1,y.2)
def BP.kindsL:List BP→List PK
 | []=>[]
 | p::l=>p.kinds++BP.kindsL l
def BP.isCells:BP→Bool
 | .cells _|.big _ _ _=>true
 | _=>false
theorem BP.take_ok{X:Ctx}(p:BP)(k:Blk)(ps rest:List PV)(h:p.take k=some ps):(p.make (ps++rest)).2=rest∧ps.map PV.kind=p.kinds∧Wk X k (p.make (ps++rest)).1 ∧
  (p.isCells=true→(p.make (ps++rest)).1.solid=true):=by
 cases p with
 | cells l=>
  cases k<;>simp only[BP.take] at h<;>first|(cases h;done)|skip
  obtain⟨a1,a2,a3⟩:=AP.takeL_ok (X:=X) l _ ps rest h
  simp only[BP.make,a1,BP.kinds,a2,true_and]
  exact⟨.inr (.inr (.inl ⟨_,_,rfl,rfl,a3⟩)),fun _=>rfl⟩
 | big l kk n=>
  cases k<;>simp only[BP.take] at h<;>first|(cases h;done)|skip
  split at h
  ·rename_i hb;obtain⟨rfl,rfl⟩:=hb
   obtain⟨x,y,h1,h2,rfl⟩:=q32 h
   cases h2
   rename_i cs r
   obtain⟨a1,a2,a3⟩:=AP.takeL_ok (X:=X) l _ x ([.r r]++rest) h1
   simp only[List.cons_append,List.nil_append] at a1 a3
   simp only[BP.make,List.append_assoc,a1,List.cons_append,List.nil_append,BP.kinds,List.map_append,a2,List.map_cons,List.map_nil,PV.kind,true_and]
   exact⟨.inr (.inr (.inr ⟨_,_,_,_,_,rfl,rfl,a3⟩)),fun _=>rfl⟩
  ·cases h
 | vec e sh=>
  cases k<;>simp only[BP.take] at h<;>first|(cases h;done)|skip
  split at h
  ·rename_i hb;cases h;obtain⟨rfl,hb⟩:=hb;have:=Sh.beqL_eq _ _ hb;subst this;exact⟨rfl,rfl,.inr (.inl rfl),fun h=>by cases h⟩
  ·cases h
 | frz e sh=>
  cases k<;>simp only[BP.take] at h<;>first|(cases h;done)|skip
  split at h
  ·rename_i hb;cases h;obtain⟨rfl,hb⟩:=hb;have:=Sh.beqL_eq _ _ hb;subst this;exact⟨rfl,rfl,.inr (.inl rfl),fun h=>by cases h⟩
  ·cases h
 | dead=>
  have:ps=[]:=by cases k<;>simp[BP.take] at h<;>exact h
  subst this
  exact⟨rfl,rfl,.inl rfl,fun h=>by cases h⟩
theorem BP.takeL_ok{X:Ctx}:∀(p:List BP) (k:List Blk) (ps rest:List PV),BP.takeL p k=some ps→(BP.makeL p (ps++rest)).2=rest∧ps.map PV.kind=BP.kindsL p ∧
  (BP.makeL p (ps++rest)).1.length=k.length∧p.length=k.length∧∀(b:Nat) (k':Blk),(BP.makeL p (ps++rest)).1[b]?=some k'→∃k0,k[b]?=some k0∧Wk X k0 k'∧∀q:BP,p[b]?=some q→q.isCells=true→k'.solid=true
 | [],k,ps,rest,h=>by
  cases k<;>simp only[BP.takeL] at h<;>cases h
  exact⟨rfl,rfl,rfl,rfl,fun b k' hb=>by simp[BP.makeL] at hb⟩
 | p::l,k,ps,rest,h=>by
  cases k with
  | nil=>simp only[BP.takeL] at h;cases h
  | cons k ks=>
   simp only[BP.takeL] at h
   obtain⟨x,y,h1,h2,rfl⟩:=q32 h
   obtain⟨a1,a2,a3,a4⟩:=BP.take_ok (X:=X) p k x (y++rest) h1
   obtain⟨b1,b2,b3,b4,b5⟩:=BP.takeL_ok (X:=X) l ks y rest h2
   simp only[BP.makeL,List.append_assoc,a1,b1,BP.kindsL,List.map_append,a2,b2,List.length_cons,b3,b4,true_and]
   intro b k' hb
   cases b with
   | zero=>
    simp only[List.getElem?_cons_zero,Option.some.injEq] at hb
    subst hb
    exact⟨k,rfl,a3,fun q hq hc=>by simp only[List.getElem?_cons_zero,Option.some.injEq] at hq;subst hq;exact a4 hc⟩
   | succ b=>
    simp only[List.getElem?_cons_succ] at hb ⊢
    exact b5 b k' hb
def qrc(n:Nat):Nat→Option Nat:=fun b=>if Nat.blt b n then some b else none
theorem qvI{n b b':Nat}(h:qrc n b=some b'):b'=b∧b<n:=by
 unfold qrc at h
 split at h
 ·rename_i hb;cases h;exact⟨rfl,by simpa[Nat.blt_eq] using hb⟩
 ·cases h
def Ctx.cut(X:Ctx)(n:Nat):Ctx:={ X with h:=(X.h.take n).map (Blk.ren (qrc n)) }
theorem Ctx.cut_get{X:Ctx}{n b:Nat}{k:Blk}(h:(X.cut n).h[b]?=some k):b<n∧∃k0,X.h[b]?=some k0∧k=k0.ren (qrc n):=by
 have h':((X.h.take n).map (Blk.ren (qrc n)))[b]?=some k:=h
 rw[List.getElem?_map,List.getElem?_take] at h'
 split at h'
 ·rename_i hb
  refine⟨hb,?_⟩
  cases hk:X.h[b]? with
  | none=>rw[hk] at h';cases h'
  | some k0=>rw[hk] at h';exact⟨k0,rfl,(Option.some.inj h').symm⟩
 ·cases h'
theorem qsV{B:Base}{X:Ctx}(hs:HSim B X){n:Nat}(hn:B.imps.length≤n):HSim B (X.cut n)∧Move X (X.cut n) (qrc n):=by
 have hvec:∀b sh m,(X.cut n).isVec b sh m→X.isVec b sh m:=by
  intro b sh m ⟨e,l,h1,h2⟩
  refine⟨e,l,?_,h2⟩
  rcases h1 with h1|h1
  ·obtain⟨_,k0,h3,h4⟩:=Ctx.cut_get h1
   cases k0<;>simp[Blk.ren] at h4
   obtain⟨rfl,rfl,rfl⟩:=h4;exact .inl h3
  ·obtain⟨_,k0,h3,h4⟩:=Ctx.cut_get h1
   cases k0<;>simp[Blk.ren] at h4
   obtain⟨rfl,rfl,rfl⟩:=h4;exact .inr h3
 have hm:Move X (X.cut n) (qrc n):=by
  refine Move.of (fun _ h=>h) (fun _ _=>rfl) (fun b b' hb hf=>?_)
  obtain⟨rfl,hlt⟩:=qvI hf
  exact⟨by simp[Ctx.cut];omega,rfl,hvec b',fun sh m _ k hk c T fr hc=>⟨c,T,fr,hc,rfl⟩⟩
 have hown:∀b m,(X.cut n).own b m→X.own b m:=by
  intro b m ⟨h1,k,h2,h3⟩
  obtain⟨_,k0,h4,h5⟩:=Ctx.cut_get h2
  exact⟨h1,k0,h4,by rw[h5,Blk.mut_ren] at h3;exact h3⟩
 refine⟨⟨?_,fun b b' m h h'=>hs.inj b b' m (hown _ _ h) (hown _ _ h'),fun b m h=>hs.notM b m (hown _ _ h),hs.ltM,hs.M0,hs.newM,hs.os,hs.tape,hs.output,hs.size,hs.frame,hs.imps,?_,fun b m h=>hs.fresh b m (hown _ _ h),hs.kept⟩,hm⟩
 ·intro b k hk
  obtain⟨_,k0,h1,h2⟩:=Ctx.cut_get hk
  rw[h2]
  exact ju.move hm.toMove0 rfl (fun _ _=>rfl) (hs.blk b k0 h1)
 ·intro b hb
  obtain⟨cs,h1,h2⟩:=hs.impc b hb
  refine⟨cs.ren (qrc n),?_,by rw[Blk.solid_ren];exact h2⟩
  show ((X.h.take n).map (Blk.ren (qrc n)))[b]?=_
  rw[List.getElem?_map,List.getElem?_take,if_pos (by omega),h1]
  rfl
end Go.Eng

namespace Go.Eng
def Ex.beq:Ex→Ex→Bool
 | .normal,.normal=>true
 | .ret,.ret=>true
 | .exit i,.exit j=>Nat.beq i j
 | _,_=>false
theorem Ex.beq_eq{x y:Ex}(h:x.beq y=true):x=y:=by
 cases x<;>cases y<;>simp[Ex.beq] at h ⊢
 exact h
def peq:Option Ex→Option Ex→Bool
 | none,none=>true
 | some x,some y=>x.beq y
 | _,_=>false
theorem qAE{x y:Option Ex}(h:peq x y=true):x=y:=by
 cases x<;>cases y<;>simp[peq] at h ⊢
 exact Ex.beq_eq h
structure Tmpl where
 t:List AP
 h:List BP
 pro:List (Nat×TypeId×List Sh):=[]
 fs:List (List AP):=[[]]
 pend:Option Ex:=none
 sw:List (Nat×Nat):=[]
 swn:Nat:=0
 prc:List (Nat×Nat×TypeId×List Sh):=[]
def qtS:List (Nat×TypeId×List Sh)→St→St
 | [],st=>st
 | (i,e,sh)::l,st=>match st.t[i]? with
  | some .nils=>qtS l { st with t:=st.t.set i (.vec st.h.length),h:=st.h++[.vec e sh []] }
  | _=>qtS l st
def qjo:List (Nat×Nat×TypeId×List Sh)→St→St
 | [],st=>st
 | (i,off,e,sh)::l,st=>match st.t[i]? with
  | some (.ptr b _)=>(match st.h[b]? with
   | some (.cells cs)=>(match cs[off]? with
    | some .nils=>qjo l { st with h:=(st.h++[Blk.vec e sh []]).set b (.cells (cs.set off (.vec st.h.length))) }
    | _=>qjo l st)
   | _=>qjo l st)
  | _=>qjo l st
def qam(n:Nat)(h:List BP):Bool:=Nat.ble n h.length&&(h.take n).all BP.isCells
def swp(b c x:Nat):Nat:=if Nat.beq x b then c else if Nat.beq x c then b else x
def swB(b c:Nat):Nat→Option Nat:=fun x=>some (swp b c x)
def qsf(b c:Nat)(h:List Blk):List Blk:=(h.set b (h.getD c .dead)).set c (h.getD b .dead)
def St.swap(b c:Nat)(st:St):St:={ t:=AV.renL (swB b c) st.t,fs:=st.fs.map (AV.renL (swB b c)),h:=(qsf b c st.h).map (Blk.ren (swB b c)),pend:=st.pend }
def qA2:AV→Option Nat
 | .ptr b _=>some b
 | .vec b=>some b
 | _=>none
def qB3(st:St)(i:Nat):Option Nat:=match Nat.blt i 1000000 with
 | true=>(st.t[i]?).bind qA2
 | false=>match st.t[i%1000000]? with
  | some (.ptr b _)=>(match st.h[b]? with
   | some (.cells cs)=>(cs[i/1000000-1]?).bind qA2
   | _=>none)
  | _=>none
def qmi(n:Nat):List (Nat×Nat)→St→St
 | [],st=>st
 | (i,b)::l,st=>match qB3 st i with
  | some c=>(match Nat.ble n b&&Nat.ble n c&&Nat.blt b st.h.length&&Nat.blt c st.h.length&&!(Nat.beq b c) with
   | true=>qmi n l (st.swap b c)
   | false=>qmi n l st)
  | none=>qmi n l st
def Tmpl.take1(tm:Tmpl)(st:St):Option (List PV):=match peq tm.pend st.pend with
 | true=>qvv (AP.takeL tm.t (AV.renL (qrc tm.h.length) st.t)) (qvv (AP.takeLL tm.fs (st.fs.map (AV.renL (qrc tm.h.length)))) (BP.takeL tm.h ((st.h.take tm.h.length).map (Blk.ren (qrc tm.h.length)))))
 | false=>none
def Tmpl.take(tm:Tmpl)(st:St):Option (List PV):=tm.take1 (qmi tm.swn tm.sw (qjo tm.prc (qtS tm.pro st)))
def Tmpl.ok(n:Nat)(tm:Tmpl):Bool:=qam n tm.h&&(tm.sw.isEmpty||Nat.ble n tm.swn)
def Tmpl.make(tm:Tmpl)(ps:List PV):St:=let x:=AP.makeL tm.t ps;let y:=AP.makeLL tm.fs x.2;{ t:=x.1,fs:=y.1,h:=(BP.makeL tm.h y.2).1,pend:=tm.pend }
def Tmpl.kinds(tm:Tmpl):List PK:=AP.kindsL tm.t++(AP.kindsLL tm.fs++BP.kindsL tm.h)
theorem qmg{n:Nat}{h:List BP}(hc:qam n h=true):n≤h.length∧∀b,b<n→∃q,h[b]?=some q∧q.isCells=true:=by
 simp only[qam,Bool.and_eq_true,Nat.ble_eq,List.all_eq_true] at hc
 refine⟨hc.1,fun b hb=>?_⟩
 have hlt:b<h.length:=by omega
 refine⟨h[b],List.getElem?_eq_getElem hlt,hc.2 _ ?_⟩
 rw[List.mem_take_iff_getElem]
 exact⟨b,by omega,rfl⟩
theorem qkV{E:Env}{X X':Ctx}(hM:∀n,X.M n→X'.M n)(hw:X'.w=X.w)(hy:X'.y=X.y)
  (h:∀x,x∈E.glob→(∃sh l i off,x.2=.eptr sh l i off)∧qxL X x) :
  ∀x,x∈E.glob→(∃sh l i off,x.2=.eptr sh l i off)∧qxL X' x:=by
 intro x hx
 obtain⟨⟨sh,l,i,off,he⟩,hr⟩:=h x hx
 refine⟨⟨sh,l,i,off,he⟩,hr.move hM (fun _ _=>by rw[hw]) ?_⟩
 have hr:=hr.1
 rw[he] at hr ⊢
 exact hr.noMen rfl hM (fun _ _=>by rw[hw]) hy
theorem qiJ{E:Env}{B:Base}{a:Act}:∀(l:List (Nat×TypeId×List Sh)) {X:Ctx} {st:St},Sim E B X st a→∃X',X'.w=X.w∧Sim E B X' (qtS l st) a
 | [],X,st,hs=>⟨X,rfl,hs⟩
 | (i,e,sh)::l,X,st,hs=>by
  simp only[qtS]
  split
  ·rename_i hi
   have hw:=PushW.same X
   have hk:ju (X.pushW (.vec e sh []) none X.w) X.h.length (.vec e sh []):=.inl ⟨by simp[Ctx.pushW],rfl⟩
   have hs1:=HSim.push hs.hs hw hk
   have hx:=Ctx.push_ext hs.hs (.vec e sh []) hw
   have hsim:=hs.ext hx hs1
   obtain⟨v,g1,g2⟩:=hs.t.get i _ hi
   have hv:v=.slice none 0 0:=by cases g2;rfl
   subst hv
   have hrep:Rep (X.pushW (.vec e sh []) none X.w) (.vec st.h.length) (.slice none 0 0):=by
    rw[←hs.h]
    refine .vec _ _ _ _ (by simp[Ctx.pushW]) fun sh' m hv=>?_
    unfold qpN
    simp[Ctx.pushW]
   have hset:=RepL.set hrep hsim.t i
   have he:a.tmps.toList.set i (.slice none 0 0)=a.tmps.toList:=by
    apply List.ext_getElem?
    intro j
    by_cases hj:j=i
    ·subst hj;rw[List.getElem?_set_self (qk g1),g1]
    ·rw[List.getElem?_set_ne (Ne.symm hj)]
   rw[he] at hset
   obtain⟨X2,q1,q2⟩:=qiJ l (X:=X.pushW (.vec e sh []) none X.w) (st:={ st with t:=st.t.set i (.vec st.h.length),h:=st.h++[.vec e sh []] })
    ⟨hs1,by simp[Ctx.pushW,hs.h],hset,hsim.fs,hsim.glob,hsim.df,hsim.ni,hsim.y,hsim.pin⟩
   exact⟨X2,q1,q2⟩
  ·exact qiJ l hs
theorem q8B{E:Env}{B:Base}{a:Act}:∀(l:List (Nat×Nat×TypeId×List Sh)) {X:Ctx} {st:St},Sim E B X st a→∃X',X'.w=X.w∧Sim E B X' (qjo l st) a
 | [],X,st,hs=>⟨X,rfl,hs⟩
 | (i,off,e,sh)::l,X,st,hs=>by
  simp only[qjo]
  split
  ·rename_i b o hi
   split
   ·rename_i cs hb
    split
    ·rename_i hc
     have hw:=PushW.same X
     have hk:ju (X.pushW (.vec e sh []) none X.w) X.h.length (.vec e sh []):=.inl ⟨by simp[Ctx.pushW],rfl⟩
     have hs1:=HSim.push hs.hs hw hk
     have hx:=Ctx.push_ext hs.hs (.vec e sh []) hw
     have hsim:=hs.ext hx hs1
     have hbX:X.h[b]?=some (.cells cs):=by rw[hs.h];exact hb
     have hbl:=qk hbX
     obtain⟨n,c,T,g1,g2,g3⟩:=hs.hs.blk b _ hbX
     have hb1:(X.pushW (.vec e sh []) none X.w).h[b]?=some (.cells cs):=by
      show (X.h++[Blk.vec e sh []])[b]?=_
      rw[List.getElem?_append_left hbl];exact hbX
     have g1':(X.pushW (.vec e sh []) none X.w).σ b=some n:=by
      show (if b=X.h.length then none else X.σ b)=_
      rw[if_neg (by omega)];exact g1
     have g3':=g3.ext hx
     have hrep:Rep (X.pushW (.vec e sh []) none X.w) (.vec st.h.length) (.slice none 0 0):=by
      rw[←hs.h]
      refine .vec _ _ _ _ (by simp[Ctx.pushW]) fun sh' m hv=>?_
      unfold qpN
      simp[Ctx.pushW]
     obtain⟨v,k1,k2⟩:=g3'.get off _ hc
     have hv:v=.slice none 0 0:=by cases k2;rfl
     subst hv
     have hset:=RepL.set hrep g3' off
     have he:c.toList.set off (.slice none 0 0)=c.toList:=by
      apply List.ext_getElem?
      intro j
      by_cases hj:j=off
      ·subst hj;rw[List.getElem?_set_self (qk k1),k1]
      ·rw[List.getElem?_set_ne (Ne.symm hj)]
     rw[he] at hset
     have hup:UpdW (X.pushW (.vec e sh []) none X.w) n c c T X.w:=⟨g2,g2,rfl,fun _ _=>rfl,rfl,rfl,rfl,rfl⟩
     have hown:(X.pushW (.vec e sh []) none X.w).own b n:=⟨g1',_,hb1,rfl⟩
     have hx2:=Ctx.upd_ext (k':=.cells (cs.set off (.vec st.h.length))) hs1 hb1 hown hup trivial
     have hs2:=hs1.upd (k':=.cells (cs.set off (.vec st.h.length))) hb1 hown hup trivial ⟨n,c,T,g1',g2,hset.ext hx2⟩
     have hsim2:=hsim.ext hx2 hs2
     have hh:((X.pushW (.vec e sh []) none X.w).upd b (.cells (cs.set off (.vec st.h.length))) X.w).h=(st.h++[Blk.vec e sh []]).set b (.cells (cs.set off (.vec st.h.length))):=by
      show (X.h++[Blk.vec e sh []]).set b _=_
      rw[hs.h]
     obtain⟨X3,q1,q2⟩:=q8B l hsim2
     refine⟨X3,q1,?_⟩
     rw[hh] at q2
     exact q2
    ·exact q8B l hs
   ·exact q8B l hs
  ·exact q8B l hs
theorem qll(b c x:Nat):swp b c (swp b c x)=x:=by
 unfold swp
 simp only[Nat.beq_eq]
 by_cases h1:x=b
 ·subst h1
  by_cases h2:c=x
  ·simp[h2]
  ·simp[h2]
 ·by_cases h2:x=c
  ·subst h2;simp[h1]
  ·simp[h1,h2]
theorem qA5{b c x n:Nat}(hb:n≤b)(hc:n≤c):n≤swp b c x↔n≤x:=by
 unfold swp
 simp only[Nat.beq_eq]
 split
 ·rename_i h;subst h;exact⟨fun _=>hb,fun _=>hc⟩
 ·split
  ·rename_i h;subst h;exact⟨fun _=>hc,fun _=>hb⟩
  ·exact Iff.rfl
theorem qAw{b c x n:Nat}(hb:b<n)(hc:c<n):swp b c x<n↔x<n:=by
 unfold swp
 simp only[Nat.beq_eq]
 split
 ·rename_i h;subst h;exact⟨fun _=>hb,fun _=>hc⟩
 ·split
  ·rename_i h;subst h;exact⟨fun _=>hc,fun _=>hb⟩
  ·exact Iff.rfl
theorem qyu{b c x n:Nat}(hb:n≤b)(hc:n≤c)(hx:x<n):swp b c x=x:=by
 unfold swp
 simp only[Nat.beq_eq]
 rw[if_neg (by omega),if_neg (by omega)]
theorem qww{b c:Nat}{h:List Blk}(hb:b<h.length)(hc:c<h.length)(hbc:b≠c)(i:Nat):(qsf b c h)[i]?=h[swp b c i]?:=by
 have e1:h.getD c .dead=h[c]:=by simp[List.getD_eq_getElem?_getD,hc]
 have e2:h.getD b .dead=h[b]:=by simp[List.getD_eq_getElem?_getD,hb]
 unfold qsf swp
 simp only[Nat.beq_eq]
 rw[e1,e2]
 by_cases h1:i=b
 ·subst h1
  rw[if_pos rfl,List.getElem?_set_ne (Ne.symm hbc),List.getElem?_set_self hb,List.getElem?_eq_getElem hc]
 ·by_cases h2:i=c
  ·subst h2
   rw[if_neg h1,if_pos rfl,List.getElem?_set_self (by simpa using hc),List.getElem?_eq_getElem hb]
  ·rw[if_neg h1,if_neg h2,List.getElem?_set_ne (Ne.symm h2),List.getElem?_set_ne (Ne.symm h1)]
def Ctx.swap(X:Ctx)(b c:Nat):Ctx:={ X with σ:=fun x=>X.σ (swp b c x),h:=(qsf b c X.h).map (Blk.ren (swB b c)) }
theorem qv8{B:Base}{X:Ctx}(hs:HSim B X){b c:Nat}(hb:B.imps.length≤b)(hc:B.imps.length≤c)(hbl:b<X.h.length)(hcl:c<X.h.length)(hbc:b≠c) :
  HSim B (X.swap b c)∧Move X (X.swap b c) (swB b c):=by
 have hget:∀i,(X.swap b c).h[i]?=(X.h[swp b c i]?).map (Blk.ren (swB b c)):=fun i=>by
  show ((qsf b c X.h).map _)[i]?=_
  rw[List.getElem?_map,qww hbl hcl hbc]
 have hget':∀i k,(X.swap b c).h[i]?=some k→∃k0,X.h[swp b c i]?=some k0∧k=k0.ren (swB b c):=by
  intro i k h
  rw[hget] at h
  cases hk:X.h[swp b c i]? with
  | none=>rw[hk] at h;cases h
  | some k0=>rw[hk] at h;exact⟨k0,rfl,(Option.some.inj h).symm⟩
 have hσ:∀i,(X.swap b c).σ i=X.σ (swp b c i):=fun _=>rfl
 have hm:Move X (X.swap b c) (swB b c):=by
  refine Move.of (fun _ h=>h) (fun _ _=>rfl) (fun b1 b2 hb1 hf=>?_)
  have hf':b2=swp b c b1:=(Option.some.inj hf).symm
  subst hf'
  refine⟨?_,by rw[hσ,qll],fun sh m ⟨e,l,h1,h2⟩=>⟨e,l,?_,h2⟩,fun sh m _ n hn c T fr hc=>⟨c,T,fr,hc,rfl⟩⟩
  ·show _<((qsf b c X.h).map _).length
   simp only[qsf,List.length_map,List.length_set]
   exact(qAw hbl hcl).2 hb1
  ·rcases h1 with h1|h1
   ·obtain⟨k0,h3,h4⟩:=hget' _ _ h1
    rw[qll] at h3
    rcases qik (.inl h4) with rfl|rfl
    ·exact .inl h3
    ·exact .inr h3
   ·obtain⟨k0,h3,h4⟩:=hget' _ _ h1
    rw[qll] at h3
    rcases qik (.inr h4) with rfl|rfl
    ·exact .inl h3
    ·exact .inr h3
 have hown:∀i n,(X.swap b c).own i n→X.own (swp b c i) n:=by
  intro i n ⟨h1,k,h2,h3⟩
  obtain⟨k0,h4,h5⟩:=hget' i k h2
  exact⟨h1,k0,h4,by rw[h5,Blk.mut_ren] at h3;exact h3⟩
 refine⟨⟨?_,?_,fun i n h=>hs.notM _ n (hown _ _ h),hs.ltM,hs.M0,hs.newM,hs.os,hs.tape,hs.output,hs.size,hs.frame,?_,?_,?_,hs.kept⟩,hm⟩
 ·intro i k hk
  obtain⟨k0,h1,h2⟩:=hget' i k hk
  rw[h2]
  exact ju.move hm.toMove0 (hσ i) (fun _ _=>rfl) (hs.blk _ k0 h1)
 ·intro i j n h1 h2
  have:=hs.inj _ _ n (hown _ _ h1) (hown _ _ h2)
  rw[←qll b c i,this,qll]
 ·intro i hi
  rw[hσ,qyu hb hc hi];exact hs.imps i hi
 ·intro i hi
  obtain⟨k,h1,h2⟩:=hs.impc i hi
  exact⟨k.ren (swB b c),by rw[hget,qyu hb hc hi,h1];rfl,by rw[Blk.solid_ren];exact h2⟩
 ·intro i n h1 h2
  exact hs.fresh _ n (hown _ _ h1) ((qA5 hb hc).2 h2)
theorem qbd{E:Env}{B:Base}{a:Act}{n:Nat}(hn:B.imps.length≤n):∀(l:List (Nat×Nat)) {X:Ctx} {st:St},Sim E B X st a→∃X',X'.w=X.w∧Sim E B X' (qmi n l st) a
 | [],X,st,hs=>⟨X,rfl,hs⟩
 | (i,b)::l,X,st,hs=>by
  simp only[qmi]
  split
  ·rename_i c hc
   split
   ·rename_i hcond
    simp only[Bool.and_eq_true,Nat.ble_eq,Nat.blt_eq,Bool.not_eq_true'] at hcond
    obtain⟨⟨⟨⟨c1,c2⟩,c3⟩,c4⟩,c5⟩:=hcond
    have hne:b≠c:=fun e=>by subst e;simp at c5
    obtain⟨g1,g2⟩:=qv8 hs.hs (b:=b) (c:=c) (by omega) (by omega) (by rw[hs.h];exact c3) (by rw[hs.h];exact c4) hne
    obtain⟨X2,q1,q2⟩:=qbd hn l (X:=X.swap b c) (st:=st.swap b c) ⟨g1,by simp[Ctx.swap,St.swap,hs.h],hs.t.ren g2.toMove0,hs.fs.ren g2.toMove0,qkV (X:=X) (fun _ h=>h) rfl rfl hs.glob,hs.df,hs.ni,hs.y,hs.pin⟩
    exact⟨X2,q1,q2⟩
   ·exact qbd hn l hs
  ·exact qbd hn l hs
theorem Tmpl.weaken1{tm:Tmpl}{E:Env}{B:Base}{X:Ctx}{st:St}{a:Act}{ps:List PV}(hk:qam E.nimp tm.h=true)(h:tm.take1 st=some ps)(hs:Sim E B X st a) :
  ps.map PV.kind=tm.kinds∧∃X',X'.w=X.w∧Sim E B X' (tm.make ps) a:=by
 unfold Tmpl.take1 at h
 split at h
 ·rename_i hpe
  have hpe':=qAE hpe
  obtain⟨x,yz,h1,h0,rfl⟩:=q32 h
  obtain⟨y,z,h2,h3,rfl⟩:=q32 h0
  obtain⟨hc1,hc2⟩:=qmg hk
  obtain⟨c1,c2⟩:=qsV hs.hs (n:=tm.h.length) (Nat.le_trans hs.ni hc1)
  obtain⟨a1,a2,a3⟩:=AP.takeL_ok (X:=X.cut tm.h.length) _ _ x (y++z) h1
  obtain⟨d1,d2,d3⟩:=AP.takeLL_ok (X:=X.cut tm.h.length) _ _ y z h2
  obtain⟨b1,b2,b3,b4,b5⟩:=BP.takeL_ok (X:=X.cut tm.h.length) _ _ z [] h3
  have hch:(X.cut tm.h.length).h=(st.h.take tm.h.length).map (Blk.ren (qrc tm.h.length)):=by rw[←hs.h];rfl
  rw[←hch] at b3 b5
  rw[List.append_nil] at b3 b5
  obtain⟨e1,e2⟩:=qb4 c1 (h':=(BP.makeL tm.h z).1) b3 (fun b k' hb=>by obtain⟨k0,e1,e2,_⟩:=b5 b k' hb;exact⟨k0,e1,e2⟩)
   (fun b hb k' hk'=>by
    obtain⟨q,q1,q2⟩:=hc2 b (by have:=hs.ni;omega)
    obtain⟨k0,_,_,e3⟩:=b5 b k' hk'
    exact e3 q q1 q2)
  refine⟨by simp[Tmpl.kinds,a2,d2,b2],{ X.cut tm.h.length with h:=(BP.makeL tm.h z).1 },rfl,⟨e1,?_,?_,?_,?_,?_,hs.ni,hs.y,?_⟩⟩
  ·simp only[Tmpl.make,a1,d1]
  ·simp only[Tmpl.make]
   exact(a3 _ (hs.t.ren c2.toMove0)).ext e2
  ·simp only[Tmpl.make,a1]
   exact(d3 _ (hs.fs.ren c2.toMove0)).ext e2
  ·exact qkV (X:=X) (fun _ h=>h) rfl rfl hs.glob
  ·show qrE X.kept (B.pin tm.pend) a.defers
   rw[hpe'];exact hs.df
  ·show ∀p,p∈B.pin tm.pend→p∈X.kept
   rw[hpe'];exact hs.pin
 ·cases h
theorem Tmpl.weaken{tm:Tmpl}{E:Env}{B:Base}{X:Ctx}{st:St}{a:Act}{ps:List PV}(hk:tm.ok E.nimp=true)(h:tm.take st=some ps)(hs:Sim E B X st a) :
  ps.map PV.kind=tm.kinds∧∃X',X'.w=X.w∧Sim E B X' (tm.make ps) a:=by
 unfold Tmpl.ok at hk
 simp only[Bool.and_eq_true,Bool.or_eq_true,List.isEmpty_iff,Nat.ble_eq] at hk
 obtain⟨X0,h0,h2'⟩:=qiJ tm.pro hs
 obtain⟨X1,h1',h2⟩:=q8B tm.prc h2'
 have h1:=h1'.trans h0
 have:∃X',X'.w=X1.w∧Sim E B X' (qmi tm.swn tm.sw (qjo tm.prc (qtS tm.pro st))) a:=by
  rcases hk.2 with h0|h0
  ·rw[h0];exact⟨X1,rfl,h2⟩
  ·exact qbd (Nat.le_trans hs.ni h0) tm.sw h2
 obtain⟨X1',h1',h2'⟩:=this
 obtain⟨g1,X2,g2,g3⟩:=Tmpl.weaken1 hk.1 h h2'
 exact⟨g1,X2,(g2.trans h1').trans h1,g3⟩
structure Out where
 x:Ex
 tm:Tmpl
abbrev TR:=Tree (Nat×List PV)
def qzR:List Out→Nat→Ex×St→TR
 | [],_,_=>.fail
 | o::l,j,r=>match Ex.beq o.x r.1,o.tm.take r.2 with
  | true,some ps=>.leaf (j,ps)
  | _,_=>qzR l (j+1) r
def okR(R:TR):Bool:=R.run.isSome
def jR(R:TR):Nat:=match R.run with|some r=>r.1|none=>0
def pR(R:TR)(i:Nat):PV:=match R.run with|some r=>r.2.getD i (.i 0)|none=>.i 0
def gI(R:TR)(i:Nat):Int:=(pR R i).toI
def gB(R:TR)(i:Nat):Bool:=(pR R i).toB
def gS(R:TR)(i:Nat):List UInt8:=(pR R i).toS
def gR(R:TR)(i:Nat):Go.Eng.R:=(pR R i).toR
def jIs(R:TR)(j:Nat):Bool:=Nat.beq (jR R) j
def qjP(R:TR):List PK→Nat→List PV
 | [],_=>[]
 | .i::l,n=>.i (gI R n)::qjP R l (n+1)
 | .b::l,n=>.b (gB R n)::qjP R l (n+1)
 | .s::l,n=>.s (gS R n)::qjP R l (n+1)
 | .r::l,n=>.r (gR R n)::qjP R l (n+1)
theorem qgU{R:TR}{j:Nat}{ps:List PV}(hR:R.run=some (j,ps)):∀(ks:List PK) (n:Nat),(ps.drop n).map PV.kind=ks→qjP R ks n=ps.drop n
 | [],n,h=>by simp at h;simp[qjP];exact h
 | k::ks,n,h=>by
  cases hd:ps.drop n with
  | nil=>rw[hd] at h;cases h
  | cons v rest=>
   rw[hd] at h
   simp only[List.map_cons,List.cons.injEq] at h
   have hn:ps[n]?=some v:=by
    have:(ps.drop n)[0]?=some v:=by rw[hd];rfl
    rwa [List.getElem?_drop,Nat.add_zero] at this
   have hr:ps.drop (n+1)=rest:=by rw[←List.drop_drop,hd];rfl
   have ih:=qgU hR ks (n+1) (by rw[hr];exact h.2)
   have hp:pR R n=v:=by simp[pR,hR,List.getD_eq_getElem?_getD,hn]
   rw[hr] at ih
   cases v<;>simp only[PV.kind] at h<;>obtain⟨rfl,_⟩:=h<;>simp only[qjP,ih,gI,gB,gS,gR,hp,PV.toI,PV.toB,PV.toS,PV.toR]
def qAW(R:TR):List Out→Nat→Tree (Ex×St)
 | [],_=>.fail
 | o::l,j=>match l with
  | []=>.leaf (o.x,o.tm.make (qjP R o.tm.kinds 0))
  | _::_=>.br (jIs R j) (.leaf (o.x,o.tm.make (qjP R o.tm.kinds 0))) (qAW R l (j+1))
theorem qsG{R:TR}{j:Nat}{ps:List PV}(hR:R.run=some (j,ps)):∀(outs:List Out) (k:Nat) (o:Out) (r:Ex×St),k≤j→outs[j-k]?=some o→ps.map PV.kind=o.tm.kinds →
  (qAW R outs k).run=some r→r=(o.x,o.tm.make ps)
 | [],k,o,r,_,h,_,_=>by simp at h
 | o'::l,k,o,r,hk,h,hp,hr=>by
  have hj:jR R=j:=by simp[jR,hR]
  simp only[qAW] at hr
  cases l with
  | nil=>
   have:j-k=0:=by
    rcases Nat.eq_zero_or_pos (j-k) with h0|h0
    ·exact h0
    ·rw[List.getElem?_eq_none (by simp;omega)] at h;cases h
   rw[this] at h
   simp only[List.getElem?_cons_zero,Option.some.injEq] at h
   subst h
   simp only[Tree.run,Option.some.injEq] at hr
   rw[←hr,qgU hR _ 0 (by simpa using hp)];rfl
  | cons o2 l=>
   simp only[Tree.run] at hr
   by_cases hjk:j=k
   ·have hb:jIs R k=true:=by simp[jIs,hj,hjk]
    rw[hb] at hr
    simp only[Option.some.injEq] at hr
    subst hjk
    simp only[Nat.sub_self,List.getElem?_cons_zero,Option.some.injEq] at h
    subst h
    rw[←hr,qgU hR _ 0 (by simpa using hp)];rfl
   ·have hb:jIs R k=false:=by
     simp only[jIs,hj]
     cases hq:Nat.beq j k with
     | false=>rfl
     | true=>exact absurd (Nat.eq_of_beq_eq_true hq) hjk
    rw[hb] at hr
    simp only at hr
    refine qsG hR (o2::l) (k+1) o r (by omega) ?_ hp hr
    rw[show j-k=(j-(k+1))+1 by omega,List.getElem?_cons_succ] at h
    exact h
theorem qt3:∀(outs:List Out) (k:Nat) (r:Ex×St) (j:Nat) (ps:List PV),(qzR outs k r).run=some (j,ps)→k≤j∧∃o,outs[j-k]?=some o∧o.x=r.1∧o.tm.take r.2=some ps
 | [],k,r,j,ps,h=>by simp only[qzR] at h;cases h
 | o::l,k,r,j,ps,h=>by
  simp only[qzR] at h
  split at h
  ·rename_i ps' hb ht
   simp only[Tree.run,Option.some.injEq,Prod.mk.injEq] at h
   obtain⟨rfl,rfl⟩:=h
   exact⟨Nat.le_refl _,o,by simp,Ex.beq_eq hb,ht⟩
  ·obtain⟨h1,o',h2,h3,h4⟩:=qt3 l (k+1) r j ps h
   refine⟨by omega,o',?_,h3,h4⟩
   rw[show j-k=(j-(k+1))+1 by omega,List.getElem?_cons_succ]
   exact h2
def qm(tin:Tmpl)(outs:List Out)(T:List PV→TR):St→Tree (Ex×St):=fun st=>match tin.take st with
 | none=>.fail
 | some ps=>.br (okR (T ps)) (qAW (T ps) outs 0) .fail
theorem quB{tin:Tmpl}{outs:List Out}{T:List PV→TR}{st:St}{r:Ex×St}(h:(qm tin outs T st).run=some r) :
  ∃ps j qs,tin.take st=some ps∧(T ps).run=some (j,qs)∧(qAW (T ps) outs 0).run=some r:=by
 unfold qm at h
 cases ht:tin.take st with
 | none=>rw[ht] at h;cases h
 | some ps=>
  rw[ht] at h
  simp only[Tree.run] at h
  cases hr:(T ps).run with
  | none=>simp[okR,hr] at h
  | some q=>
   obtain⟨j,qs⟩:=q
   simp only[okR,hr,Option.isSome_some] at h
   exact⟨ps,j,qs,rfl,hr,h⟩
theorem qs5.env{E E':Env}(he:E.glob=E'.glob)(hn:E.nimp=E'.nimp){B:Base}{r:Ex×St}{e:Exit}{a:Act}{w:World}(h:qs5 E B r e a w):qs5 E' B r e a w:=by
 obtain⟨h1,X',h2,h3⟩:=h
 exact⟨h1,X',h2,h3.env he hn⟩
theorem qzv{ni:Nat}{outs:List Out}(h:(outs.all fun o=>o.tm.ok ni)=true){j:Nat}{o:Out}(ho:outs[j]?=some o):o.tm.ok ni=true:=
 List.all_eq_true.1 h o (List.mem_of_getElem? ho)
theorem qpl{p:Nat→Prop}(h:∃n,p n):∃n,p n∧∀m,p m→n≤m:=by
 obtain⟨n,hn⟩:=h
 induction n using Nat.strongRecOn with
 | _ n ih=>
  by_cases hlt:∃m,m<n∧p m
  ·obtain⟨m,h1,h2⟩:=hlt;exact ih m h1 h2
  ·exact⟨n,hn,fun m hm=>Nat.le_of_not_lt fun h=>hlt ⟨m,h,hm⟩⟩
open Classical in
noncomputable def qp6(p:Nat→Prop):Nat:=if h:∃n,p n then Classical.choose (qpl h) else 0
theorem qjt{p:Nat→Prop}(h:∃n,p n):p (qp6 p)∧∀m,p m→qp6 p≤m:=by
 unfold qp6
 rw[dif_pos h]
 exact Classical.choose_spec (qpl h)
def qxH(tin:Tmpl)(outs:List Out)(r:Ex×St):TR:=match r.1 with
 | .normal=>match tin.take r.2 with
  | some ps=>.leaf (0,ps)
  | none=>.fail
 | _=>qzR outs 1 r
def qih(S:List PV→TR):Nat→List PV→TR
 | 0,_=>.fail
 | n+1,ps=>(S ps).bind fun r=>match r.1 with
  | 0=>qih S n r.2
  | j+1=>.leaf (j,r.2)
theorem qwD{E:Env}{P:Program}{c:Code}{BO:Base→Prop}{ev:St→Tree (Ex×St)}(hev:∀(n0:Nat) B X st a r,BO B→Sim E B X st a→(ev st).run=some r→c.wpIn (q0q B.ro) n0 P (qs5 E B r) a X.w)
  {tin:Tmpl} {outs:List Out} {S T:List PV→TR} (hk:tin.ok E.nimp=true) (hko:(outs.all fun o=>o.tm.ok E.nimp)=true)
  (hS:∀ps r,ps.map PV.kind=tin.kinds→(S ps).run=some r→((ev (tin.make ps)).bind (qxH tin outs)).run=some r) (hT:∀ps,∃n,T ps=qih S n ps) :
  qp P E.glob E.nimp BO (.loop c) (qm tin outs T):=by
 intro E' B X st a r he hn hbo hs h nf
 obtain⟨ps,j,qs,h1,h2,h3⟩:=quB h
 obtain⟨hkd,X',hw,hs'⟩:=Tmpl.weaken hk h1 (hs.env he hn)
 obtain⟨n0,hn0⟩:=hT ps
 have hend:∀(o:Out) (X3:Ctx) (a':Act),outs[j]?=some o→qs.map PV.kind=o.tm.kinds→Sim E B X3 (o.tm.make qs) a'→qs5 E' B r o.x.out a' X3.w:=by
  intro o X3 a' q1 hkd2 hs3
  have hr:=qsG h2 outs 0 o r (Nat.zero_le _) q1 hkd2 h3
  subst hr
  exact qs5.env he.symm hn.symm ⟨rfl,X3,rfl,hs3⟩
 rw[hn0] at h2
 let I:Nat→Act→World→Prop:=fun n a' w'=>∃X1 ps1,X1.w=w'∧ps1.map PV.kind=tin.kinds∧Sim E B X1 (tin.make ps1) a'∧(qih S n ps1).run=some (j,qs)
 have key:∀a' w',(∃n,I n a' w')→c.wpIn (q0q B.ro) nf P (Exit.then (fun a'' w''=>∃n,I n a'' w''∧∀m,I m a' w'→n<m) (qs5 E' B r)) a' w':=by
  intro a' w' hex
  have hmin:=qpl hex
  obtain⟨n,⟨X1,ps1,rfl,hk1,hs1,hit⟩,hleast⟩:=hmin
  cases n with
  | zero=>simp only[qih] at hit;cases hit
  | succ n=>
   simp only[qih] at hit
   obtain⟨s,g1,g2⟩:=bind_some hit
   obtain⟨r1,g3,g4⟩:=bind_some (hS ps1 s hk1 g1)
   refine wpIn_mono (hev nf B X1 _ a' r1 hbo hs1 g3) fun e a'' w'' ⟨p1,X2,p2,p3⟩=>?_
   subst p1 p2
   obtain⟨x1,s1⟩:=r1
   have other:∀(_:(qzR outs 1 (x1,s1)).run=some s),qs5 E' B r x1.out a'' X2.w:=by
    intro hf
    obtain⟨sj,sps⟩:=s
    obtain⟨f1,o,f2,f3,f4⟩:=qt3 _ _ _ _ _ hf
    cases sj with
    | zero=>omega
    | succ sj=>
     simp only[Tree.run,Option.some.injEq,Prod.mk.injEq] at g2
     obtain⟨rfl,rfl⟩:=g2
     simp only[Nat.add_sub_cancel] at f2
     obtain⟨hkd2,X3,hw3,hs3⟩:=Tmpl.weaken (qzv hko f2) f4 p3
     have f3':o.x=x1:=f3
     rw[←f3',←hw3]
     exact hend o X3 a'' f2 hkd2 hs3
   cases x1 with
   | normal=>
    simp only[qxH] at g4
    cases htk:tin.take s1 with
    | none=>rw[htk] at g4;cases g4
    | some ps2=>
     rw[htk] at g4
     simp only[Tree.run,Option.some.injEq] at g4
     subst g4
     obtain⟨hkd2,X3,hw3,hs3⟩:=Tmpl.weaken hk htk p3
     refine⟨n,⟨X3,ps2,hw3,hkd2,hs3,g2⟩,fun m hm=>?_⟩
     have:=hleast m hm
     omega
   | exit i=>exact other g4
   | ret=>exact other g4
 rw[←hw]
 have hI0:∃n,I n a X'.w:=⟨n0,X',ps,rfl,hkd,hs',h2⟩
 refine wpIn_loop (fun a' w'=>∃n,I n a' w') (fun a' w'=>qp6 fun n=>I n a' w') hI0 fun a' w' hex=>?_
 refine wpIn_mono (key a' w' hex) fun e a'' w'' hq=>?_
 cases e with
 | normal=>
  obtain⟨n,hn1,hn2⟩:=hq
  exact⟨⟨n,hn1⟩,Nat.lt_of_le_of_lt ((qjt ⟨n,hn1⟩).2 n hn1) (hn2 _ (qjt hex).1)⟩
 | exit i=>exact hq
 | goto i=>exact hq
 | ret=>exact hq
 | panic ch=>exact hq
 | outgrown=>exact hq
end Go.Eng

namespace Go.Eng
structure FOut where
 res:AP
 h:List BP
 pro:Option (Nat×TypeId×List Sh):=none
def qzA:Nat→AV→Bool
 | i,.tuple vs=>match vs[i]? with|some .nils=>true|_=>false
 | 0,.nils=>true
 | _,_=>false
def qBf(i:Nat)(v:AV):AV→AV
 | .tuple vs=>.tuple (vs.set i v)
 | .nils=>v
 | x=>x
def qAZ(p:Option (Nat×TypeId×List Sh))(r:AV×List Blk):AV×List Blk:=match p with
 | none=>r
 | some (i,e,sh)=>match qzA i r.1 with
  | true=>(qBf i (.vec r.2.length) r.1,r.2++[.vec e sh []])
  | false=>r
def qrv(h:List Blk):Blk→Blk
 | .cells cs=>.cells (AV.lendL h cs)
 | k=>k
def qax(fz:Bool)(r:AV×List Blk):AV×List Blk:=match fz with
 | false=>r
 | true=>let h1:=ze r.2 (List.range r.2.length);(r.1.lend h1,h1.map (qrv h1))
def FOut.take1(o:FOut)(r:AV×List Blk):Option (List PV):=
 qvv (o.res.take (r.1.ren (qrc o.h.length))) (BP.takeL o.h ((r.2.take o.h.length).map (Blk.ren (qrc o.h.length))))
def FOut.take(o:FOut)(r:AV×List Blk):Option (List PV):=o.take1 (qAZ o.pro r)
def FOut.make(o:FOut)(ps:List PV):AV×List Blk:=let x:=o.res.make ps;(x.1,(BP.makeL o.h x.2).1)
def FOut.kinds(o:FOut):List PK:=o.res.kinds++BP.kindsL o.h
def qzS:List FOut→Nat→AV×List Blk→TR
 | [],_,_=>.fail
 | o::l,j,r=>match o.take r with
  | some ps=>.leaf (j,ps)
  | none=>qzS l (j+1) r
def qzQ(R:TR):List FOut→Nat→Tree (AV×List Blk)
 | [],_=>.fail
 | o::l,j=>match l with
  | []=>.leaf (o.make (qjP R o.kinds 0))
  | _::_=>.br (jIs R j) (.leaf (o.make (qjP R o.kinds 0))) (qzQ R l (j+1))
structure FIn where
 args:List AP
 h:List BP
def FIn.take(i:FIn)(args:List AV)(h:List Blk):Option (List PV):=qvv (AP.takeL i.args args) (BP.takeL i.h h)
def FIn.make(i:FIn)(ps:List PV):List AV×List Blk:=let x:=AP.makeL i.args ps;(x.1,(BP.makeL i.h x.2).1)
def FIn.kinds(i:FIn):List PK:=AP.kindsL i.args++BP.kindsL i.h
def qa(i:FIn)(outs:List FOut)(T:List PV→TR):q07:=fun args h=>match i.take args h with
 | none=>.fail
 | some ps=>.br (okR (T ps)) (qzQ (T ps) outs 0) .fail
theorem qoj{R:TR}{j:Nat}{ps:List PV}(hR:R.run=some (j,ps)):∀(outs:List FOut) (k:Nat) (o:FOut) (r:AV×List Blk),k≤j→outs[j-k]?=some o→ps.map PV.kind=o.kinds →
  (qzQ R outs k).run=some r→r=o.make ps
 | [],k,o,r,_,h,_,_=>by simp at h
 | o'::l,k,o,r,hk,h,hp,hr=>by
  have hj:jR R=j:=by simp[jR,hR]
  simp only[qzQ] at hr
  cases l with
  | nil=>
   have:j-k=0:=by
    rcases Nat.eq_zero_or_pos (j-k) with h0|h0
    ·exact h0
    ·rw[List.getElem?_eq_none (by simp;omega)] at h;cases h
   rw[this] at h
   simp only[List.getElem?_cons_zero,Option.some.injEq] at h
   subst h
   simp only[Tree.run,Option.some.injEq] at hr
   rw[←hr,qgU hR _ 0 (by simpa using hp)];rfl
  | cons o2 l=>
   simp only[Tree.run] at hr
   by_cases hjk:j=k
   ·have hb:jIs R k=true:=by simp[jIs,hj,hjk]
    rw[hb] at hr
    simp only[Option.some.injEq] at hr
    subst hjk
    simp only[Nat.sub_self,List.getElem?_cons_zero,Option.some.injEq] at h
    subst h
    rw[←hr,qgU hR _ 0 (by simpa using hp)];rfl
   ·have hb:jIs R k=false:=by
     simp only[jIs,hj]
     cases hq:Nat.beq j k with
     | false=>rfl
     | true=>exact absurd (Nat.eq_of_beq_eq_true hq) hjk
    rw[hb] at hr
    simp only at hr
    refine qoj hR (o2::l) (k+1) o r (by omega) ?_ hp hr
    rw[show j-k=(j-(k+1))+1 by omega,List.getElem?_cons_succ] at h
    exact h
theorem qtb:∀(outs:List FOut) (k:Nat) (r:AV×List Blk) (j:Nat) (ps:List PV),(qzS outs k r).run=some (j,ps)→k≤j∧∃o,outs[j-k]?=some o∧o.take r=some ps
 | [],k,r,j,ps,h=>by simp only[qzS] at h;cases h
 | o::l,k,r,j,ps,h=>by
  simp only[qzS] at h
  split at h
  ·rename_i ps' ht
   simp only[Tree.run,Option.some.injEq,Prod.mk.injEq] at h
   obtain⟨rfl,rfl⟩:=h
   exact⟨Nat.le_refl _,o,by simp,ht⟩
  ·obtain⟨h1,o',h2,h4⟩:=qtb l (k+1) r j ps h
   refine⟨by omega,o',?_,h4⟩
   rw[show j-k=(j-(k+1))+1 by omega,List.getElem?_cons_succ]
   exact h2
theorem qr0{i:FIn}{outs:List FOut}{T:List PV→TR}{args:List AV}{h:List Blk}{r:AV×List Blk}(hr:(qa i outs T args h).run=some r) :
  ∃ps j qs,i.take args h=some ps∧(T ps).run=some (j,qs)∧(qzQ (T ps) outs 0).run=some r:=by
 unfold qa at hr
 cases ht:i.take args h with
 | none=>rw[ht] at hr;cases hr
 | some ps=>
  rw[ht] at hr
  simp only[Tree.run] at hr
  cases hq:(T ps).run with
  | none=>simp[okR,hq] at hr
  | some q=>
   obtain⟨j,qs⟩:=q
   simp only[okR,hq,Option.isSome_some] at hr
   exact⟨ps,j,qs,rfl,hq,hr⟩
theorem qmt{B:Base}{X:Ctx}(hs:HSim B X)(fz:Bool){r:AV×List Blk}{v:Value}(hr:Rep X r.1 v)(hh:X.h=r.2) :
  ∃X',X'.w=X.w∧X'.h=(qax fz r).2∧HSim B X'∧Rep X' (qax fz r).1 v∧X'.y=X.y:=by
 cases fz with
 | false=>exact⟨X,rfl,hh,hs,hr,rfl⟩
 | true=>
  obtain⟨X1,f⟩:=q64 (List.range r.2.length) hs
  have hf:X1.h=ze r.2 (List.range r.2.length):=by rw[f.h,hh]
  obtain⟨d1,d2⟩:=qb4 f.hs (h':=X1.h.map (qrv X1.h)) (by simp) (fun b k' hb=>by
   rw[List.getElem?_map] at hb
   cases hk:X1.h[b]? with
   | none=>rw[hk] at hb;cases hb
   | some k0=>
    rw[hk] at hb
    simp only[Option.map_some,Option.some.injEq] at hb
    refine⟨k0,rfl,?_⟩
    cases k0 with
    | cells cs=>exact .inr (.inr (.inl ⟨cs,_,rfl,hb.symm,fun vs hv=>qaN f.hs hv⟩))
    | _=>exact .inr (.inl hb.symm)) (fun b hb k' hk'=>by
   obtain⟨cs,hc,hc2⟩:=f.hs.impc b hb
   rw[List.getElem?_map,hc] at hk'
   simp only[Option.map_some,Option.some.injEq] at hk'
   subst hk'
   cases cs<;>first|(cases hc2;done)|rfl)
  refine⟨{ X1 with h:=X1.h.map (qrv X1.h) },f.w,?_,d1,?_,f.ext.y⟩
  ·simp only[qax,hf]
  ·have:=(qt2 f.hs (hr.ext f.ext)).ext d2
   simp only[qax]
   rw[←hf]
   exact this
theorem qwM{B:Base}{X:Ctx}(hs:HSim B X)(p:Option (Nat×TypeId×List Sh)){r:AV×List Blk}{v:Value}(hr:Rep X r.1 v)(hh:X.h=r.2) :
  ∃X',X'.w=X.w∧X'.h=(qAZ p r).2∧HSim B X'∧Rep X' (qAZ p r).1 v∧X'.y=X.y:=by
 cases p with
 | none=>exact⟨X,rfl,hh,hs,hr,rfl⟩
 | some p=>
  obtain⟨i,e,sh⟩:=p
  obtain⟨a,h⟩:=r
  simp only at hr hh
  subst hh
  simp only[qAZ]
  cases hn:qzA i a with
  | false=>exact⟨X,rfl,rfl,hs,hr,rfl⟩
  | true=>
   simp only
   have hw:=PushW.same X
   have hk:ju (X.pushW (.vec e sh []) none X.w) X.h.length (.vec e sh []):=.inl ⟨by simp[Ctx.pushW],rfl⟩
   have hs1:=HSim.push hs hw hk
   have hx:=Ctx.push_ext hs (.vec e sh []) hw
   have hrep:Rep (X.pushW (.vec e sh []) none X.w) (.vec X.h.length) (.slice none 0 0):=by
    refine .vec _ _ _ _ (by simp[Ctx.pushW]) fun sh' m hv=>?_
    unfold qpN
    simp[Ctx.pushW]
   refine⟨X.pushW (.vec e sh []) none X.w,rfl,by simp[Ctx.pushW],hs1,?_,rfl⟩
   cases a with
   | nils=>
    cases hr
    exact hrep
   | tuple vs=>
    cases hr with
    | tuple _ us hu=>
     simp only[qzA] at hn
     cases hg:vs[i]? with
     | none=>rw[hg] at hn;cases hn
     | some x=>
      rw[hg] at hn
      cases x<;>first|(cases hn;done)|skip
      obtain⟨u,g1,g2⟩:=hu.get i _ hg
      have hue:u=.slice none 0 0:=by cases g2;rfl
      subst hue
      have hset:=RepL.set hrep (hu.ext hx) i
      have he:us.set i (.slice none 0 0)=us:=by
       apply List.ext_getElem?
       intro j
       by_cases hj:j=i
       ·subst hj;rw[List.getElem?_set_self (qk g1),g1]
       ·rw[List.getElem?_set_ne (Ne.symm hj)]
      rw[he] at hset
      exact .tuple _ _ hset
   | _=>cases i<;>cases hn
theorem FOut.weaken1{o:FOut}{B:Base}{X:Ctx}{r:AV×List Blk}{ps:List PV}{v:Value}(hk:qam B.imps.length o.h=true)(h:o.take1 r=some ps)(hs:HSim B X)(hr:Rep X r.1 v)(hh:X.h=r.2) :
  ps.map PV.kind=o.kinds∧∃X',X'.w=X.w∧X'.h=(o.make ps).2∧HSim B X'∧Rep X' (o.make ps).1 v∧X'.y=X.y:=by
 unfold FOut.take1 at h
 obtain⟨x,y,h1,h2,rfl⟩:=q32 h
 obtain⟨hc1,hc2⟩:=qmg hk
 obtain⟨c1,c2⟩:=qsV hs (n:=o.h.length) hc1
 obtain⟨a1,a2,a3⟩:=AP.take_ok (X:=X.cut o.h.length) _ _ x y h1
 obtain⟨b1,b2,b3,b4,b5⟩:=BP.takeL_ok (X:=X.cut o.h.length) _ _ y [] h2
 have hch:(X.cut o.h.length).h=(r.2.take o.h.length).map (Blk.ren (qrc o.h.length)):=by rw[←hh];rfl
 rw[←hch] at b3 b5
 rw[List.append_nil] at b3 b5
 obtain⟨d1,d2⟩:=qb4 c1 (h':=(BP.makeL o.h y).1) b3 (fun b k' hb=>by obtain⟨k0,e1,e2,_⟩:=b5 b k' hb;exact⟨k0,e1,e2⟩)
  (fun b hb k' hk'=>by
   obtain⟨q,q1,q2⟩:=hc2 b hb
   obtain⟨k0,_,_,e3⟩:=b5 b k' hk'
   exact e3 q q1 q2)
 refine⟨by simp[FOut.kinds,a2,b2],{ X.cut o.h.length with h:=(BP.makeL o.h y).1 },rfl,?_,d1,?_,rfl⟩
 ·simp only[FOut.make,a1]
 ·simp only[FOut.make]
  exact(a3 _ (hr.ren c2.toMove0)).ext d2
theorem FOut.weaken{o:FOut}{B:Base}{X:Ctx}{r:AV×List Blk}{ps:List PV}{v:Value}(hk:qam B.imps.length o.h=true)(h:o.take r=some ps)(hs:HSim B X)(hr:Rep X r.1 v)(hh:X.h=r.2) :
  ps.map PV.kind=o.kinds∧∃X',X'.w=X.w∧X'.h=(o.make ps).2∧HSim B X'∧Rep X' (o.make ps).1 v∧X'.y=X.y:=by
 obtain⟨X1,h1,h2,h3,h4,h5⟩:=qwM hs o.pro hr hh
 obtain⟨g1,X2,g2,g3,g4,g5,g6⟩:=FOut.weaken1 hk h h3 h4 h2
 exact⟨g1,X2,g2.trans h1,g3,g4,g5,g6.trans h5⟩
theorem qvu{E:Env}{P:Program}(hm:P.follows .mixedOrders=true)(hE:E.tok P)(hS:E.specs P)(hL:E.loopsOK P)(hb:E.bodies P){f:FuncId}{fn:Func}(hf:P.funcs[f]?=some fn)
  (hn:(fn.name == "runtime.NumGoroutine")=false) (hbd:fn.body.isNone=false) {n:Nat} {fz:Bool} {i:FIn} {outs:List FOut} {T:List PV→TR}
  (hi:i.h.length=E.nimp∧i.h.all BP.isCells=true) (ho:(outs.all fun o=>qam E.nimp o.h)=true)
  (hT:∀ps r,ps.map PV.kind=i.kinds→(T ps).run=some r→((qsK E n f fn (i.make ps).1 (i.make ps).2).bind fun q=>qzS outs 0 (qax fz q)).run=some r) :
  qX P E.glob f (qa i outs T):=by
 refine⟨uO hf hn hbd,fun B X args vargs r hs hen hgl ha h=>?_⟩
 obtain⟨ps,j,qs,h1,h2,h3⟩:=qr0 h
 unfold FIn.take at h1
 obtain⟨x,y,g1,g2,rfl⟩:=q32 h1
 obtain⟨a1,a2,a3⟩:=AP.takeL_ok (X:=X) _ _ x y g1
 obtain⟨b1,b2,b3,b4,b5⟩:=BP.takeL_ok (X:=X) _ _ y [] g2
 rw[List.append_nil] at b3 b5
 have himp:B.imps.length=X.h.length:=by rw[hen.imps];simp
 obtain⟨d1,d2⟩:=qb4 hs (h':=(BP.makeL i.h y).1) b3 (fun b k' hb=>by obtain⟨k0,e1,e2,_⟩:=b5 b k' hb;exact⟨k0,e1,e2⟩)
  (fun b hb k' hk'=>by
   obtain⟨k0,_,_,e3⟩:=b5 b k' hk'
   have hlt:b<i.h.length:=by omega
   exact e3 i.h[b] (List.getElem?_eq_getElem hlt) (List.all_eq_true.1 hi.2 _ (List.getElem_mem hlt)))
 have hkd:(x++y).map PV.kind=i.kinds:=by simp[FIn.kinds,a2,b2]
 have hgl1:q95 E.glob ({ X with h:=(BP.makeL i.h y).1 }:Ctx):=qkV (X:=X) (fun _ h=>h) rfl rfl hgl
 obtain⟨q,k1,k2⟩:=bind_some (hT _ _ hkd h2)
 have hmk:i.make (x++y)=((AP.makeL i.args (x++y)).1,(BP.makeL i.h y).1):=by simp only[FIn.make,a1]
 rw[hmk] at k1
 have hcalls:=qqc hm hE hS hL hb hf (n:=n) d1 (by omega) hgl1 ((a3 _ ha).ext d2) k1
 refine hcalls.mono fun e w' ⟨v,X',e1,e2,e3,e4,e5,e6⟩=>?_
 obtain⟨X2,p1,p2,p3,p4,p5⟩:=qmt e5 fz e3 e4
 obtain⟨_,o,q1,q2⟩:=qtb _ _ _ _ _ k2
 have hco:qam B.imps.length o.h=true:=by
  rw[himp,←b4,hi.1]
  exact List.all_eq_true.1 ho o (List.mem_of_getElem? q1)
 obtain⟨m1,X3,m2,m3,m4,m5,m6⟩:=FOut.weaken hco q2 p3 p4 p2
 have hre:=qoj h2 outs 0 o r (Nat.zero_le _) q1 m1 h3
 subst hre
 exact⟨v,X3,e1,by rw[m2,p1,e2],m5,m3,m4,(m6.trans p5).trans e6⟩
def qB4(l:List (FIn×q07)):q07:=fun args h=>match l.find? fun c=>(c.1.take args h).isSome with
 | some c=>c.2 args h
 | none=>.fail
theorem qyb{P:Program}{gl:List (Nat×AV)}{f:FuncId}{l:List (FIn×q07)}(he:qhL P f)(hl:∀c,c∈l→qX P gl f c.2):qX P gl f (qB4 l):=by
 refine⟨he,fun B X args vargs r hs hen hg ha h=>?_⟩
 unfold qB4 at h
 cases hc:l.find? fun c=>(c.1.take args X.h).isSome with
 | none=>rw[hc] at h;cases h
 | some c=>
  rw[hc] at h
  exact(hl c (List.mem_of_find?_eq_some hc)).2 B X args vargs r hs hen hg ha h
theorem qzp{P:Program}{gl:List (Nat×AV)}{f:FuncId}:∀c,c∈([]:List (FIn×q07))→qX P gl f c.2:=fun _ h=>by cases h
theorem qt1{P:Program}{gl:List (Nat×AV)}{f:FuncId}{i:FIn}{G:q07}{l:List (FIn×q07)}(h:qX P gl f G)(t:∀c,c∈l→qX P gl f c.2):∀c,c∈(i,G)::l→qX P gl f c.2:=fun c hc=>by
 rcases List.mem_cons.1 hc with rfl|hc
 ·exact h
 ·exact t c hc
end Go.Eng

namespace Go.Eng
def q4K(fn:Func):Code:=fn.body.getD .skip
def zB(fn:Func)(k:Nat):Code:=((qY (q4K fn))[k]?).getD .skip
def qhS:Code→Code
 | .loop c=>c
 | c=>c
def qBD(E:Env)(f:FuncId)(fn:Func)(k:Nat):qu7:=match zB fn k with
 | .rangeFunc _ ps a b=>qpE (jt E (q6M E 9) (q5X E) (qgb E (q6M E 9)) f a (k+1)) (jt E (q6M E 9) (q5X E) (qgb E (q6M E 9)) f b (k+1+zz a)) ps.toList
 | _=>fun _ _=>.fail
def hdl(E:Env):Option (FuncId×Func×Nat)→q4w
 | none=>q6M E 9
 | some (fc,fnc,kc)=>qxo (qBD E fc fnc kc) (q6M E 9)
def rgh(E:Env):Option (FuncId×Func×Nat)→qaW
 | none=>qgb E (q6M E 9)
 | some _=>qp7
def qiQ(E:Env)(y:Option (FuncId×Func×Nat))(f:FuncId)(fn:Func)(k:Nat)(st:St):Tree (Ex×St):=jt E (hdl E y) (q5X E) (rgh E y) f (qhS (zB fn k)) (k+1) st
def jE(E:Env)(f:FuncId)(fn:Func)(k:Nat)(tin:Tmpl)(outs:List Out)(ps:List PV):TR:=(qiQ E none f fn k (tin.make ps)).bind (qxH tin outs)
def qr3(E:Env)(y:Option (FuncId×Func×Nat))(f:FuncId)(fn:Func)(k:Nat)(tin:Tmpl)(outs:List Out)(ps:List PV):TR:=(qiQ E y f fn k (tin.make ps)).bind (qxH tin outs)
def qo(E:Env)(f:FuncId)(fn:Func)(fz:Bool)(i:FIn)(outs:List FOut)(ps:List PV):TR:=(qsK E 9 f fn (i.make ps).1 (i.make ps).2).bind fun q=>qzS outs 0 (qax fz q)
def qdW:Nat:=2^70
def ql(S:List PV→TR)(ps:List PV):TR:=qih S qdW ps
structure EnvOK (E:Env) (P:Program):Prop where
 tok:E.tok P
 specs:E.specs P
 loops:E.loopsOK P
 bodies:E.bodies P
theorem q3S{P:Program}{E:Env}(h:E.tt.map (fun x=>qpr P x.1)=E.tt.map (·.2)):E.tok P:=by
 intro x hx
 have:∀(l:List (TypeId×TI)),l.map (fun x=>qpr P x.1)=l.map (·.2)→∀x,x∈l→qpr P x.1=x.2:=by
  intro l
  induction l with
  | nil=>intro _ x hx;cases hx
  | cons y l ih=>
   intro h x hx
   simp only[List.map_cons,List.cons.injEq] at h
   rcases List.mem_cons.1 hx with rfl|hx
   ·exact h.1
   ·exact ih h.2 x hx
 exact this _ h x hx
theorem aln{α:Type}{p:α→Prop}:∀x,x∈([]:List α)→p x:=fun _ h=>by cases h
theorem alc{α:Type}{p:α→Prop}{a:α}{l:List α}(h:p a)(t:∀x,x∈l→p x):∀x,x∈a::l→p x:=fun x hx=>by
 rcases List.mem_cons.1 hx with rfl|hx
 ·exact h
 ·exact t x hx
theorem qwP {P:Program} {f:FuncId} {fn:Func} (h:P.funcs[f]?=some fn) (hn:(fn.name == "runtime.NumGoroutine")=false):P.funcs[(f,fn).1]?=some (f,fn).2∧((f,fn).2.name == "runtime.NumGoroutine")=false:=⟨h,hn⟩
theorem qz0{P:Program}{gl:List (Nat×AV)}{ni:Nat}{f k:Nat}{fn:Func}{L:St→Tree (Ex×St)}(hf:P.funcs[f]?=some fn)(hb:fn.body.isSome=true)
  (hn:((qY (q4K fn))[k]?).isSome=true) {it:List (FuncId×FuncId×Nat)} (hg:qp P gl ni (qy P it f) (zB fn k) L) :
  ∃fn' c c',P.funcs[((f,k),L).1.1]?=some fn'∧fn'.body=some c∧(qY c)[((f,k),L).1.2]?=some c'∧qp P gl ni (qy P it ((f,k),L).1.1) c' ((f,k),L).2:=by
 refine⟨fn,q4K fn,zB fn k,hf,?_,?_,hg⟩
 ·unfold q4K
  cases h:fn.body with
  | none=>rw[h] at hb;cases hb
  | some c=>rfl
 ·show (qY (q4K fn))[k]?=some (zB fn k)
  unfold zB
  cases h:(qY (q4K fn))[k]? with
  | none=>rw[h] at hn;cases hn
  | some c=>rfl
def qqx:Code→Bool
 | .loop _=>true
 | _=>false
theorem qrM{A C:List Code}(hA:∀(k:Nat) (d:Code),A[k]?=some d→∀(j:Nat) (c':Code),(qY d)[j]?=some c'→A[k+j]?=some c')(hC:∀(k:Nat) (d:Code),C[k]?=some d→∀(j:Nat) (c':Code),(qY d)[j]?=some c'→C[k+j]?=some c') :
  ∀(k:Nat) (d:Code),(A++C)[k]?=some d→∀(j:Nat) (c':Code),(qY d)[j]?=some c'→(A++C)[k+j]?=some c':=by
 intro k d hd j c' hc
 rcases Nat.lt_or_ge k A.length with h|h
 ·rw[List.getElem?_append_left h] at hd
  have:=hA k d hd j c' hc
  rw[List.getElem?_append_left (qk this)];exact this
 ·rw[List.getElem?_append_right h] at hd
  have:=hC _ d hd j c' hc
  rw[List.getElem?_append_right (by omega),show k+j-A.length=k-A.length+j by omega];exact this
theorem qod{c:Code}{l:List Code}(hc:qY c=c::l)(hl:∀(k:Nat) (d:Code),l[k]?=some d→∀(j:Nat) (c':Code),(qY d)[j]?=some c'→l[k+j]?=some c') :
  ∀(k:Nat) (d:Code),(c::l)[k]?=some d→∀(j:Nat) (c':Code),(qY d)[j]?=some c'→(c::l)[k+j]?=some c':=by
 intro k d hd j c' hj
 cases k with
 | zero=>
  simp only[List.getElem?_cons_zero,Option.some.injEq] at hd
  subst hd
  rw[hc] at hj
  simpa using hj
 | succ k=>
  simp only[List.getElem?_cons_succ] at hd
  have:=hl k d hd j c' hj
  rw[show k+1+j=(k+j)+1 by omega,List.getElem?_cons_succ];exact this
theorem qqV:∀(c:Code) (k:Nat) (d:Code),(qY c)[k]?=some d→∀(j:Nat) (c':Code),(qY d)[j]?=some c'→(qY c)[k+j]?=some c':=by
 intro c
 induction c with
 | seq a b iha ihb=>exact qod rfl (qrM iha ihb)
 | cond x a b iha ihb=>exact qrM iha ihb
 | block id c ih=>exact ih
 | scope c ih=>exact ih
 | loop c ih=>exact qod rfl ih
 | rangeFunc x ps a b iha ihb=>exact qod rfl (qrM iha ihb)
 | _=>intro k d hd;simp[qY] at hd
theorem qvH{fn:Func}{k:Nat}(h:((qY (q4K fn))[k]?).isSome=true):(qY (q4K fn))[k]?=some (zB fn k):=by
 unfold zB
 cases h':(qY (q4K fn))[k]? with
 | none=>rw[h'] at h;cases h
 | some c=>rfl
def qAd(E:Env)(P:Program)(f:FuncId):Option (FuncId×Func×Nat)→Prop
 | none=>q61 E.iter f=true
 | some (fc,fnc,kc)=>P.funcs[fc]?=some fnc∧(qnH E.iter f fc kc&&(q61 E.iter fc&&(fnc.body.isSome&&((qY (q4K fnc))[kc]?).isSome)))=true
theorem qoI{fn:Func}(h:fn.body.isSome=true):fn.body=some (q4K fn):=by
 unfold q4K
 cases hb:fn.body with
 | none=>rw[hb] at h;cases h
 | some c=>rfl
theorem qyU{E:Env}{P:Program}(hm:P.follows .mixedOrders=true)(h:EnvOK E P){f:FuncId}{y:Option (FuncId×Func×Nat)}(hy:qAd E P f y):(∀B,qy P E.iter f B→CallOK E P (hdl E y) B)∧qgt E P (rgh E y):=by
 have hcall:=qdi hm h.tok h.specs h.loops h.bodies 9
 cases y with
 | none=>exact⟨fun B _=>hcall B,qaz hm h.tok h.specs h.loops h.bodies hcall⟩
 | some y=>
  obtain⟨fc,fnc,kc⟩:=y
  obtain⟨hf,hc⟩:=hy
  simp only[Bool.and_eq_true] at hc
  obtain⟨c1,c2,c3,c4⟩:=hc
  refine⟨fun B hB=>⟨(hcall B).fn,?_⟩,qiP E P⟩
  have hfi:qeH E.iter f=some (fc,kc):=by
   unfold qnH at c1
   split at c1
   ·rename_i z hz
    simp only[Bool.and_eq_true] at c1
    rw[hz]
    obtain⟨z1,z2⟩:=z
    have e1:z1=fc:=Nat.eq_of_beq_eq_true c1.1
    have e2:z2=kc:=Nat.eq_of_beq_eq_true c1.2
    rw[e1,e2]
   ·cases c1
  obtain⟨_,hI⟩:=hB
  rw[hfi] at hI
  have hnode:=qvH c4
  have hsub:=qqV (q4K fnc) kc _ hnode
  intro args st r X a vargs hs ha hr
  simp only[hdl,qxo,qBD] at hr
  cases hn:zB fnc kc with
  | rangeFunc x ps c d=>
   rw[hn] at hr hnode hsub
   refine qth hf (qoI c3) hnode c2 (fun B X st act r hbo hs hr n=>?_) (fun B X st act r hbo hs hr n=>?_) hI args st r X a vargs hs ha hr
   ·refine q9b hm h.tok h.specs h.loops hf (qoI c3) (fun B _=>hcall B) (q9g hm h.tok h.specs h.loops h.bodies) (q5P E) (qaz hm h.tok h.specs h.loops h.bodies hcall) c (kc+1) (fun j c' hj=>?_) hbo hs hr
    have:=hsub (1+j) c' (by simp only[qY];rw[Nat.add_comm,List.getElem?_cons_succ,List.getElem?_append_left (qk hj)];exact hj)
    rw[show kc+1+j=kc+(1+j) by omega];exact this
   ·refine q9b hm h.tok h.specs h.loops hf (qoI c3) (fun B _=>hcall B) (q9g hm h.tok h.specs h.loops h.bodies) (q5P E) (qaz hm h.tok h.specs h.loops h.bodies hcall) d (kc+1+zz c) (fun j c' hj=>?_) hbo hs hr
    have:=hsub (1+zz c+j) c' (by
     simp only[qY]
     rw[show 1+zz c+j=(zz c+j)+1 by omega,List.getElem?_cons_succ,List.getElem?_append_right (by rw[uc];omega),uc]
     rw[show zz c+j-zz c=j by omega];exact hj)
    rw[show kc+1+zz c+j=kc+(1+zz c+j) by omega];exact this
  | _=>rw[hn] at hr;cases hr
theorem q62{E:Env}{P:Program}(hm:P.follows .mixedOrders=true)(h:EnvOK E P){f k:Nat}{fn:Func}(hf:P.funcs[f]?=some fn)
  (hlp:qqx (zB fn k)=true) {tin:Tmpl} {outs:List Out} {S:List PV→TR} {y:Option (FuncId×Func×Nat)} (hy:qAd E P f y)
  (hk:(tin.ok E.nimp&&outs.all fun o=>o.tm.ok E.nimp)=true)
  (hnk:(fn.body.isSome&&((qY (q4K fn))[k]?).isSome)=true)
  (hS:∀ps,S ps=qr3 E y f fn k tin outs ps):qp P E.glob E.nimp (qy P E.iter f) (zB fn k) (qm tin outs (ql S)):=by
 simp only[Bool.and_eq_true] at hk hnk
 have hnode:=qvH hnk.2
 have hsub:∀j c',(qY (qhS (zB fn k)))[j]?=some c'→(qY (q4K fn))[k+1+j]?=some c':=by
  intro j c' hj
  have:=qqV (q4K fn) k _ hnode (1+j) c' (by
   cases hn:zB fn k<;>simp[hn,qqx] at hlp
   rw[hn] at hj
   simp only[qY,qhS] at hj ⊢
   rw[Nat.add_comm,List.getElem?_cons_succ];exact hj)
  rw[show k+1+j=k+(1+j) by omega];exact this
 have hc:zB fn k=.loop (qhS (zB fn k)):=by
  cases hn:zB fn k<;>simp[hn,qqx] at hlp
  rfl
 rw[hc]
 refine qwD (ev:=qiQ E y f fn k) (S:=S) ?_ hk.1 hk.2 (fun ps r _ hr=>by rw[hS] at hr;exact hr) (fun ps=>⟨qdW,rfl⟩)
 intro n0 B X st a r hbo hs hr
 obtain⟨w1,w2⟩:=qyU hm h hy
 exact q9b hm h.tok h.specs h.loops hf (qoI hnk.1) w1 (q9g hm h.tok h.specs h.loops h.bodies) (q5P E) w2 (qhS (zB fn k)) (k+1) hsub hbo hs hr
theorem qrf{E:Env}{P:Program}(hm:P.follows .mixedOrders=true)(h:EnvOK E P){f k:Nat}{fn:Func}(hf:P.funcs[f]?=some fn)
  (hlp:qqx (zB fn k)=true) {tin:Tmpl} {outs:List Out} {S:List PV→TR} (hni:q61 E.iter f=true)
  (hk:(tin.ok E.nimp&&outs.all fun o=>o.tm.ok E.nimp)=true)
  (hnk:(fn.body.isSome&&((qY (q4K fn))[k]?).isSome)=true)
  (hS:∀ps,S ps=jE E f fn k tin outs ps):qp P E.glob E.nimp (qy P E.iter f) (zB fn k) (qm tin outs (ql S)):=
 q62 hm h hf hlp (y:=none) hni hk hnk hS
theorem qgs{E:Env}{P:Program}(hm:P.follows .mixedOrders=true)(h:EnvOK E P){f:FuncId}{fn:Func}(hf:P.funcs[f]?=some fn)
  (hn:((fn.name == "runtime.NumGoroutine")||fn.body.isNone)=false) {fz:Bool} {i:FIn} {outs:List FOut} {T:List PV→TR}
  (hk:(Nat.beq i.h.length E.nimp&&i.h.all BP.isCells&&outs.all fun o=>qam E.nimp o.h)=true)
  (hT:∀ps,T ps=qo E f fn fz i outs ps):qX P E.glob f (qa i outs T):=by
 simp only[Bool.or_eq_false_iff] at hn
 simp only[Bool.and_eq_true] at hk
 exact qvu hm h.tok h.specs h.loops h.bodies hf hn.1 hn.2 (n:=9) (fz:=fz) ⟨Nat.eq_of_beq_eq_true hk.1.1,hk.1.2⟩ hk.2 (fun ps r _ hr=>by rw[hT] at hr;exact hr)
theorem b1 {P:Program} {f:FuncId} {fn:Func} (h:P.funcs[f]?=some fn) (hn:(fn.name == "runtime.NumGoroutine")=false:=by kernel_rfl):∀x,x∈[(f,fn)]→P.funcs[x.1]?=some x.2∧(x.2.name == "runtime.NumGoroutine")=false:=alc (qwP h hn) aln
theorem bk {P:Program} {f:FuncId} {fn:Func} (h:P.funcs[f]?=some fn) (hn:(fn.name == "runtime.NumGoroutine")=false:=by kernel_rfl):P.funcs[(f,fn).1]?=some (f,fn).2∧((f,fn).2.name == "runtime.NumGoroutine")=false:=qwP h hn
theorem lk{P:Program}{gl:List (Nat×AV)}{ni:Nat}{f k:Nat}{fn:Func}{L:St→Tree (Ex×St)}(hf:P.funcs[f]?=some fn)
  {it:List (FuncId×FuncId×Nat)} (hg:qp P gl ni (qy P it f) (zB fn k) L) (hb:fn.body.isSome=true:=by kernel_rfl) (hn:((qY (q4K fn))[k]?).isSome=true:=by kernel_rfl) :
  ∃fn' c c',P.funcs[((f,k),L).1.1]?=some fn'∧fn'.body=some c∧(qY c)[((f,k),L).1.2]?=some c'∧qp P gl ni (qy P it ((f,k),L).1.1) c' ((f,k),L).2:=qz0 hf hb hn hg
theorem sk(E:Env){P:Program}(hm:P.follows .mixedOrders=true)(ht:E.tt.map (fun x=>qpr P x.1)=E.tt.map (·.2))(hs:∀x,x∈E.spec→qX P E.glob x.1 x.2)(hl:E.loopsOK P)(hb:E.bodies P){f:FuncId}{fn:Func}(hf:P.funcs[f]?=some fn)
  {i:FIn} {outs:List FOut} {T:List PV→TR} (hT:∀ps,T ps=qo E f fn true i outs ps:=by exact fun _=>rfl) (hn:((fn.name == "runtime.NumGoroutine")||fn.body.isNone)=false:=by kernel_rfl)
  (hk:(Nat.beq i.h.length E.nimp&&i.h.all BP.isCells&&outs.all fun o=>qam E.nimp o.h)=true:=by kernel_rfl) (hd:∀x,x∈E.dels→qaf P x.1 x.2:=by exact aln):qX P E.glob f (qa i outs T):=
 qgs hm ⟨q3S ht,⟨hs,hd⟩,hl,hb⟩ hf hn hk hT
theorem gk(E:Env){P:Program}(hm:P.follows .mixedOrders=true)(ht:E.tt.map (fun x=>qpr P x.1)=E.tt.map (·.2))(hs:∀x,x∈E.spec→qX P E.glob x.1 x.2)(hl:E.loopsOK P)(hb:E.bodies P){f k:Nat}{fn:Func}(hf:P.funcs[f]?=some fn)
  {tin:Tmpl} {outs:List Out} {S:List PV→TR} (hS:∀ps,S ps=jE E f fn k tin outs ps:=by exact fun _=>rfl) (hlp:qqx (zB fn k)=true:=by kernel_rfl) (hni:q61 E.iter f=true:=by kernel_rfl)
  (hk:(tin.ok E.nimp&&outs.all fun o=>o.tm.ok E.nimp)=true:=by kernel_rfl) (hnk:(fn.body.isSome&&((qY (q4K fn))[k]?).isSome)=true:=by kernel_rfl) (hd:∀x,x∈E.dels→qaf P x.1 x.2:=by exact aln) :
  qp P E.glob E.nimp (qy P E.iter f) (zB fn k) (qm tin outs (ql S)):=
 qrf hm ⟨q3S ht,⟨hs,hd⟩,hl,hb⟩ hf hlp hni hk hnk hS
end Go.Eng

namespace Go.Eng
open Go.Shelf Go.RowKit Go.Proofs Go.Sort
theorem qjB(w:World)(q:Nat)(os:Array Obj):Below w.heap.size w (grow (w.drewN q) os):=
 ⟨rfl,rfl,rfl,by simp[grow],fun i hi=>by
  show ((w.drewN q).heap++os)[i]?=_
  rw[Array.getElem?_append_left (by show i<w.heap.size;omega)]
  rfl⟩
theorem qq8(w:World)(e:TypeId)(s:ByteArray):Below w.heap.size w (Lib.bytesWorld w e s):=
 ⟨rfl,rfl,rfl,by rw[Lib.bytesWorld_size];omega,fun k hk=>Lib.bytesWorld_at_old w e s k (by omega)⟩
theorem HSim.grow{B:Base}{X:Ctx}(hs:HSim B X){w':World}(hb:Below X.w.heap.size X.w w'):HSim B { X with w:=w' }∧Ext X { X with w:=w' }:=by
 have hold:∀n (o:Obj),X.w.heap[n]?=some o→w'.heap[n]?=some o:=fun n o h=>(hb.block n (Array.getElem?_eq_some_iff.1 h).1).trans h
 have hx:Ext X { X with w:=w' }:=Move.of (fun _ h=>h) (fun a ha=>World.cell?_of_block (hb.block _ (hs.ltM _ ha))) (fun b b' hb' h=>by
  cases h
  exact⟨hb',rfl,fun _ _ h=>h,fun _ _ _ n _ c T fr h=>⟨c,T,fr,hold n _ h,rfl⟩⟩)
 refine⟨⟨fun b k hk=>?_,hs.inj,hs.notM,fun n hn=>Nat.lt_of_lt_of_le (hs.ltM n hn) hb.size,hs.M0,hs.newM,hb.os.trans hs.os,hb.tape.trans hs.tape,hb.output.trans hs.output,Nat.le_trans hs.size hb.size,
  fun n hn hni=>?_,hs.imps,hs.impc,hs.fresh,fun p hp=>?_⟩,hx⟩
 ·by_cases hd:k=.dead
  ·subst hd;trivial
  ·exact ju.ext hx rfl (fun n hn=>hb.block n (hs.lt hk hd hn)) (hs.blk b k hk)
 ·show w'.heap[n]?=_
  rw[hb.block n (Nat.lt_of_lt_of_le hn hs.size)]
  exact hs.frame n hn hni
 ·obtain⟨q1,q2,q3⟩:=hs.kept p hp
  exact⟨hold _ _ q1,q2,q3⟩
theorem qeI{P:Program}{gl:List (Nat×AV)}{f:FuncId}{i:FIn}{o:FOut}{T:List PV→TR}(he:qhL P f)(hi:i.h.all BP.isCells=true)
  (h:∀(B:Base) (X:Ctx) (ps:List PV) (j:Nat) (qs:List PV) (vargs:List Value),HSim B X→q95 gl X→X.h=(i.make ps).2→RepL X (i.make ps).1 vargs→ps.map PV.kind=i.kinds→(T ps).run=some (j,qs) →
   j=0∧qs.map PV.kind=o.kinds∧(o.make qs).2=(i.make ps).2∧Calls P f vargs.toArray X.w fun e w'=>∃v,e=.returned v∧Below X.w.heap.size X.w w'∧Rep X (o.make qs).1 v) :
  qX P gl f (qa i [o] T):=by
 refine⟨he,fun B X args vargs r hs hen hgl ha hr=>?_⟩
 obtain⟨ps,j,qs,h1,h2,h3⟩:=qr0 hr
 unfold FIn.take at h1
 obtain⟨x,y,g1,g2,rfl⟩:=q32 h1
 obtain⟨a1,a2,a3⟩:=AP.takeL_ok (X:=X) _ _ x y g1
 obtain⟨b1,b2,b3,b4,b5⟩:=BP.takeL_ok (X:=X) _ _ y [] g2
 rw[List.append_nil] at b3 b5
 have himp:B.imps.length=X.h.length:=by rw[hen.imps];simp
 obtain⟨d1,d2⟩:=qb4 hs (h':=(BP.makeL i.h y).1) b3 (fun b k' hb=>by obtain⟨k0,e1,e2,_⟩:=b5 b k' hb;exact⟨k0,e1,e2⟩)
  (fun b hb k' hk'=>by
   obtain⟨k0,_,_,e3⟩:=b5 b k' hk'
   have hlt:b<i.h.length:=by omega
   exact e3 i.h[b] (List.getElem?_eq_getElem hlt) (List.all_eq_true.1 hi _ (List.getElem_mem hlt)))
 have hkd:(x++y).map PV.kind=i.kinds:=by simp[FIn.kinds,a2,b2]
 have hgl1:q95 gl ({ X with h:=(BP.makeL i.h y).1 }:Ctx):=fun z hz=>⟨(hgl z hz).1,(hgl z hz).2.move d2.M d2.w ((hgl z hz).2.1.ext d2)⟩
 have hmk:i.make (x++y)=((AP.makeL i.args (x++y)).1,(BP.makeL i.h y).1):=by simp only[FIn.make,a1]
 obtain⟨k1,k2,k3,k4⟩:=h B _ (x++y) j qs vargs d1 hgl1 (by rw[hmk]) (by rw[hmk];exact(a3 _ ha).ext d2) hkd h2
 subst k1
 refine k4.mono fun e w' ⟨v,e1,e2,e3⟩=>?_
 obtain⟨m1,m2⟩:=d1.grow e2
 have hre:=qoj h2 [o] 0 o r (Nat.zero_le _) rfl k2 h3
 subst hre
 exact⟨v,_,e1,rfl,e3.ext m2,by rw[k3,hmk],m1,rfl⟩
theorem qtu{X:Ctx}{s:List UInt8}{vs:List Value}(h:RepL X [.str s] vs):vs=[.string ⟨s.toArray⟩]:=by
 cases h with
 | cons h t=>cases h;cases t;rfl
theorem qsR{X:Ctx}{k:IntKind}{n:Int}{vs:List Value}(h:RepL X [.int k n] vs):vs=[.int k n]:=by
 cases h with
 | cons h t=>cases h;cases t;rfl
theorem qkg{X:Ctx}{s t:List UInt8}{vs:List Value}(h:RepL X [.str s,.str t] vs):vs=[.string ⟨s.toArray⟩,.string ⟨t.toArray⟩]:=by
 cases h with
 | cons h t=>cases h;rw[qtu t]
theorem qz1{ps:List PV}(h:ps.map PV.kind=[.s]):∃s,ps=[.s s]:=by
 match ps,h with
 | [.s s],_=>exact⟨s,rfl⟩
theorem qzJ{ps:List PV}(h:ps.map PV.kind=[.i]):∃s,ps=[.i s]:=by
 match ps,h with
 | [.i s],_=>exact⟨s,rfl⟩
theorem qoh{ps:List PV}(h:ps.map PV.kind=[.s,.s]):∃s t,ps=[.s s,.s t]:=by
 match ps,h with
 | [.s s,.s t],_=>exact⟨s,t,rfl⟩
def qqj:List PV→TR
 | [.s s,.s [c]]=>.leaf (0,[.i (Lib.indexByte s c)])
 | _=>.fail
theorem qsw{P:Program}{ρ:Ren}(L:Lays.n219 P ρ)(he:qhL P (ρ.f 219)){gl:List (Nat×AV)} :
  qX P gl (ρ.f 219) (qa { args:=[.str,.str],h:=[] } [{ res:=.int .i64,h:=[] }] qqj):=
 qeI he rfl fun B X ps j qs vargs hs hg hh ha hk hT=>by
  obtain⟨s,t,rfl⟩:=qoh hk
  unfold qqj at hT
  split at hT
  ·rename_i s' c hps
   simp only[List.cons.injEq,PV.s.injEq,and_true] at hps
   obtain⟨rfl,rfl⟩:=hps
   cases hT
   have:=qkg ha
   subst this
   refine⟨rfl,rfl,rfl,(Any.stringslite_Index_one L ⟨s.toArray⟩ c X.w).mono fun e w' ⟨h1,h2⟩=>?_⟩
   subst h2
   exact⟨_,h1,Below.refl _ _,.int _ _⟩
  ·cases hT
def qkb:List PV→TR
 | [.s s,.s t]=>.leaf (0,[.i (Lib.compareBytes s t)])
 | _=>.fail
theorem qpi{P:Program}{ρ:Ren}(L:Lays.n106 P ρ)(he:qhL P (ρ.f 106)){gl:List (Nat×AV)} :
  qX P gl (ρ.f 106) (qa { args:=[.str,.str],h:=[] } [{ res:=.int .i64,h:=[] }] qkb):=
 qeI he rfl fun B X ps j qs vargs hs hg hh ha hk hT=>by
  obtain⟨s,t,rfl⟩:=qoh hk
  cases hT
  have:=qkg ha
  subst this
  refine⟨rfl,rfl,rfl,(Any.strings_Compare L ⟨s.toArray⟩ ⟨t.toArray⟩ X.w).mono fun e w' ⟨h1,h2⟩=>?_⟩
  subst h2
  exact⟨_,h1,Below.refl _ _,.int _ _⟩
def qws:List PV→TR
 | [.s s,.s t]=>if s.length≤9223372036854775807∧t.length<4294967281∧t.all (fun b=>decide (b.toNat<128))=true then .leaf (0,[.s (Lib.trimS s t)]) else .fail
 | _=>.fail
theorem qu9{P:Program}{ρ:Ren}(L:Lays.n160 P ρ)(he:qhL P (ρ.f 160))(h116:(P.info? (ρ.t 116)).map (fun i=>(i.zero,i.size))=some (some (.agg (Array.replicate 256 (.bool false))),256)){gl:List (Nat×AV)} :
  qX P gl (ρ.f 160) (qa { args:=[.str,.str],h:=[] } [{ res:=.str,h:=[] }] qws):=
 qeI he rfl fun B X ps j qs vargs hs hg hh ha hk hT=>by
  obtain⟨s,t,rfl⟩:=qoh hk
  simp only[qws] at hT
  split at hT
  ·rename_i hc
   cases hT
   have:=qkg ha
   subst this
   refine⟨rfl,rfl,rfl,(Any.strings_Trim_laid L h116 ⟨s.toArray⟩ ⟨t.toArray⟩ X.w (by simpa[ByteArray.size] using hc.1) (by simpa[ByteArray.size] using hc.2.1) (fun j b hj=>?_)).mono fun e w' ⟨h1,h2⟩=>⟨_,h1,h2,.str _⟩⟩
   have h3:=hc.2.2
   rw[List.all_eq_true] at h3
   simpa using h3 b (List.mem_of_getElem? hj)
  ·cases hT
def qys:R:=[Lib.pow10Tab.map U.i]
def qvs:List PV→TR
 | [.i n]=>if -9223372036854775808≤n∧n≤9223372036854775807 then .leaf (0,[.s (Lib.itoa n)]) else .fail
 | _=>.fail
theorem qlx{P:Program}{X:Ctx}{g:Nat}{k:IntKind}{zs:List Int}{name:String}(hn:P.globalNamed name=some g)(hz:zs≠[])
  (h:qxL X (g,.eptr (zs.map fun _=>.int k) [zs.map U.i] 0 0)):Lib.TabIs P X.w name k zs:=by
 obtain⟨h1,h2,h3⟩:=h
 simp only at h1 h2 h3
 have hcell:∀j (hj:j<zs.length),X.w.cell? ⟨g,j,none⟩=some (.int k zs[j]):=by
  intro j hj
  generalize hv:(Value.pointer (some ⟨g,0,none⟩))=vv at h1
  cases h1 with
  | eptr _ _ _ _ a hsp h0 hl hr=>
   simp only[Value.pointer.injEq,Option.some.injEq,Addr.mk.injEq] at hv
   obtain⟨v1,v2,_⟩:=hv
   obtain⟨hM,v,e1,e2⟩:=hr 0 j (by simpa using hj) (by simp)
   have ho:a.off=0:=by omega
   have e1':X.w.cell? ⟨g,j,none⟩=some v:=by
    rw[Nat.zero_mul,Nat.add_zero,ho,Nat.zero_add,←v1] at e1
    exact e1
   rw[e1']
   have e2':RepU X.w X.M (.int k) (U.i zs[j]) v:=by
    simpa[wS,List.getD_eq_getElem?_getD,hj] using e2
   cases e2'
   rfl
 unfold Lib.TabIs World.var?
 rw[hn]
 simp only[Option.bind_some]
 have h0:=hcell 0 (List.length_pos_iff.2 hz)
 unfold World.cell? at h0
 simp only at h0
 split at h0
 ·rename_i cs T fr hheap
  rw[hheap]
  simp only
  congr 1
  have hsz:cs.size≤zs.length:=by
   have h4:X.w.cell? ⟨g,zs.length,none⟩=none:=by
    simpa[AV.span] using h3
   unfold World.cell? at h4
   simp only[hheap] at h4
   simpa using h4
  apply Array.ext
  ·simp
   rcases Nat.lt_or_ge cs.size zs.length with hlt|hge
   ·have:=hcell cs.size hlt
    unfold World.cell? at this
    simp[hheap] at this
   ·omega
  ·intro j hj hj2
   have hjz:j<zs.length:=by omega
   have:=hcell j hjz
   unfold World.cell? at this
   simp only[hheap] at this
   simp[hj] at this
   simp[this]
 ·cases h0
theorem quZ {P:Program} {ρ:Ren} (L:LaysM.n171 P ρ) (he:qhL P (ρ.f 171)) {gl:List (Nat×AV)} {g:Nat} (hn:P.globalNamed "internal/strconv.uint64pow10" = some g)
  (hg:(g,AV.eptr (Lib.pow10Tab.map fun _=>.int .u64) qys 0 0)∈gl) :
  qX P gl (ρ.f 171) (qa { args:=[.int .i64],h:=[] } [{ res:=.str,h:=[] }] qvs):=
 qeI he rfl fun B X ps j qs vargs hs hgl hh ha hk hT=>by
  obtain⟨n,rfl⟩:=qzJ hk
  simp only[qvs] at hT
  split at hT
  ·rename_i hc
   cases hT
   have:=qsR ha
   subst this
   refine⟨rfl,rfl,rfl,(Any.strconv_Itoa L n hc.1 hc.2 X.w (qlx hn (by decide) (hgl _ hg).2)).mono fun e w' ⟨h1,k,os,h2⟩=>⟨_,h1,?_,.str _⟩⟩
   subst h2
   exact qjB _ _ _
  ·cases hT
def qxe:List PV→TR
 | [.s s]=>if s.length≤18 then (match Lib.atoi s with|some n=>.leaf (0,[.i n])|none=>.fail) else .fail
 | _=>.fail
theorem qux{P:Program}{ρ:Ren}(L:Lays.n172 P ρ)(he:qhL P (ρ.f 172)){gl:List (Nat×AV)} :
  qX P gl (ρ.f 172) (qa { args:=[.str],h:=[] } [{ res:=.tuple [.int .i64,.any],h:=[] }] qxe):=
 qeI he rfl fun B X ps j qs vargs hs hg hh ha hk hT=>by
  obtain⟨s,rfl⟩:=qz1 hk
  simp only[qxe] at hT
  split at hT
  ·rename_i hc
   split at hT
   ·rename_i n hn
    cases hT
    have:=qtu ha
    subst this
    refine⟨rfl,rfl,rfl,(Any.strconv_Atoi L ⟨s.toArray⟩ n (by simpa[ByteArray.size] using hc) (by simpa using hn) X.w).mono fun e w' ⟨h1,t,h2⟩=>⟨_,h1,?_,.tuple _ _ (.cons (.int _ _) (.cons (.undef _) .nil))⟩⟩
    subst h2
    exact qq8 _ _ _
   ·cases hT
  ·cases hT
def qwi(s:List UInt8):List UInt8:=qpy (qij [48,48,48,48,48,48,48,48,48] (zJ s) 9) s
def qhV(w:R):Nat→List UInt8
 | 0=>[]
 | i+1=>qwi (Lib.itoa (cI w i 0))++qhV w i
def qv3(b:Bool)(n:Int)(w:R):List UInt8:=if n=0 then [48] else (if b then [45] else [])++Lib.itoa (cI w (n-1) 0)++qhV w (n-1).toNat
def qp2(n:Int)(w:R):Bool:=decide (0≤n)&&decide (n≤232)&&(List.range n.toNat).all fun i=>decide (0≤cI w i 0∧cI w i 0<1000000000)
def qwx:List PV→TR
 | [.b b,.i n,.r w]=>if qp2 n w then .leaf (0,[.s (qv3 b n w),.b b,.i n,.r w]) else .fail
 | _=>.fail
end Go.Eng

namespace Go.Proofs
open Go.Shelf
def Tryz.lays219_ren:Go.Shelf.Ren:=⟨fun|219=>199|217=>221|225=>222|224=>223|267=>224|266=>242|314=>243|n=>n,fun|9=>9|3=>3|4=>4|5=>5|46=>268|146=>286|51=>280|n=>n,fun|1=>1|n=>n⟩
theorem Tryz.lays219:Go.Proofs.Lays.n219 Tryz.prog Tryz.lays219_ren:={
 mixed:=by kernel_rfl
 f217:=Tryz.func221.trans (congrArg some (by kernel_rfl))
 f219:=Tryz.func199.trans (congrArg some (by kernel_rfl))
 f224:=Tryz.func223.trans (congrArg some (by kernel_rfl))
 f225:=Tryz.func222.trans (congrArg some (by kernel_rfl))
 f266:=Tryz.func242.trans (congrArg some (by kernel_rfl))
 f267:=Tryz.func224.trans (congrArg some (by kernel_rfl))
 f314:=Tryz.func243.trans (congrArg some (by kernel_rfl))
 t3:=Tryz.underlying3
 a3:=Tryz.isAgg3
 z3:=Tryz.sizeOf3
 v3:=Tryz.zeroValue3
 t4:=Tryz.underlying4
 a4:=Tryz.isAgg4
 z4:=Tryz.sizeOf4
 v4:=Tryz.zeroValue4
 t5:=Tryz.underlying5
 a5:=Tryz.isAgg5
 z5:=Tryz.sizeOf5
 v5:=Tryz.zeroValue5
 t9:=Tryz.underlying9
 a9:=Tryz.isAgg9
 z9:=Tryz.sizeOf9
 v9:=Tryz.zeroValue9
 t46:=Tryz.underlying268
 a46:=Tryz.isAgg268
 z46:=Tryz.sizeOf268
 v46:=Tryz.zeroValue268
 t51:=Tryz.underlying280
 a51:=Tryz.isAgg280
 z51:=Tryz.sizeOf280
 v51:=Tryz.zeroValue280
 t146:=Tryz.underlying286
 a146:=Tryz.isAgg286
 z146:=Tryz.sizeOf286
 v146:=Tryz.zeroValue286
 g1:=by kernel_rfl }
def Tryz.lays106_ren:Go.Shelf.Ren:=⟨fun|106=>176|213=>204|265=>228|n=>n,fun|9=>9|3=>3|n=>n,fun|n=>n⟩
theorem Tryz.lays106:Go.Proofs.Lays.n106 Tryz.prog Tryz.lays106_ren:={
 mixed:=by kernel_rfl
 f106:=Tryz.func176.trans (congrArg some (by kernel_rfl))
 f213:=Tryz.func204.trans (congrArg some (by kernel_rfl))
 f265:=Tryz.func228.trans (congrArg some (by kernel_rfl))
 t3:=Tryz.underlying3
 a3:=Tryz.isAgg3
 z3:=Tryz.sizeOf3
 v3:=Tryz.zeroValue3
 t9:=Tryz.underlying9
 a9:=Tryz.isAgg9
 z9:=Tryz.sizeOf9
 v9:=Tryz.zeroValue9 }
def Tryz.lays160_ren:Go.Shelf.Ren:=⟨fun|160=>139|232=>170|231=>169|227=>171|234=>173|233=>172|236=>175|235=>174|228=>200|271=>203|151=>202|197=>201|120=>227|152=>226|260=>225|137=>244|119=>245|224=>223|225=>222|217=>221|266=>242|n=>n,fun|9=>9|4=>4|3=>3|5=>5|117=>225|116=>224|0=>0|124=>228|21=>21|105=>251|46=>268|119=>288|139=>291|138=>290|n=>n,fun|3=>3|4=>4|n=>n⟩
theorem Tryz.lays160:Go.Proofs.Lays.n160 Tryz.prog Tryz.lays160_ren:={
 mixed:=by kernel_rfl
 f119:=Tryz.func245.trans (congrArg some (by kernel_rfl))
 f120:=Tryz.func227.trans (congrArg some (by kernel_rfl))
 f137:=Tryz.func244.trans (congrArg some (by kernel_rfl))
 f151:=Tryz.func202.trans (congrArg some (by kernel_rfl))
 f152:=Tryz.func226.trans (congrArg some (by kernel_rfl))
 f160:=Tryz.func139.trans (congrArg some (by kernel_rfl))
 f197:=Tryz.func201.trans (congrArg some (by kernel_rfl))
 f217:=Tryz.func221.trans (congrArg some (by kernel_rfl))
 f224:=Tryz.func223.trans (congrArg some (by kernel_rfl))
 f225:=Tryz.func222.trans (congrArg some (by kernel_rfl))
 f227:=Tryz.func171.trans (congrArg some (by kernel_rfl))
 f228:=Tryz.func200.trans (congrArg some (by kernel_rfl))
 f231:=Tryz.func169.trans (congrArg some (by kernel_rfl))
 f232:=Tryz.func170.trans (congrArg some (by kernel_rfl))
 f233:=Tryz.func172.trans (congrArg some (by kernel_rfl))
 f234:=Tryz.func173.trans (congrArg some (by kernel_rfl))
 f235:=Tryz.func174.trans (congrArg some (by kernel_rfl))
 f236:=Tryz.func175.trans (congrArg some (by kernel_rfl))
 f260:=Tryz.func225.trans (congrArg some (by kernel_rfl))
 f266:=Tryz.func242.trans (congrArg some (by kernel_rfl))
 f271:=Tryz.func203.trans (congrArg some (by kernel_rfl))
 t0:=Tryz.underlying0
 a0:=Tryz.isAgg0
 z0:=Tryz.sizeOf0
 v0:=Tryz.zeroValue0
 t3:=Tryz.underlying3
 a3:=Tryz.isAgg3
 z3:=Tryz.sizeOf3
 v3:=Tryz.zeroValue3
 t4:=Tryz.underlying4
 a4:=Tryz.isAgg4
 z4:=Tryz.sizeOf4
 v4:=Tryz.zeroValue4
 t5:=Tryz.underlying5
 a5:=Tryz.isAgg5
 z5:=Tryz.sizeOf5
 v5:=Tryz.zeroValue5
 t9:=Tryz.underlying9
 a9:=Tryz.isAgg9
 z9:=Tryz.sizeOf9
 v9:=Tryz.zeroValue9
 t21:=Tryz.underlying21
 a21:=Tryz.isAgg21
 z21:=Tryz.sizeOf21
 v21:=Tryz.zeroValue21
 t46:=Tryz.underlying268
 a46:=Tryz.isAgg268
 z46:=Tryz.sizeOf268
 v46:=Tryz.zeroValue268
 t105:=Tryz.underlying251
 a105:=Tryz.isAgg251
 z105:=Tryz.sizeOf251
 v105:=Tryz.zeroValue251
 t116:=Tryz.underlying224
 a116:=Tryz.isAgg224
 z116:=Tryz.sizeOf224
 t117:=Tryz.underlying225
 a117:=Tryz.isAgg225
 z117:=Tryz.sizeOf225
 v117:=Tryz.zeroValue225
 t119:=Tryz.underlying288
 a119:=Tryz.isAgg288
 z119:=Tryz.sizeOf288
 t124:=Tryz.underlying228
 a124:=Tryz.isAgg228
 z124:=Tryz.sizeOf228
 v124:=Tryz.zeroValue228
 t138:=Tryz.underlying290
 a138:=Tryz.isAgg290
 z138:=Tryz.sizeOf290
 v138:=Tryz.zeroValue290
 t139:=Tryz.underlying291
 a139:=Tryz.isAgg291
 z139:=Tryz.sizeOf291
 v139:=Tryz.zeroValue291
 g3:=by kernel_rfl
 g4:=by kernel_rfl }
def Tryz.lays172_ren:Go.Shelf.Ren:=⟨fun|172=>177|244=>205|245=>206|247=>229|279=>230|280=>231|281=>232|282=>233|287=>246|316=>247|171=>122|205=>248|321=>251|322=>252|243=>151|246=>190|283=>211|284=>212|285=>213|286=>214|129=>236|317=>235|318=>237|319=>238|320=>239|337=>249|338=>250|n=>n,fun|9=>9|3=>3|75=>230|76=>231|4=>4|5=>5|167=>270|37=>238|0=>0|85=>271|2=>2|168=>273|53=>259|175=>293|46=>268|210=>296|127=>256|145=>303|143=>301|21=>21|171=>258|173=>262|212=>279|51=>280|20=>20|213=>281|232=>304|233=>305|80=>242|n=>n,fun|15=>5|16=>6|17=>2|18=>7|19=>8|n=>n⟩
theorem Tryz.lays172:Go.Proofs.Lays.n172 Tryz.prog Tryz.lays172_ren:={
 mixed:=by kernel_rfl
 f129:=Tryz.func236.trans (congrArg some (by kernel_rfl))
 f171:=Tryz.func122.trans (congrArg some (by kernel_rfl))
 f172:=Tryz.func177.trans (congrArg some (by kernel_rfl))
 f205:=Tryz.func248.trans (congrArg some (by kernel_rfl))
 f243:=Tryz.func151.trans (congrArg some (by kernel_rfl))
 f244:=Tryz.func205.trans (congrArg some (by kernel_rfl))
 f245:=Tryz.func206.trans (congrArg some (by kernel_rfl))
 f246:=Tryz.func190.trans (congrArg some (by kernel_rfl))
 f247:=Tryz.func229.trans (congrArg some (by kernel_rfl))
 f279:=Tryz.func230.trans (congrArg some (by kernel_rfl))
 f280:=Tryz.func231.trans (congrArg some (by kernel_rfl))
 f281:=Tryz.func232.trans (congrArg some (by kernel_rfl))
 f282:=Tryz.func233.trans (congrArg some (by kernel_rfl))
 f283:=Tryz.func211.trans (congrArg some (by kernel_rfl))
 f284:=Tryz.func212.trans (congrArg some (by kernel_rfl))
 f285:=Tryz.func213.trans (congrArg some (by kernel_rfl))
 f286:=Tryz.func214.trans (congrArg some (by kernel_rfl))
 f287:=Tryz.func246.trans (congrArg some (by kernel_rfl))
 f316:=Tryz.func247.trans (congrArg some (by kernel_rfl))
 f317:=Tryz.func235.trans (congrArg some (by kernel_rfl))
 f318:=Tryz.func237.trans (congrArg some (by kernel_rfl))
 f319:=Tryz.func238.trans (congrArg some (by kernel_rfl))
 f320:=Tryz.func239.trans (congrArg some (by kernel_rfl))
 f321:=Tryz.func251.trans (congrArg some (by kernel_rfl))
 f322:=Tryz.func252.trans (congrArg some (by kernel_rfl))
 f337:=Tryz.func249.trans (congrArg some (by kernel_rfl))
 f338:=Tryz.func250.trans (congrArg some (by kernel_rfl))
 t0:=Tryz.underlying0
 a0:=Tryz.isAgg0
 z0:=Tryz.sizeOf0
 v0:=Tryz.zeroValue0
 t2:=Tryz.underlying2
 a2:=Tryz.isAgg2
 z2:=Tryz.sizeOf2
 v2:=Tryz.zeroValue2
 t3:=Tryz.underlying3
 a3:=Tryz.isAgg3
 z3:=Tryz.sizeOf3
 v3:=Tryz.zeroValue3
 t4:=Tryz.underlying4
 a4:=Tryz.isAgg4
 z4:=Tryz.sizeOf4
 v4:=Tryz.zeroValue4
 t5:=Tryz.underlying5
 a5:=Tryz.isAgg5
 z5:=Tryz.sizeOf5
 v5:=Tryz.zeroValue5
 t9:=Tryz.underlying9
 a9:=Tryz.isAgg9
 z9:=Tryz.sizeOf9
 v9:=Tryz.zeroValue9
 t20:=Tryz.underlying20
 a20:=Tryz.isAgg20
 z20:=Tryz.sizeOf20
 v20:=Tryz.zeroValue20
 t21:=Tryz.underlying21
 a21:=Tryz.isAgg21
 z21:=Tryz.sizeOf21
 v21:=Tryz.zeroValue21
 t37:=Tryz.underlying238
 a37:=Tryz.isAgg238
 z37:=Tryz.sizeOf238
 v37:=Tryz.zeroValue238
 t46:=Tryz.underlying268
 a46:=Tryz.isAgg268
 z46:=Tryz.sizeOf268
 v46:=Tryz.zeroValue268
 t51:=Tryz.underlying280
 a51:=Tryz.isAgg280
 z51:=Tryz.sizeOf280
 v51:=Tryz.zeroValue280
 t53:=Tryz.underlying259
 a53:=Tryz.isAgg259
 z53:=Tryz.sizeOf259
 v53:=Tryz.zeroValue259
 t75:=Tryz.underlying230
 a75:=Tryz.isAgg230
 z75:=Tryz.sizeOf230
 v75:=Tryz.zeroValue230
 t76:=Tryz.underlying231
 a76:=Tryz.isAgg231
 z76:=Tryz.sizeOf231
 v76:=Tryz.zeroValue231
 t85:=Tryz.underlying271
 a85:=Tryz.isAgg271
 z85:=Tryz.sizeOf271
 v85:=Tryz.zeroValue271
 t127:=Tryz.underlying256
 a127:=Tryz.isAgg256
 z127:=Tryz.sizeOf256
 v127:=Tryz.zeroValue256
 t143:=Tryz.underlying301
 a143:=Tryz.isAgg301
 z143:=Tryz.sizeOf301
 v143:=Tryz.zeroValue301
 t145:=Tryz.underlying303
 a145:=Tryz.isAgg303
 z145:=Tryz.sizeOf303
 v145:=Tryz.zeroValue303
 t167:=Tryz.underlying270
 a167:=Tryz.isAgg270
 z167:=Tryz.sizeOf270
 v167:=Tryz.zeroValue270
 t168:=Tryz.underlying273
 a168:=Tryz.isAgg273
 z168:=Tryz.sizeOf273
 v168:=Tryz.zeroValue273
 t171:=Tryz.underlying258
 a171:=Tryz.isAgg258
 z171:=Tryz.sizeOf258
 v171:=Tryz.zeroValue258
 t173:=Tryz.underlying262
 a173:=Tryz.isAgg262
 z173:=Tryz.sizeOf262
 v173:=Tryz.zeroValue262
 t175:=Tryz.underlying293
 a175:=Tryz.isAgg293
 z175:=Tryz.sizeOf293
 v175:=Tryz.zeroValue293
 t210:=Tryz.underlying296
 a210:=Tryz.isAgg296
 z210:=Tryz.sizeOf296
 v210:=Tryz.zeroValue296
 t212:=Tryz.underlying279
 a212:=Tryz.isAgg279
 z212:=Tryz.sizeOf279
 v212:=Tryz.zeroValue279
 t213:=Tryz.underlying281
 a213:=Tryz.isAgg281
 z213:=Tryz.sizeOf281
 t232:=Tryz.underlying304
 a232:=Tryz.isAgg304
 z232:=Tryz.sizeOf304
 v232:=Tryz.zeroValue304
 t233:=Tryz.underlying305
 a233:=Tryz.isAgg305
 z233:=Tryz.sizeOf305
 v233:=Tryz.zeroValue305
 g15:=by kernel_rfl
 g16:=by kernel_rfl
 g17:=by kernel_rfl
 g18:=by kernel_rfl
 g19:=by kernel_rfl }
def Tryz.lays169_ren:Go.Shelf.Ren:=⟨fun|169=>184|n=>n,fun|70=>237|9=>9|0=>0|72=>240|37=>238|127=>256|3=>3|5=>5|n=>n,fun|n=>n⟩
theorem Tryz.lays169:Go.Proofs.Lays.n169 Tryz.prog Tryz.lays169_ren:={
 mixed:=by kernel_rfl
 f169:=Tryz.func184.trans (congrArg some (by kernel_rfl))
 t0:=Tryz.underlying0
 a0:=Tryz.isAgg0
 z0:=Tryz.sizeOf0
 v0:=Tryz.zeroValue0
 t3:=Tryz.underlying3
 a3:=Tryz.isAgg3
 z3:=Tryz.sizeOf3
 v3:=Tryz.zeroValue3
 t9:=Tryz.underlying9
 a9:=Tryz.isAgg9
 z9:=Tryz.sizeOf9
 v9:=Tryz.zeroValue9
 t37:=Tryz.underlying238
 a37:=Tryz.isAgg238
 z37:=Tryz.sizeOf238
 v37:=Tryz.zeroValue238
 t70:=Tryz.underlying237
 a70:=Tryz.isAgg237
 z70:=Tryz.sizeOf237
 v70:=Tryz.zeroValue237
 t72:=Tryz.underlying240
 a72:=Tryz.isAgg240
 z72:=Tryz.sizeOf240
 v72:=Tryz.zeroValue240
 t127:=Tryz.underlying256
 a127:=Tryz.isAgg256
 z127:=Tryz.sizeOf256
 v127:=Tryz.zeroValue256 }
def Tryz.laysM171_ren:Go.Shelf.Ren:=⟨fun|171=>122|243=>151|246=>190|283=>211|284=>212|285=>213|286=>214|129=>236|317=>235|318=>237|319=>238|320=>239|337=>249|338=>250|n=>n,fun|3=>3|9=>9|2=>2|4=>4|171=>258|0=>0|53=>259|37=>238|5=>5|173=>262|212=>279|51=>280|20=>20|213=>281|46=>268|232=>304|233=>305|n=>n,fun|17=>2|18=>7|19=>8|n=>n⟩
theorem Tryz.laysM171:Go.Proofs.LaysM.n171 Tryz.prog Tryz.laysM171_ren:={
 mixed:=by kernel_rfl
 f129:=Tryz.func236.trans (congrArg some (by kernel_rfl))
 f171:=Tryz.func122.trans (congrArg some (by kernel_rfl))
 f243:=Tryz.func151.trans (congrArg some (by kernel_rfl))
 f246:=Tryz.func190.trans (congrArg some (by kernel_rfl))
 f283:=Tryz.func211.trans (congrArg some (by kernel_rfl))
 f284:=Tryz.func212.trans (congrArg some (by kernel_rfl))
 f285:=Tryz.func213.trans (congrArg some (by kernel_rfl))
 f286:=Tryz.func214.trans (congrArg some (by kernel_rfl))
 f317:=Tryz.func235.trans (congrArg some (by kernel_rfl))
 f318:=Tryz.func237.trans (congrArg some (by kernel_rfl))
 f319:=Tryz.func238.trans (congrArg some (by kernel_rfl))
 f320:=Tryz.func239.trans (congrArg some (by kernel_rfl))
 f337:=Tryz.func249.trans (congrArg some (by kernel_rfl))
 f338:=Tryz.func250.trans (congrArg some (by kernel_rfl))
 t0:=Tryz.underlying0
 a0:=Tryz.isAgg0
 z0:=Tryz.sizeOf0
 v0:=Tryz.zeroValue0
 t2:=Tryz.underlying2
 a2:=Tryz.isAgg2
 z2:=Tryz.sizeOf2
 v2:=Tryz.zeroValue2
 t3:=Tryz.underlying3
 a3:=Tryz.isAgg3
 z3:=Tryz.sizeOf3
 v3:=Tryz.zeroValue3
 t4:=Tryz.underlying4
 a4:=Tryz.isAgg4
 z4:=Tryz.sizeOf4
 v4:=Tryz.zeroValue4
 t5:=Tryz.underlying5
 a5:=Tryz.isAgg5
 z5:=Tryz.sizeOf5
 v5:=Tryz.zeroValue5
 t9:=Tryz.underlying9
 a9:=Tryz.isAgg9
 z9:=Tryz.sizeOf9
 v9:=Tryz.zeroValue9
 t20:=Tryz.underlying20
 a20:=Tryz.isAgg20
 z20:=Tryz.sizeOf20
 v20:=Tryz.zeroValue20
 t37:=Tryz.underlying238
 a37:=Tryz.isAgg238
 z37:=Tryz.sizeOf238
 v37:=Tryz.zeroValue238
 t46:=Tryz.underlying268
 a46:=Tryz.isAgg268
 z46:=Tryz.sizeOf268
 v46:=Tryz.zeroValue268
 t51:=Tryz.underlying280
 a51:=Tryz.isAgg280
 z51:=Tryz.sizeOf280
 v51:=Tryz.zeroValue280
 t53:=Tryz.underlying259
 a53:=Tryz.isAgg259
 z53:=Tryz.sizeOf259
 v53:=Tryz.zeroValue259
 t171:=Tryz.underlying258
 a171:=Tryz.isAgg258
 z171:=Tryz.sizeOf258
 v171:=Tryz.zeroValue258
 t173:=Tryz.underlying262
 a173:=Tryz.isAgg262
 z173:=Tryz.sizeOf262
 v173:=Tryz.zeroValue262
 t212:=Tryz.underlying279
 a212:=Tryz.isAgg279
 z212:=Tryz.sizeOf279
 v212:=Tryz.zeroValue279
 t213:=Tryz.underlying281
 a213:=Tryz.isAgg281
 z213:=Tryz.sizeOf281
 t232:=Tryz.underlying304
 a232:=Tryz.isAgg304
 z232:=Tryz.sizeOf304
 v232:=Tryz.zeroValue304
 t233:=Tryz.underlying305
 a233:=Tryz.isAgg305
 z233:=Tryz.sizeOf305
 v233:=Tryz.zeroValue305
 g17:=by kernel_rfl
 g18:=by kernel_rfl
 g19:=by kernel_rfl
 i0:=by kernel_rfl
 i2:=by kernel_rfl
 i3:=by kernel_rfl
 i4:=by kernel_rfl
 i5:=by kernel_rfl
 i9:=by kernel_rfl
 i20:=by kernel_rfl
 i37:=by kernel_rfl
 i46:=by kernel_rfl
 i51:=by kernel_rfl
 i53:=by kernel_rfl
 i171:=by kernel_rfl
 i173:=by kernel_rfl
 i212:=by kernel_rfl
 i232:=by kernel_rfl
 i233:=by kernel_rfl
 m17:=by kernel_rfl
 m18:=by kernel_rfl
 m19:=by kernel_rfl }
end Go.Proofs

namespace Go.Eng
open Go.Shelf Go.RowKit Go.Proofs
set_option maxHeartbeats 2000000 in
set_option maxRecDepth 100000 in
theorem qxm(b:Nat)(w:World)(h0:w.cell? ⟨b,0,none⟩=some (.pointer (some ⟨b,0,none⟩))) :
  Calls Tryz.prog 208 #[.pointer (some ⟨b,0,none⟩)] w fun e w'=>e=.returned (.tuple #[])∧w'=w:=by
 obtain⟨j,hj,_⟩:=Option.map_eq_some_iff.1 (show (Tryz.prog.info? 240).map (·.size)=some 2 by kernel_rfl)
 go_enter Tryz.func208,Tryz.ntmps208
 go_wp2
 rw[Lib.run_neq_ptr_same w ⟨b,0,none⟩ Tryz.underlying237 hj]
 go_wp2
 go_end0
 exact⟨rfl,rfl⟩
set_option maxHeartbeats 2000000 in
set_option maxRecDepth 100000 in
theorem qw9(b:Nat)(w:World)(h0:w.cell? ⟨b,0,none⟩=some (.pointer none))(hsh:w.shape? b=some (240,2))(hfz:w.frozen? ⟨b,0,none⟩=false) :
  Calls Tryz.prog 208 #[.pointer (some ⟨b,0,none⟩)] w fun e w'=>e=.returned (.tuple #[])∧w'=w.setCell ⟨b,0,none⟩ (.pointer (some ⟨b,0,none⟩)):=by
 obtain⟨j,hj,hjs⟩:=Option.map_eq_some_iff.1 (show (Tryz.prog.info? 240).map (·.size)=some 2 by kernel_rfl)
 go_enter Tryz.func208,Tryz.ntmps208
 go_wp2
 rw[Lib.run_to_unsafe w ⟨b,0,none⟩ Tryz.underlying237 Tryz.underlying276 hj (by rw[hjs];decide) hsh (Nat.zero_lt_succ 1)]
 simp only[Result.andThen]
 rw[Oper.upon_value]
 go_wp2
 rw[run_callFunc_extern Tryz.func234 (by kernel_rfl) (by kernel_rfl) (by kernel_rfl) (e:=Extern.AbiNoEscape.same) (by kernel_rfl)]
 rw[Lib.run_noEscape]
 simp only[Result.andThen]
 rw[Oper.upon_value]
 go_wp2
 rw[Lib.run_from_unsafe w ⟨b,0,none⟩ Tryz.underlying276 Tryz.underlying237 hj hsh (by kernel_rfl)]
 simp only[Result.andThen]
 rw[Oper.upon_value]
 go_wp2
 go_end0
 exact⟨rfl,rfl⟩
abbrev BtB(B b:Nat)(bs:List Value)(w:World):Prop:=Lib.IsBuilder 240 5 B b bs w
set_option maxHeartbeats 2000000 in
set_option maxRecDepth 100000 in
theorem qpC(B b:Nat)(bs:List Value)(w:World)(h:BtB B b bs w) :
  Calls Tryz.prog 208 #[.pointer (some ⟨b,0,none⟩)] w fun e w'=>e=.returned (.tuple #[])∧Lib.BuilderAt 240 5 B b (.pointer (some ⟨b,0,none⟩)) bs w'∧Below B w w':=by
 rcases h with h|h
 ·refine(qw9 b w h.cell0 h.shape h.frozen0).mono ?_
  rintro e w' ⟨rfl,rfl⟩
  exact⟨rfl,h.used _,(Below.refl B w).setCell (p:=⟨b,0,none⟩) h.1 _⟩
 ·refine(qxm b w h.cell0).mono ?_
  rintro e w' ⟨rfl,rfl⟩
  exact⟨rfl,h,Below.refl B _⟩
set_option maxHeartbeats 2000000 in
set_option maxRecDepth 100000 in
theorem qxC(B b:Nat)(bs:List Value)(c:Int)(w:World)(h:BtB B b bs w)(hlen:bs.length+1≤140737488355328)(hBw:B≤w.heap.size) :
  Calls Tryz.prog 182 #[.pointer (some ⟨b,0,none⟩),.int .u8 c] w fun e w'=>e=.returned .nilIface∧BtB B b (bs++[.int .u8 c]) w'∧Below B w w':=by
 obtain⟨i0,hi,hz0,hz1,hz2⟩:=info_parts (show (Tryz.prog.info? 5).map (fun i=>(i.zero,i.size,i.bytes))=some (some (.int .u8 0),1,1) by kernel_rfl)
 go_enter Tryz.func182,Tryz.ntmps182
 go_wp2_with (go_at_call 208;refine(qpC B b bs _ h).mono ?_)
 rintro e w1 ⟨rfl,h1,hb1⟩
 obtain⟨hB,v,hbk,hown,hne⟩:=h1
 have c0:w1.cell? ⟨b,0,none⟩=some (.pointer (some ⟨b,0,none⟩)):=by rw[Lib.cell_of_heap hbk];rfl
 have c1:w1.cell? ⟨b,1,none⟩=some v:=by rw[Lib.cell_of_heap hbk];rfl
 have hsz1:=hb1.size
 go_wp2_with (at_builtin;refine wpList_append_own _ rfl _ _ 238 rfl B 5 i0 (.int .u8 0) 1 1 Tryz.underlying238 hi hz0 hz1 hz2 rfl (by decide) _ _ _ rfl (hown.alloc _) ⟨w1.heap.size,0,none⟩ 1 1 [.int .u8 c] rfl rfl ?c1 ?c2 ?c3 ?c4 ?c5 ?_)
 case c1=>
  intro j u hj
  match j,hj with
  | 0,hj=>simp at hj;subst hj;simp[Addr.add]
 case c2=>intro u hu;simp at hu;subst hu;rfl
 case c3=>unfold maxLen;omega
 case c4=>omega
 case c5=>simp;omega
 intro v' w2 hown' hgrow _
 have hlt:b<w1.heap.size:=by
  rcases Nat.lt_or_ge b w1.heap.size with h'|h'
  ·exact h'
  ·simp[Array.getElem?_eq_none h'] at hbk
 have hb2:w2.heap[b]?=some (.cells #[.pointer (some ⟨b,0,none⟩),v] 240 (0,0)):=by
  rw[hgrow.block b (by simp;omega) (fun e=>hne e.symm),Lib.alloc_old w1 _ b hlt]
  exact hbk
 have d0:w2.cell? ⟨b,0,none⟩=some (.pointer (some ⟨b,0,none⟩)):=by rw[Lib.cell_of_heap hb2];rfl
 have d1:w2.cell? ⟨b,1,none⟩=some v:=by rw[Lib.cell_of_heap hb2];rfl
 have f1:w2.frozen? ⟨b,1,none⟩=false:=Lib.frozen_of_heap hb2 1
 obtain⟨ao,n',cap,rfl⟩:∃ao n' cap,v'=.slice ao n' cap:=by
  rcases hown'.2 with⟨hv,_⟩|⟨g,cap,cur,hv,_⟩
  ·exact⟨_,_,_,hv⟩
  ·exact⟨_,_,_,hv⟩
 go_wp2
 go_ret
 refine⟨rfl,.inr ?_,?_⟩
 ·exact Lib.BuilderAt.put (T:=240) (e:=5) hB hb2 (bs':=bs++[.int .u8 c]) (by simpa using hown') (by decide)
 ·exact((hb1.alloc (by omega) _).grown hgrow (by simp;omega) (fun k hk=>(hown.lt k hk).1)).setCell (p:=⟨b,1,none⟩) hB _
set_option maxHeartbeats 2000000 in
set_option maxRecDepth 100000 in
theorem qvo(B b:Nat)(bs:List Value)(s:ByteArray)(w:World)(h:BtB B b bs w)(hlen:bs.length+s.size≤140737488355328)(hBw:B≤w.heap.size) :
  Calls Tryz.prog 183 #[.pointer (some ⟨b,0,none⟩),.string s] w fun e w'=>e=.returned (.tuple #[.int .i64 s.size,.nilIface])∧BtB B b (bs++Lib.strCells s) w'∧Below B w w':=by
 obtain⟨i0,hi,hz0,hz1,hz2⟩:=info_parts (show (Tryz.prog.info? 5).map (fun i=>(i.zero,i.size,i.bytes))=some (some (.int .u8 0),1,1) by kernel_rfl)
 go_enter Tryz.func183,Tryz.ntmps183
 go_wp2_with (go_at_call 208;refine(qpC B b bs _ h).mono ?_)
 rintro e w1 ⟨rfl,h1,hb1⟩
 obtain⟨hB,v,hbk,hown,hne⟩:=h1
 have c0:w1.cell? ⟨b,0,none⟩=some (.pointer (some ⟨b,0,none⟩)):=by rw[Lib.cell_of_heap hbk];rfl
 have c1:w1.cell? ⟨b,1,none⟩=some v:=by rw[Lib.cell_of_heap hbk];rfl
 have hsz1:=hb1.size
 go_wp2_with (at_builtin;refine Lib.wpList_append_own_string _ rfl _ _ 238 9 rfl B 5 i0 Tryz.underlying238 Tryz.underlying9 hi hz0 hz1 hz2 _ _ _ rfl hown s rfl ?c3 ?c4 ?c5 ?_)
 case c3=>unfold maxLen;omega
 case c4=>omega
 case c5=>omega
 intro v' w2 hown' hgrow _
 have hlt:b<w1.heap.size:=by
  rcases Nat.lt_or_ge b w1.heap.size with h'|h'
  ·exact h'
  ·simp[Array.getElem?_eq_none h'] at hbk
 have hb2:w2.heap[b]?=some (.cells #[.pointer (some ⟨b,0,none⟩),v] 240 (0,0)):=by
  rw[hgrow.block b hlt (fun e=>hne e.symm)]
  exact hbk
 have d0:w2.cell? ⟨b,0,none⟩=some (.pointer (some ⟨b,0,none⟩)):=by rw[Lib.cell_of_heap hb2];rfl
 have d1:w2.cell? ⟨b,1,none⟩=some v:=by rw[Lib.cell_of_heap hb2];rfl
 have f1:w2.frozen? ⟨b,1,none⟩=false:=Lib.frozen_of_heap hb2 1
 obtain⟨ao,n',cap,rfl⟩:∃ao n' cap,v'=.slice ao n' cap:=by
  rcases hown'.2 with⟨hv,_⟩|⟨g,cap,cur,hv,_⟩
  ·exact⟨_,_,_,hv⟩
  ·exact⟨_,_,_,hv⟩
 go_wp2
 go_ret2
 refine⟨rfl,.inr ?_,?_⟩
 ·exact Lib.BuilderAt.put (T:=240) (e:=5) hB hb2 (bs':=bs++Lib.strCells s) (by simpa[Lib.strCells_length] using hown') (by decide)
 ·exact(hb1.grown hgrow (by omega) (fun k hk=>(hown.lt k hk).1)).setCell (p:=⟨b,1,none⟩) hB _
theorem qw8:Builder.Extra Tryz.prog Tryz.lays169_ren where
 sizeBuilder:=by kernel_rfl
 liesBuilder:=by kernel_rfl
 t5:=Tryz.underlying5
 a5:=Tryz.isAgg5
 z5:=Tryz.sizeOf5
 v5:=Tryz.zeroValue5
 infoByte:=by kernel_rfl
 cellsByte:=by kernel_rfl
 sizeByte:=by kernel_rfl
 neB5:=by decide
set_option maxHeartbeats 2000000 in
set_option maxRecDepth 100000 in
theorem quR(B b:Nat)(l:List UInt8)(w:World)(h:BtB B b (Lib.byteCells l) w)(h0:l≠[]) :
  Calls Tryz.prog 184 #[.pointer (some ⟨b,0,none⟩)] w fun e w'=>e=.returned (.string ⟨l.toArray⟩)∧Below B w w':=
 Any.Builder_String Tryz.lays169 qw8 B b l w h h0
def qht(f:Nat→Int):Nat→List UInt8
 | 0=>[]
 | i+1=>qwi (Lib.itoa (f i))++qht f i
def qsL(b:Bool)(n:Nat)(f:Nat→Int):List UInt8:=if n=0 then [48] else (if b then [45] else [])++Lib.itoa (f (n-1))++qht f (n-1)
theorem qto (n:Int) (h:-9223372036854775808≤n∧n≤9223372036854775807) (w:World) (ht:Lib.TabIs Tryz.prog w "internal/strconv.uint64pow10" .u64 Lib.pow10Tab) :
  Calls Tryz.prog 122 #[.int .i64 n] w fun e w'=>e=.returned (.string ⟨(Lib.itoa n).toArray⟩)∧Below w.heap.size w w':=
 (Any.strconv_Itoa Tryz.laysM171 n h.1 h.2 w ht).mono fun e w' ⟨h1,k,os,h2⟩=>⟨h1,by subst h2;exact qjB _ _ _⟩
theorem qkX{P:Program}{w w':World}{name:String}{k:IntKind}{zs:List Int}(h:Lib.TabIs P w name k zs)(hb:Below w.heap.size w w'):Lib.TabIs P w' name k zs:=by
 unfold Lib.TabIs World.var? at *
 cases hg:P.globalNamed name with
 | none=>rw[hg] at h;cases h
 | some g=>
  rw[hg] at h
  simp only[Option.bind_some] at h ⊢
  by_cases hlt:g<w.heap.size
  ·rw[hb.block g hlt];exact h
  ·rw[Array.getElem?_eq_none (by omega)] at h;cases h
theorem qeA{w w':World}(hb:Below w.heap.size w w'){n:Nat}(hn:n<w.heap.size)(o:Nat):w'.cell? ⟨n,o,none⟩=w.cell? ⟨n,o,none⟩:=World.cell?_of_block (hb.block n hn)
theorem qqw{B b:Nat}{bs:List Value}{w w':World}(h:BtB B b bs w)(hb:Below w.heap.size w w'):BtB B b bs w':=by
 have key:∀p,Lib.BuilderAt 240 5 B b p bs w→Lib.BuilderAt 240 5 B b p bs w':=by
  intro p h
  have hlt:=h.lt
  obtain⟨hB,v,hbk,⟨hl,hown⟩,hne⟩:=h
  refine⟨hB,v,(hb.block b hlt).trans hbk,⟨hl,?_⟩,hne⟩
  rcases hown with h|⟨g,cap,cur,h1,h2,h3,h4⟩
  ·exact .inl h
  ·exact .inr ⟨g,cap,cur,h1,h2,(hb.block g (Array.getElem?_eq_some_iff.1 h3).1).trans h3,h4⟩
 exact h.elim (fun x=>.inl (key _ x)) (fun x=>.inr (key _ x))
theorem qyh{B b:Nat}{bs:List Value}{w:World}(h:BtB B b bs w):BtB B b bs w.drew:=h.elim (fun x=>.inl x.drew) (fun x=>.inr x.drew)
theorem qwE:∀(k n:Nat),n<10^(k+1)→(Lib.decDigits n).length≤k+1
 | 0,n,h=>by rw[Lib.decDigits,dif_pos (by omega)];simp
 | k+1,n,h=>by
  rw[Lib.decDigits]
  split
  ·simp
  ·have:=qwE k (n/10) (by rw[Nat.pow_succ] at h;omega)
   simp;omega
theorem qyl{pre l:List UInt8}{k:Nat}(hp:pre.length≤k)(hl:l.length≤9)(hk:k≤100000:=by omega):(Lib.byteCells pre).length+(⟨l.toArray⟩:ByteArray).size≤140737488355328:=by
 rw[Lib.byteCells_length]
 have:(⟨l.toArray⟩:ByteArray).size=l.length:=by simp[ByteArray.size]
 omega
theorem qsU{x:Int}(h:0≤x∧x<1000000000):(Lib.itoa x).length≤9:=by
 unfold Lib.itoa
 rw[if_neg (by omega)]
 exact qwE 8 _ (by omega)
theorem qtE{l:List UInt8}(h:l.length≤9):(qwi l).length=9:=by
 unfold qwi qpy qij zJ
 simp;omega
theorem qv6{l:List UInt8}(h:l.length≤9):(⟨#[48,48,48,48,48,48,48,48,48]⟩:ByteArray).extract l.length 9++⟨l.toArray⟩=⟨(qwi l).toArray⟩:=by
 have key:∀k:Nat,k≤9→(⟨#[48,48,48,48,48,48,48,48,48]⟩:ByteArray).extract k 9=⟨(qij [48,48,48,48,48,48,48,48,48] (k:Int) 9).toArray⟩:=by
  intro k hk
  have:k=0∨k=1∨k=2∨k=3∨k=4∨k=5∨k=6∨k=7∨k=8∨k=9:=by omega
  rcases this with rfl|rfl|rfl|rfl|rfl|rfl|rfl|rfl|rfl|rfl<;>rfl
 rw[key _ h]
 unfold qwi qpy zJ
 apply ByteArray.ext
 simp
theorem qvT(l:List UInt8):Lib.strCells ⟨l.toArray⟩=Lib.byteCells l:=rfl
theorem qxK(x:Int):0<(Lib.itoa x).length:=by
 unfold Lib.itoa
 split
 ·simp
 ·rw[Lib.decDigits];split<;>simp
set_option maxHeartbeats 4000000 in
set_option maxRecDepth 1000000 in
theorem qyf(n0:Nat)(b:Bool)(n:Nat)(f:Nat→Int)(w:World)(hlt:n0<w.heap.size)(h0:w.cell? ⟨n0,0,none⟩=some (.bool b))(h1:w.cell? ⟨n0,1,none⟩=some (.int .i64 (n:Int)))(hw:∀i,i<232→w.cell? ⟨n0,2+i,none⟩=some (.int .i64 (f i)))
  (hn:n≤232) (hf:∀i,i<n→0≤f i∧f i<1000000000) (ht:Lib.TabIs Tryz.prog w "internal/strconv.uint64pow10" .u64 Lib.pow10Tab) :
  Calls Tryz.prog 145 #[.pointer (some ⟨n0,0,none⟩)] w fun e w'=>e=.returned (.string ⟨(qsL b n f).toArray⟩)∧Below w.heap.size w w':=by
 rcases Nat.eq_zero_or_pos n with rfl|hpos
 ·go_enter Tryz.func145,Tryz.ntmps145
  go_wp2
  go_ret
  exact⟨rfl,Below.refl _ _⟩
 obtain⟨m,rfl⟩:∃m,n=m+1:=⟨n-1,by omega⟩
 have hne:(((m+1:Nat):Int)==0)=false:=by simp;omega
 have w1:IntKind.i64.wrap (((m+1:Nat):Int)-1)=(m:Int):=by unfold IntKind.wrap;simp[IntKind.signed,IntKind.bits];omega
 have w1':IntKind.i64.wrap (m:Int)=(m:Int):=by unfold IntKind.wrap;simp[IntKind.signed,IntKind.bits];omega
 have hi:0≤(m:Int)∧(m:Int)<232:=by omega
 have hwm:=hw m (by omega)
 have w2:IntKind.i64.wrap (((m+1:Nat):Int)-2)=(m:Int)-1:=by unfold IntKind.wrap;simp[IntKind.signed,IntKind.bits];omega
 have hitm:=qsU (hf m (by omega))
 cases b
 case' false=>
  go_enter Tryz.func145,Tryz.ntmps145
  go_wp2
  have hB0:=Lib.fresh_isBuilder 240 5 w
  have hb0:=(Below.refl w.heap.size w).alloc (Nat.le_refl _) (.cells #[.pointer none,.slice none 0 0] 240)
  generalize w.alloc (.cells #[.pointer none,.slice none 0 0] 240)=W0 at *
  obtain⟨pre,hpre⟩:∃pre:List UInt8,pre=if false=true then [45] else []:=⟨_,rfl⟩
  replace hB0:BtB w.heap.size w.heap.size (Lib.byteCells pre) W0:=by subst hpre;exact hB0
 case' true=>
  go_enter Tryz.func145,Tryz.ntmps145
  go_wp2_with (go_at_call 182;refine(qxC w.heap.size w.heap.size [] 45 _ (Lib.fresh_isBuilder 240 5 w) (by simp) (by simp)).mono ?_)
  rintro e W0 ⟨rfl,hB0,hb0⟩
  replace hb0:=((Below.refl w.heap.size w).alloc (Nat.le_refl _) (.cells #[.pointer none,.slice none 0 0] 240)).trans hb0
  obtain⟨pre,hpre⟩:∃pre:List UInt8,pre=if true=true then [45] else []:=⟨_,rfl⟩
  replace hB0:BtB w.heap.size w.heap.size (Lib.byteCells pre) W0:=by subst hpre;exact hB0
  go_wp2
 all_goals
  have hp1:pre.length≤1:=by subst hpre;split<;>simp
  have hs0:=hb0.size
  have d1:=(qeA hb0 hlt 1).trans h1
  have dm:=(qeA hb0 hlt (2+m)).trans hwm
  go_region_with (first
   | (go_at_call 122;refine(qto (f m) (by have:=hf m (by omega);omega) _ (qkX ht hb0.drew)).mono ?_;rintro e W1 ⟨rfl,b1⟩)
   | (go_at_call 183;refine(qvo w.heap.size w.heap.size _ _ _ (qqw (qyh hB0) b1) (qyl hp1 hitm) (Nat.le_trans hs0 b1.size)).mono ?_;rintro e W2 ⟨rfl,hB2,b2⟩))
  have b02:Below w.heap.size w W2:=(hb0.drew.trans (b1.mono hs0)).trans b2
  have e1:=(qeA b02 hlt 1).trans h1
  replace hB2:BtB w.heap.size w.heap.size (Lib.byteCells (pre++Lib.itoa (f m))) W2:=by rw[Lib.byteCells_append];exact hB2
  go_wp2
  go_loopw [4] (fun vi wr=>∃(k:Nat) (acc:List UInt8),vi=.int .i64 ((k:Int)-1)∧k≤m∧BtB w.heap.size w.heap.size (Lib.byteCells acc) wr∧Below w.heap.size w wr∧acc++qht f k=pre++Lib.itoa (f m)++qht f m∧acc.length≤10+9*(m-k)) (fun vi _=>(intOf vi+1).toNat)
  case atStart=>exact⟨m,_,by congr 1<;>omega,Nat.le_refl _,hB2,b02,rfl,by simp;omega⟩
  case round=>
   obtain⟨k,acc,rfl,hkm,hI,hbw,hacc,hal⟩:=hrel
   have hbs:=hbw.size
   rcases Nat.eq_zero_or_pos k with rfl|hk0
   ·go_wp2_with (go_at_call 184;refine(quR w.heap.size w.heap.size acc _ hI ?hne).mono ?_)
    case hne=>
     intro h0
     subst h0
     have:=congrArg List.length hacc
     have h9:=qxK (f m)
     simp[qht] at this
     omega
    rintro e W3 ⟨rfl,b3⟩
    go_wp2
    go_ret
    refine⟨?_,hbw.trans b3⟩
    simp only[qht,List.append_nil] at hacc
    rw[hacc,hpre]
    simp[qsL]
   ·obtain⟨q,rfl⟩:∃q,k=q+1:=⟨k-1,by omega⟩
    have x1:(((q+1:Nat):Int)-1)=(q:Int):=by omega
    have x2:(0:Int)≤(q:Int)∧(q:Int)<232:=by omega
    have x3:(q:Int).toNat=q:=Int.toNat_natCast q
    have dq:=(qeA hbw hlt (2+q)).trans (hw q (by omega))
    have hq9:=qsU (hf q (by omega))
    rw[x1]
    go_wp2_with (go_at_call 122;refine(qto (f q) (by have:=hf q (by omega);omega) _ (qkX ht hbw)).mono ?_)
    rintro e W3 ⟨rfl,b3⟩
    clear w1 w1' w2 hi hwm hne h1 hf hw ht
    have hl9:((⟨(Lib.itoa (f q)).toArray⟩:ByteArray).size:Int)≤9:=by simp[ByteArray.size];omega
    go_wp2_with (go_at_call 183;refine(qvo w.heap.size w.heap.size (Lib.byteCells acc) _ _ (qqw hI b3) ?hl (Nat.le_trans hbs b3.size)).mono ?_)
    case hl=>rw[qv6 hq9,Lib.byteCells_length];have:=qtE hq9;simp[ByteArray.size];omega
    rintro e W4 ⟨rfl,hB4,b4⟩
    rw[qv6 hq9,qvT,←Lib.byteCells_append] at hB4
    go_wp2
    go_roundw
    case rel=>
     refine⟨q,_,by congr 1<;>omega,by omega,hB4,(hbw.trans (b3.mono hbs)).trans b4,?_,?_⟩
     ·rw[←hacc];simp[qht]
     ·have:=qtE hq9
      simp;omega
    case measure=>simp[intOf]
theorem qsO(w:R):∀i,qhV w i=qht (fun i=>cI w i 0) i
 | 0=>rfl
 | i+1=>by unfold qhV qht;rw[qsO w i]
theorem qxN(b:Bool)(n:Nat)(w:R):qv3 b (n:Int) w=qsL b n (fun i=>cI w i 0):=by
 unfold qv3 qsL
 by_cases h:n=0
 ·subst h;rfl
 ·rw[if_neg (by omega),if_neg h,qsO]
  have e:((n:Int)-1)=((n-1:Nat):Int):=by omega
  rw[e,Int.toNat_natCast]
theorem qw7{ps:List PV}(h:ps.map PV.kind=[.b,.i,.r]):∃b n w,ps=[.b b,.i n,.r w]:=by
 match ps,h with
 | [.b b,.i n,.r w],_=>exact⟨b,n,w,rfl⟩
theorem qtJ{gl:List (Nat×AV)}(hg:(2,AV.eptr (Lib.pow10Tab.map fun _=>.int .u64) qys 0 0)∈gl) :
  qX Tryz.prog gl 145 (qa { args:=[.ptr 0 0],h:=[.big [.bool,.int .i64] .i64 232] } [{ res:=.str,h:=[.big [.bool,.int .i64] .i64 232] }] qwx):=
 qeI (uO Tryz.func145 (by kernel_rfl) (by kernel_rfl)) rfl fun B X ps j qs vargs hs hgl hh ha hk hT=>by
  obtain⟨b,n,r,rfl⟩:=qw7 hk
  simp only[qwx] at hT
  split at hT
  ·rename_i hc
   cases hT
   unfold qp2 at hc
   simp only[Bool.and_eq_true,decide_eq_true_eq,List.all_eq_true,List.mem_range] at hc
   obtain⟨⟨c1,c2⟩,c3⟩:=hc
   obtain⟨m,rfl⟩:∃m:Nat,n=(m:Int):=⟨n.toNat,by omega⟩
   have hb0:X.h[0]?=some (.big [.bool b,.int .i64 (m:Int)] .i64 232 r):=by rw[hh];rfl
   obtain⟨n0,c,T,vs,hσ,hheap,hrep,hcl,hrl⟩:=hs.blk 0 _ hb0
   have hvs:vs=[.bool b,.int .i64 (m:Int)]:=by
    cases hrep with
    | cons h t=>cases h;rw[qsR t]
   subst hvs
   have hva:vargs=[.pointer (some ⟨n0,0,none⟩)]:=by
    cases ha with
    | cons h t=>
     cases t
     cases h with
     | ptr _ _ n1 hb hσ2=>
      have:n1=n0:=Option.some.inj (hσ2.symm.trans hσ)
      rw[this]
   subst hva
   have hlt:n0<X.w.heap.size:=(Array.getElem?_eq_some_iff.1 hheap).1
   have hcell:∀o,X.w.cell? ⟨n0,o,none⟩=c[o]?:=fun o=>by unfold World.cell?;simp only[hheap];rfl
   have g0:X.w.cell? ⟨n0,0,none⟩=some (.bool b):=by rw[hcell,←Array.getElem?_toList,hcl];rfl
   have g1:X.w.cell? ⟨n0,1,none⟩=some (.int .i64 (m:Int)):=by rw[hcell,←Array.getElem?_toList,hcl];rfl
   have gw:∀i,i<232→X.w.cell? ⟨n0,2+i,none⟩=some (.int .i64 (cI r (i:Int) 0)):=fun i hi=>by
    rw[hcell]
    exact qoH (vs:=[.bool b,.int .i64 (m:Int)]) hcl (by omega)
   refine⟨rfl,rfl,rfl,?_⟩
   have hT:=qlx (k:=.u64) (zs:=Lib.pow10Tab) (show Tryz.prog.globalNamed "internal/strconv.uint64pow10" = some 2 by kernel_rfl) (by decide) (hgl _ hg).2
   refine(qyf n0 b m (fun i=>cI r (i:Int) 0) X.w hlt g0 g1 gw (by omega) (fun i hi=>c3 i (by omega)) hT).mono fun e w' ⟨k1,k2⟩=>⟨_,k1,k2,?_⟩
   rw[←qxN]
   exact .str _
  ·cases hT
end Go.Eng

namespace Go.Eng
open Go.Shelf Go.RowKit Go.Lib Go.Sort Go.Proofs
variable {P:Program} {ρ:Ren}
theorem qlK(w:World)(t e ty:TypeId)(z:Value)(es:Nat)(ht:P.underlying t=some (.slice e))(hv:∀w,(zeroValue e).run P w=.ok z w)(hz:z.cells.size=es)(h1:∀v∈z.cells.toList,v.oneCell'=true)(b o n c:Nat)(hn:0<n)
  (hc:∀j,j<n*es→(w.cell? ⟨b,o+j,none⟩).isSome=true) (hf:∀j,j<n*es→w.frozen? ⟨b,o+j,none⟩=false) :
  (Builtin.clear_ #[t] ty #[.slice (some ⟨b,o,none⟩) n c]).run P w=.ok (.tuple #[]) (w.setCells b o (Builtin.zeroCells z.cells n).toList):=by
 have hlen:(Builtin.zeroCells z.cells n).toList.length=n*es:=by simp[Builtin.zeroCells,hz]
 have hst:=run_storeCells_cells (P:=P) b o (Builtin.zeroCells z.cells n).toList 0 w (by rw[hlen];simpa using hc) (by rw[hlen];simpa using hf) (by
  intro v hv'
  simp only[Builtin.zeroCells,Array.toList_map,List.mem_map,Array.toList_range,List.mem_range] at hv'
  obtain⟨i,hi,rfl⟩:=hv'
  have hp:0<z.cells.size:=by
   rcases Nat.eq_zero_or_pos z.cells.size with h|h
   ·rw[h] at hi;simp at hi
   ·exact h
  have hlt:=Nat.mod_lt i hp
  rw[getElem!_pos z.cells _ hlt]
  exact h1 _ (by simp))
 simp only[Nat.add_zero] at hst
 obtain⟨m,rfl⟩:∃m,n=m+1:=⟨n-1,by omega⟩
 simp[Builtin.clear_,run_underlying ht,hv,hst]
theorem qce(b:Nat):∀(vs:List Value) (o:Nat) (w:World) (q:Addr),(w.cell? q).isSome=true→((w.setCells b o vs).cell? q).isSome=true
 | [],_,_,_,h=>h
 | v::r,o,w,q,h=>by
  rw[World.setCells]
  obtain⟨u,hu⟩:=Option.isSome_iff_exists.mp h
  obtain⟨u',hu'⟩:=cell?_setCell_some (p:=⟨b,o,none⟩) (x:=v) hu
  exact qce b r (o+1) _ q (by rw[hu'];rfl)
set_option maxHeartbeats 4000000 in
set_option maxRecDepth 1000000 in
theorem qy1(mixed:P.follows .mixedOrders=true)(f45:Bears P (ρ.f 45) (SlBodyN.n45 ρ))
  (_:P.underlying (ρ.t 0)=some (TypeDesc.tuple #[])) (_:∀w,(isAgg (ρ.t 0)).run P w=.ok false w) (_:∀w,(Go.sizeOf (ρ.t 0)).run P w=.ok 1 w) (_:∀w,(zeroValue (ρ.t 0)).run P w=.ok (Value.tuple #[]) w)
  (_:P.underlying (ρ.t 3)=some (TypeDesc.int IntKind.i64)) (_:∀w,(isAgg (ρ.t 3)).run P w=.ok false w) (_:∀w,(Go.sizeOf (ρ.t 3)).run P w=.ok 1 w) (_:∀w,(zeroValue (ρ.t 3)).run P w=.ok (Value.int IntKind.i64 0) w)
  (_:P.underlying (ρ.t 4)=some (TypeDesc.bool)) (_:∀w,(isAgg (ρ.t 4)).run P w=.ok false w) (_:∀w,(Go.sizeOf (ρ.t 4)).run P w=.ok 1 w) (_:∀w,(zeroValue (ρ.t 4)).run P w=.ok (Value.bool false) w)
  (t22:P.underlying (ρ.t 22)=some (TypeDesc.slice (ρ.t 23))) (_:∀w,(isAgg (ρ.t 22)).run P w=.ok false w) (_:∀w,(Go.sizeOf (ρ.t 22)).run P w=.ok 1 w) (_:∀w,(zeroValue (ρ.t 22)).run P w=.ok (Value.slice none 0 0) w)
  {es:Nat} (z23:∀w,(Go.sizeOf (ρ.t 23)).run P w=.ok es w) (z:Value) (v23:∀w,(zeroValue (ρ.t 23)).run P w=.ok z w) (zs:z.cells.size=es) (zo:∀v∈z.cells.toList,v.oneCell'=true)
  (i0:TypeInfo) (hi0:P.info? (ρ.t 23)=some i0) (hz1:i0.size=es) (blk off len cap i j:Nat) (cs:List Value) (hcs:cs.length=len*es) (w:World)
  (hc:∀k v,cs[k]?=some v→w.cell? ⟨blk,off+k,none⟩=some v∧w.frozen? ⟨blk,off+k,none⟩=false) (h1:∀v∈cs,v.oneCell'=true) (hcap:len≤cap) (hm:cap≤9223372036854775807) (hij:i≤j) (hj:j≤len) :
  Calls P (ρ.f 45) #[.slice (some ⟨blk,off,none⟩) len cap,.int .i64 i,.int .i64 j] w fun e w'=>e=.returned (.slice (some ⟨blk,off,none⟩) (len-(j-i)) cap) ∧
   ((i=j∧w'=w)∨(i<j∧∃q,w'=((Sort.ahead w q).setCells blk (off+i*es) (cs.drop (j*es))).setCells blk (off+(i+(len-j))*es) (Builtin.zeroCells z.cells (len-(i+(len-j)))).toList)):=by
 by_cases heq:i=j
 ·subst heq
  have h0:Calls P (ρ.f 45) #[.slice (some ⟨blk,off,none⟩) len cap,.int .i64 i,.int .i64 i] w fun e w'=>e=.returned (.slice (some ⟨blk,off,none⟩) len cap)∧w'=w:=by
   clear hc
   obtain⟨_,_,FG⟩:=f45
   go_enter FG,SlBodyN.n45_ntmps ρ
   go_wp2
   all_goals (go_ret;exact⟨rfl,rfl⟩)
  refine h0.mono ?_
  rintro e w' ⟨rfl,rfl⟩
  exact⟨by rw[Nat.sub_self,Nat.sub_zero],.inl ⟨rfl,rfl⟩⟩
 ·have hlt:i<j:=by omega
  obtain⟨news,hnews⟩:∃news,news=cs.drop (j*es):=⟨_,rfl⟩
  have hlen:news.length=(len-j)*es:=by rw[hnews,List.length_drop,hcs,Nat.sub_mul]
  have hget:∀t u,news[t]?=some u→cs[j*es+t]?=some u:=by
   intro t u hu
   rw[hnews,List.getElem?_drop] at hu;exact hu
  obtain⟨A,hA,hsrc⟩:∃A:Addr,(if cap=j then some (⟨blk,off,none⟩:Addr) else some ⟨blk,off+j*es,none⟩)=some A∧Hid (∀t u,news[t]?=some u→w.drew.cell? (A.add t)=some u):=by
   by_cases h:cap=j
   ·refine⟨⟨blk,off,none⟩,by simp[h],fun t u hu=>?_⟩
    have h0:news.length=0:=by rw[hlen,show len-j=0 by omega,Nat.zero_mul]
    rw[List.length_eq_zero_iff.1 h0] at hu
    simp at hu
   ·refine⟨⟨blk,off+j*es,none⟩,by simp[h],fun t u hu=>?_⟩
    rw[Addr.add_lit,show off+j*es+t=off+(j*es+t) by omega]
    exact(hc (j*es+t) u (hget t u hu)).1
  have s1:Hid (news.length=(len-j)*es):=hlen
  have s2:Hid (∀u∈news,u.oneCell'=true):=by
   intro u hu
   rw[hnews] at hu
   exact h1 u (List.mem_of_mem_drop hu)
  have hall:∀k,k<len*es→(w.cell? ⟨blk,off+k,none⟩).isSome=true∧w.frozen? ⟨blk,off+k,none⟩=false:=by
   intro k hk
   obtain⟨q1,q2⟩:=hc k cs[k] (List.getElem?_eq_getElem (by omega))
   exact⟨by rw[q1];rfl,q2⟩
  have mul1:(i+(len-j))*es≤len*es:=Nat.mul_le_mul_right _ (by omega)
  have mul2:(i+(len-j))*es=i*es+(len-j)*es:=Nat.add_mul _ _ _
  have s3:Hid (∀t,t<news.length→(w.drew.cell? ⟨blk,off+i*es+t,none⟩).isSome=true∧w.drew.frozen? ⟨blk,off+i*es+t,none⟩=false):=by
   intro t ht
   rw[hlen] at ht
   rw[Nat.add_assoc]
   exact hall (i*es+t) (by omega)
  obtain⟨W1,hW1⟩:∃W1,W1=w.drew.setCells blk (off+i*es) news:=⟨_,rfl⟩
  have hW1c:∀k,k<len*es→(W1.cell? ⟨blk,off+k,none⟩).isSome=true∧W1.frozen? ⟨blk,off+k,none⟩=false:=by
   intro k hk
   obtain⟨q1,q2⟩:=hall k hk
   rw[hW1]
   exact⟨qce blk news _ _ _ q1,by rw[World.frozen?_setCells];exact q2⟩
  have m3:(i+(len-j))*es+(len-(i+(len-j)))*es=len*es:=by rw[←Nat.add_mul];congr 1;omega
  have hcl:∀ty,(Builtin.clear_ #[ρ.t 22] ty #[.slice (some ⟨blk,off+(i+(len-j))*es,none⟩) (len-(i+(len-j))) (cap-(i+(len-j)))]).run P W1=.ok (.tuple #[]) (W1.setCells blk (off+(i+(len-j))*es) (Builtin.zeroCells z.cells (len-(i+(len-j)))).toList):=
   fun ty=>qlK W1 _ _ ty z es t22 v23 zs zo blk _ _ _ (by omega) (fun t ht=>by rw[Nat.add_assoc];exact(hW1c _ (by omega)).1) (fun t ht=>by rw[Nat.add_assoc];exact(hW1c _ (by omega)).2)
  obtain⟨zl,hzl⟩:∃zl,Hid (zl=(Builtin.zeroCells z.cells (len-(i+(len-j)))).toList):=⟨_,rfl⟩
  simp only[←hzl.out] at hcl
  have hW:Hid (W1=w.drew.setCells blk (off+i*es) news):=hW1
  have hic:i≤cap:=by omega
  have hjc:j≤cap:=by omega
  clear hW1 hW1c hc hget hall hlen mul1 mul2 m3
  obtain⟨_,_,FG⟩:=f45
  go_enter FG,SlBodyN.n45_ntmps ρ
  go_wp2_with fail
  go_region_law_o (refine step_append_room rfl (.tmp 22) (.tmp 25) (ρ.t 22) rfl (ρ.t 23) i0 es t22 hi0 hz1 blk off i cap (by simp[Act.eval,Act.put]) A (len-j) (cap-j) news (by simp[Act.eval,Act.put]) s1.out hsrc.out s2.out (by omega) s3.out ?_;rw[←hW.out])
  go_wp2
  go_ret
  refine⟨by rw[show len-(j-i)=i+(len-j) by omega];rfl,.inr ⟨hlt,1,?_⟩⟩
  rw[hW.out,hnews,hzl.out];rfl
theorem qgh{n:Nat}{T:TypeId}{fr:Nat×Nat}:∀(vs:List Value) (o:Nat) (w:World) (c:Array Value),w.heap[n]?=some (.cells c T fr) →
  ∃c',(w.setCells n o vs).heap[n]?=some (.cells c' T fr)∧c'.size=c.size∧(∀k,c'[k]?=if o≤k∧k<o+vs.length∧k<c.size then vs[k-o]? else c[k]?)∧(∀m,m≠n→(w.setCells n o vs).heap[m]?=w.heap[m]?) ∧
   (w.setCells n o vs).heap.size=w.heap.size∧(w.setCells n o vs).os=w.os∧(w.setCells n o vs).tape=w.tape∧(w.setCells n o vs).output=w.output
 | [],o,w,c,h=>⟨c,h,rfl,fun k=>by rw[if_neg (by simp;omega)],fun _ _=>rfl,rfl,rfl,rfl,rfl⟩
 | v::r,o,w,c,h=>by
  have hn:=(Array.getElem?_eq_some_iff.1 h).1
  have h1:(w.setCell ⟨n,o,none⟩ v).heap[n]?=some (.cells (c.setIfInBounds o v) T fr):=by
   simp[World.setCell,Array.getElem?_modify,h]
  obtain⟨c',q1,q2,q3,q4,q5,q6,q7,q8⟩:=qgh r (o+1) _ _ h1
  refine⟨c',q1,by rw[q2];simp,fun k=>?_,fun m hm=>?_,?_,q6,q7,q8⟩
  ·rw[q3 k,Array.size_setIfInBounds]
   by_cases hk:k=o
   ·subst hk
    rw[if_neg (by omega)]
    by_cases hs:k<c.size
    ·rw[if_pos ⟨Nat.le_refl _,by simp,hs⟩,Array.getElem?_setIfInBounds_self_of_lt hs];simp
    ·rw[if_neg (by omega)]
     rw[Array.getElem?_eq_none (by simp;omega),Array.getElem?_eq_none (by omega)]
   ·rw[Array.getElem?_setIfInBounds_ne (fun e=>hk e.symm)]
    by_cases hc:o+1≤k∧k<o+1+r.length∧k<c.size
    ·rw[if_pos hc,if_pos ⟨by omega,by simp only[List.length_cons];omega,hc.2.2⟩]
     obtain⟨d,rfl⟩:∃d,k=o+1+d:=⟨k-(o+1),by omega⟩
     rw[show o+1+d-(o+1)=d by omega,show o+1+d-o=d+1 by omega];simp
    ·rw[if_neg hc,if_neg (by simp only[List.length_cons];omega)]
  ·show ((w.setCell ⟨n,o,none⟩ v).setCells n (o+1) r).heap[m]?=_
   rw[q4 m hm]
   simp only[World.setCell]
   rw[Array.getElem?_modify,if_neg (fun e=>hm e.symm)]
  ·show ((w.setCell ⟨n,o,none⟩ v).setCells n (o+1) r).heap.size=_
   rw[q5];simp[World.setCell]
theorem qng(mixed:P.follows .mixedOrders=true)(f45:Bears P (ρ.f 45) (SlBodyN.n45 ρ))(hen:∀args w,(callFunc (ρ.f 45) args).run P w=.ok (.enter (ρ.f 45) args) w)
  (t0:P.underlying (ρ.t 0)=some (TypeDesc.tuple #[])) (a0:∀w,(isAgg (ρ.t 0)).run P w=.ok false w) (z0:∀w,(Go.sizeOf (ρ.t 0)).run P w=.ok 1 w) (v0:∀w,(zeroValue (ρ.t 0)).run P w=.ok (Value.tuple #[]) w)
  (t3:P.underlying (ρ.t 3)=some (TypeDesc.int IntKind.i64)) (a3:∀w,(isAgg (ρ.t 3)).run P w=.ok false w) (z3:∀w,(Go.sizeOf (ρ.t 3)).run P w=.ok 1 w) (v3:∀w,(zeroValue (ρ.t 3)).run P w=.ok (Value.int IntKind.i64 0) w)
  (t4:P.underlying (ρ.t 4)=some (TypeDesc.bool)) (a4:∀w,(isAgg (ρ.t 4)).run P w=.ok false w) (z4:∀w,(Go.sizeOf (ρ.t 4)).run P w=.ok 1 w) (v4:∀w,(zeroValue (ρ.t 4)).run P w=.ok (Value.bool false) w)
  (t22:P.underlying (ρ.t 22)=some (TypeDesc.slice (ρ.t 23))) (a22:∀w,(isAgg (ρ.t 22)).run P w=.ok false w) (z22:∀w,(Go.sizeOf (ρ.t 22)).run P w=.ok 1 w) (v22:∀w,(zeroValue (ρ.t 22)).run P w=.ok (Value.slice none 0 0) w)
  (z:Value) (v23:∀w,(zeroValue (ρ.t 23)).run P w=.ok z w) (zs:z.cells.size=P.cellsOf (ρ.t 23)) (zo:(z.cells.toList.all fun v=>v.oneCell')=true):qaf P (ρ.f 45) (ρ.t 23):=by
 refine⟨hen,fun w n len cap i j c T hc hsz h1 hp hlen hm hij hj=>?_⟩
 obtain⟨i0,hi0,hz1⟩:=qo6 hp
 have z23:∀w,(Go.sizeOf (ρ.t 23)).run P w=.ok (P.cellsOf (ρ.t 23)) w:=fun w=>zt hp w
 have zo:∀v∈z.cells.toList,v.oneCell'=true:=fun v hv=>List.all_eq_true.1 zo v hv
 have hle:len*P.cellsOf (ρ.t 23)≤c.size:=by rw[hsz];exact Nat.mul_le_mul_right _ hlen
 obtain⟨cs,hcs⟩:∃cs,cs=c.toList.take (len*P.cellsOf (ρ.t 23)):=⟨_,rfl⟩
 have hcl:cs.length=len*P.cellsOf (ρ.t 23):=by rw[hcs];simp;omega
 have hcg:∀k v,cs[k]?=some v→k<len*P.cellsOf (ρ.t 23)∧c[k]?=some v:=by
  intro k v hk
  have hlt:k<len*P.cellsOf (ρ.t 23):=by rw[←hcl];exact(List.getElem?_eq_some_iff.1 hk).1
  rw[hcs,List.getElem?_take,if_pos hlt] at hk
  exact⟨hlt,by simpa using hk⟩
 refine(qy1 mixed f45 t0 a0 z0 v0 t3 a3 z3 v3 t4 a4 z4 v4 t22 a22 z22 v22 z23 z v23 zs zo i0 hi0 hz1 n 0 len cap i j cs hcl w (fun k v hk=>?_) (fun v hv=>?_) hlen hm hij hj).mono fun x w' ⟨e1,e2⟩=>⟨e1,?_⟩
 ·obtain⟨_,q⟩:=hcg k v hk
  rw[Nat.zero_add]
  exact⟨by simp[World.cell?,hc,q],by simp[World.frozen?,hc]⟩
 ·obtain⟨k,hk⟩:=List.getElem?_of_mem hv
  obtain⟨q1,q2⟩:=hcg k v hk
  exact h1 k v q1 q2
 ·rcases e2 with⟨rfl,rfl⟩|⟨hlt,q,rfl⟩
  ·refine⟨c,hc,rfl,fun k _=>?_,fun _ _=>rfl,rfl,rfl,rfl,rfl⟩
   rw[Nat.sub_self,Nat.zero_mul,Nat.add_zero,ite_self]
  ·obtain⟨c1,a1,a2,a3,a4,a5,a6,a7,a8⟩:=qgh (T:=T) (fr:=(0,0)) (cs.drop (j*P.cellsOf (ρ.t 23))) (0+i*P.cellsOf (ρ.t 23)) (Sort.ahead w q) c hc
   obtain⟨c2,b1,b2,b3,b4,b5,b6,b7,b8⟩:=qgh (T:=T) (fr:=(0,0)) (Builtin.zeroCells z.cells (len-(i+(len-j)))).toList (0+(i+(len-j))*P.cellsOf (ρ.t 23)) _ c1 a1
   refine⟨c2,b1,b2.trans a2,fun k hk=>?_,fun m hm=>(b4 m hm).trans (a4 m hm),b5.trans a5,b6.trans a6,b7.trans a7,b8.trans a8⟩
   have m1:len-(j-i)=i+(len-j):=by omega
   rw[m1] at hk
   have m2:(i+(len-j))*P.cellsOf (ρ.t 23)=i*P.cellsOf (ρ.t 23)+(len-j)*P.cellsOf (ρ.t 23):=Nat.add_mul _ _ _
   have m3:len*P.cellsOf (ρ.t 23)=j*P.cellsOf (ρ.t 23)+(len-j)*P.cellsOf (ρ.t 23):=by rw[←Nat.add_mul];congr 1;omega
   have m4:j*P.cellsOf (ρ.t 23)=i*P.cellsOf (ρ.t 23)+(j-i)*P.cellsOf (ρ.t 23):=by rw[←Nat.add_mul];congr 1;omega
   have dl:(cs.drop (j*P.cellsOf (ρ.t 23))).length=(len-j)*P.cellsOf (ρ.t 23):=by rw[List.length_drop,hcl,Nat.sub_mul]
   rw[b3,if_neg (by omega),a3,dl]
   by_cases hki:k<i*P.cellsOf (ρ.t 23)
   ·rw[if_neg (by omega),if_pos hki]
   ·rw[if_pos (by omega),if_neg hki,List.getElem?_drop,hcs,List.getElem?_take,if_pos (by omega)]
    rw[show j*P.cellsOf (ρ.t 23)+(k-(0+i*P.cellsOf (ρ.t 23)))=k+(j-i)*P.cellsOf (ρ.t 23) by omega]
    simp
end Go.Eng

namespace Go.Eng
open Go.Proofs
noncomputable def q8l:List (TypeId×TI):=[(1,(.mk .func 1 [.nilFunc] 8 false false)),(2,(.mk (.int .i64) 1 [(.int .i64 0)] 8 false false)),(3,(.mk (.int .i64) 1 [(.int .i64 0)] 8 false false)),(4,(.mk .bool 1 [(.bool false)] 1 false false)),(5,(.mk (.int .u8) 1 [(.int .u8 0)] 1 false false)),(6,(.mk (.int .u8) 1 [(.int .u8 0)] 1 false false)),(8,(.mk (.struct [(0,(2,1)),(1,(3,1)),(2,(4,1)),(3,(6,1))]) 4 [(.int .i64 0),(.int .i64 0),(.bool false),(.int .u8 0)] 24 true true)),(9,(.mk .str 1 [(.string (.mk (.mk [])))] 16 false false)),(10,(.mk .str 1 [(.string (.mk (.mk [])))] 16 false false)),(11,(.mk .str 1 [(.string (.mk (.mk [])))] 16 false false)),(12,(.mk (.int .u64) 1 [(.int .u64 0)] 8 false false)),(13,(.mk (.struct [(0,(9,1)),(1,(12,1))]) 2 [(.string (.mk (.mk []))),(.int .u64 0)] 24 false true)),(14,(.mk (.struct [(0,(9,1)),(1,(12,1))]) 2 [(.string (.mk (.mk []))),(.int .u64 0)] 24 false true)),(16,(.mk (.ptr 310) 1 [(.pointer .none)] 8 false false)),(17,(.mk (.ptr 318) 1 [(.pointer .none)] 8 false false)),(18,(.mk (.struct [(0,(17,1))]) 1 [(.pointer .none)] 8 false true)),(22,(.mk (.slice 39 7) 1 [(.slice .none 0 0)] 24 false false)),(24,(.mk (.struct [(0,(22,1)),(1,(22,1))]) 2 [(.slice .none 0 0),(.slice .none 0 0)] 48 true true)),(25,(.mk (.slice 43 3) 1 [(.slice .none 0 0)] 24 false false)),(27,(.mk (.struct [(0,(25,1)),(1,(25,1))]) 2 [(.slice .none 0 0),(.slice .none 0 0)] 48 true true)),(29,(.mk (.struct [(0,(22,1)),(1,(22,1))]) 2 [(.slice .none 0 0),(.slice .none 0 0)] 48 true true)),(30,(.mk (.struct [(0,(25,1)),(1,(25,1))]) 2 [(.slice .none 0 0),(.slice .none 0 0)] 48 true true)),(32,(.mk .func 1 [.nilFunc] 8 false false)),(35,(.mk (.struct [(0,(3,1)),(1,(3,1))]) 2 [(.int .i64 0),(.int .i64 0)] 16 true true)),(37,(.mk (.struct [(0,(3,1)),(1,(3,1))]) 2 [(.int .i64 0),(.int .i64 0)] 16 true true)),(39,(.mk (.struct [(0,(35,2)),(2,(37,2)),(4,(3,1)),(5,(3,1)),(6,(4,1))]) 7 [(.int .i64 0),(.int .i64 0),(.int .i64 0),(.int .i64 0),(.int .i64 0),(.int .i64 0),(.bool false)] 56 true true)),(40,(.mk .func 1 [.nilFunc] 8 false false)),(43,(.mk (.struct [(0,(35,2)),(2,(3,1))]) 3 [(.int .i64 0),(.int .i64 0),(.int .i64 0)] 24 true true)),(45,(.mk (.struct [(0,(3,1)),(1,(3,1)),(2,(3,1))]) 3 [(.int .i64 0),(.int .i64 0),(.int .i64 0)] 24 true true)),(46,(.mk (.struct [(0,(3,1)),(1,(3,1)),(2,(3,1))]) 3 [(.int .i64 0),(.int .i64 0),(.int .i64 0)] 24 true true)),(47,(.mk (.int .i64) 1 [(.int .i64 0)] 8 false false)),(49,(.mk .func 1 [.nilFunc] 8 false false)),(51,(.mk .func 1 [.nilFunc] 8 false false)),(52,(.mk .func 1 [.nilFunc] 8 false false)),(53,(.mk (.slice 65 3) 1 [(.slice .none 0 0)] 24 false false)),(54,(.mk .func 1 [.nilFunc] 8 false false)),(55,(.mk .func 1 [.nilFunc] 8 false false)),(56,(.mk (.slice 3 1) 1 [(.slice .none 0 0)] 24 false false)),(58,(.mk .func 1 [.nilFunc] 8 false false)),(61,(.mk .str 1 [(.string (.mk (.mk [])))] 16 false false)),(63,(.mk (.struct [(0,(61,1)),(1,(61,1))]) 2 [(.string (.mk (.mk []))),(.string (.mk (.mk [])))] 32 true true)),(64,(.mk (.struct [(0,(63,2)),(2,(61,1))]) 3 [(.string (.mk (.mk []))),(.string (.mk (.mk []))),(.string (.mk (.mk [])))] 48 true true)),(65,(.mk (.struct [(0,(63,2)),(2,(61,1))]) 3 [(.string (.mk (.mk []))),(.string (.mk (.mk []))),(.string (.mk (.mk [])))] 48 true true)),(69,(.mk (.struct [(0,(22,1)),(1,(25,1)),(2,(3,1))]) 3 [(.slice .none 0 0),(.slice .none 0 0),(.int .i64 0)] 56 true true)),(77,(.mk .func 1 [.nilFunc] 8 false false)),(82,(.mk .func 1 [.nilFunc] 8 false false)),(90,(.mk .func 1 [.nilFunc] 8 false false)),(91,(.mk (.ptr 93) 1 [(.pointer .none)] 8 false false)),(92,(.mk (.struct [(0,(47,1))]) 1 [(.int .i64 0)] 8 true true)),(93,(.mk (.struct [(0,(47,1))]) 1 [(.int .i64 0)] 8 true true)),(96,(.mk .func 1 [.nilFunc] 8 false false)),(97,(.mk .func 1 [.nilFunc] 8 false false)),(99,(.mk (.struct [(0,(22,1)),(1,(25,1)),(2,(3,1))]) 3 [(.slice .none 0 0),(.slice .none 0 0),(.int .i64 0)] 56 true true)),(100,(.mk .func 1 [.nilFunc] 8 false false)),(101,(.mk .func 1 [.nilFunc] 8 false false)),(104,(.mk .func 1 [.nilFunc] 8 false false)),(108,(.mk .func 1 [.nilFunc] 8 false false)),(109,(.mk .func 1 [.nilFunc] 8 false false)),(110,(.mk .func 1 [.nilFunc] 8 false false)),(112,(.mk .func 1 [.nilFunc] 8 false false)),(115,(.mk .func 1 [.nilFunc] 8 false false)),(116,(.mk .func 1 [.nilFunc] 8 false false)),(118,(.mk .func 1 [.nilFunc] 8 false false)),(120,(.mk .func 1 [.nilFunc] 8 false false)),(121,(.mk .func 1 [.nilFunc] 8 false false)),(123,(.mk .func 1 [.nilFunc] 8 false false)),(124,(.mk .func 1 [.nilFunc] 8 false false)),(127,(.mk (.struct [(0,(63,2)),(2,(63,2)),(4,(61,1))]) 5 [(.string (.mk (.mk []))),(.string (.mk (.mk []))),(.string (.mk (.mk []))),(.string (.mk (.mk []))),(.string (.mk (.mk [])))] 80 true true)),(134,(.mk (.slice 61 1) 1 [(.slice .none 0 0)] 24 false false)),(139,(.mk (.ptr 141) 1 [(.pointer .none)] 8 false false)),(141,(.mk (.struct [(0,(53,1)),(1,(47,1))]) 2 [(.slice .none 0 0),(.int .i64 0)] 32 true true)),(150,(.mk .str 1 [(.string (.mk (.mk [])))] 16 false false)),(153,(.mk (.ptr 183) 1 [(.pointer .none)] 8 false false)),(158,(.mk (.struct [(0,(39,7)),(7,(3,1))]) 8 [(.int .i64 0),(.int .i64 0),(.int .i64 0),(.int .i64 0),(.int .i64 0),(.int .i64 0),(.bool false),(.int .i64 0)] 64 true true)),(166,(.mk .func 1 [.nilFunc] 8 false false)),(175,(.mk .func 1 [.nilFunc] 8 false false)),(181,(.mk (.slice 150 1) 1 [(.slice .none 0 0)] 24 false false)),(183,(.mk (.struct [(0,(47,1))]) 1 [(.int .i64 0)] 8 true true)),(186,(.mk .func 1 [.nilFunc] 8 false false)),(189,(.mk .func 1 [.nilFunc] 8 false false)),(190,(.mk (.array 3 3 1) 3 [(.int .i64 0),(.int .i64 0),(.int .i64 0)] 24 false false)),(191,(.mk (.array 2 190 3) 6 [(.int .i64 0),(.int .i64 0),(.int .i64 0),(.int .i64 0),(.int .i64 0),(.int .i64 0)] 48 false false)),(202,(.mk (.ptr 207) 1 [(.pointer .none)] 8 false false)),(205,(.mk (.array 232 3 1) 232 [(.int .i64 0),(.int .i64 0),(.int .i64 0),(.int .i64 0),(.int .i64 0),(.int .i64 0),(.int .i64 0),(.int .i64 0),(.int .i64 0),(.int .i64 0),(.int .i64 0),(.int .i64 0),(.int .i64 0),(.int .i64 0),(.int .i64 0),(.int .i64 0),(.int .i64 0),(.int .i64 0),(.int .i64 0),(.int .i64 0),(.int .i64 0),(.int .i64 0),(.int .i64 0),(.int .i64 0),(.int .i64 0),(.int .i64 0),(.int .i64 0),(.int .i64 0),(.int .i64 0),(.int .i64 0),(.int .i64 0),(.int .i64 0),(.int .i64 0),(.int .i64 0),(.int .i64 0),(.int .i64 0),(.int .i64 0),(.int .i64 0),(.int .i64 0),(.int .i64 0),(.int .i64 0),(.int .i64 0),(.int .i64 0),(.int .i64 0),(.int .i64 0),(.int .i64 0),(.int .i64 0),(.int .i64 0),(.int .i64 0),(.int .i64 0),(.int .i64 0),(.int .i64 0),(.int .i64 0),(.int .i64 0),(.int .i64 0),(.int .i64 0),(.int .i64 0),(.int .i64 0),(.int .i64 0),(.int .i64 0),(.int .i64 0),(.int .i64 0),(.int .i64 0),(.int .i64 0),(.int .i64 0),(.int .i64 0),(.int .i64 0),(.int .i64 0),(.int .i64 0),(.int .i64 0),(.int .i64 0),(.int .i64 0),(.int .i64 0),(.int .i64 0),(.int .i64 0),(.int .i64 0),(.int .i64 0),(.int .i64 0),(.int .i64 0),(.int .i64 0),(.int .i64 0),(.int .i64 0),(.int .i64 0),(.int .i64 0),(.int .i64 0),(.int .i64 0),(.int .i64 0),(.int .i64 0),(.int .i64 0),(.int .i64 0),(.int .i64 0),(.int .i64 0),(.int .i64 0),(.int .i64 0),(.int .i64 0),(.int .i64 0),(.int .i64 0),(.int .i64 0),(.int .i64 0),(.int .i64 0),(.int .i64 0),(.int .i64 0),(.int .i64 0),(.int .i64 0),(.int .i64 0),(.int .i64 0),(.int .i64 0),(.int .i64 0),(.int .i64 0),(.int .i64 0),(.int .i64 0),(.int .i64 0),(.int .i64 0),(.int .i64 0),(.int .i64 0),(.int .i64 0),(.int .i64 0),(.int .i64 0),(.int .i64 0),(.int .i64 0),(.int .i64 0),(.int .i64 0),(.int .i64 0),(.int .i64 0),(.int .i64 0),(.int .i64 0),(.int .i64 0),(.int .i64 0),(.int .i64 0),(.int .i64 0),(.int .i64 0),(.int .i64 0),(.int .i64 0),(.int .i64 0),(.int .i64 0),(.int .i64 0),(.int .i64 0),(.int .i64 0),(.int .i64 0),(.int .i64 0),(.int .i64 0),(.int .i64 0),(.int .i64 0),(.int .i64 0),(.int .i64 0),(.int .i64 0),(.int .i64 0),(.int .i64 0),(.int .i64 0),(.int .i64 0),(.int .i64 0),(.int .i64 0),(.int .i64 0),(.int .i64 0),(.int .i64 0),(.int .i64 0),(.int .i64 0),(.int .i64 0),(.int .i64 0),(.int .i64 0),(.int .i64 0),(.int .i64 0),(.int .i64 0),(.int .i64 0),(.int .i64 0),(.int .i64 0),(.int .i64 0),(.int .i64 0),(.int .i64 0),(.int .i64 0),(.int .i64 0),(.int .i64 0),(.int .i64 0),(.int .i64 0),(.int .i64 0),(.int .i64 0),(.int .i64 0),(.int .i64 0),(.int .i64 0),(.int .i64 0),(.int .i64 0),(.int .i64 0),(.int .i64 0),(.int .i64 0),(.int .i64 0),(.int .i64 0),(.int .i64 0),(.int .i64 0),(.int .i64 0),(.int .i64 0),(.int .i64 0),(.int .i64 0),(.int .i64 0),(.int .i64 0),(.int .i64 0),(.int .i64 0),(.int .i64 0),(.int .i64 0),(.int .i64 0),(.int .i64 0),(.int .i64 0),(.int .i64 0),(.int .i64 0),(.int .i64 0),(.int .i64 0),(.int .i64 0),(.int .i64 0),(.int .i64 0),(.int .i64 0),(.int .i64 0),(.int .i64 0),(.int .i64 0),(.int .i64 0),(.int .i64 0),(.int .i64 0),(.int .i64 0),(.int .i64 0),(.int .i64 0),(.int .i64 0),(.int .i64 0),(.int .i64 0),(.int .i64 0),(.int .i64 0),(.int .i64 0),(.int .i64 0),(.int .i64 0),(.int .i64 0),(.int .i64 0),(.int .i64 0),(.int .i64 0),(.int .i64 0),(.int .i64 0)] 1856 false false)),(207,(.mk (.struct [(0,(4,1)),(1,(3,1)),(2,(205,232))]) 234 [(.bool false),(.int .i64 0),(.int .i64 0),(.int .i64 0),(.int .i64 0),(.int .i64 0),(.int .i64 0),(.int .i64 0),(.int .i64 0),(.int .i64 0),(.int .i64 0),(.int .i64 0),(.int .i64 0),(.int .i64 0),(.int .i64 0),(.int .i64 0),(.int .i64 0),(.int .i64 0),(.int .i64 0),(.int .i64 0),(.int .i64 0),(.int .i64 0),(.int .i64 0),(.int .i64 0),(.int .i64 0),(.int .i64 0),(.int .i64 0),(.int .i64 0),(.int .i64 0),(.int .i64 0),(.int .i64 0),(.int .i64 0),(.int .i64 0),(.int .i64 0),(.int .i64 0),(.int .i64 0),(.int .i64 0),(.int .i64 0),(.int .i64 0),(.int .i64 0),(.int .i64 0),(.int .i64 0),(.int .i64 0),(.int .i64 0),(.int .i64 0),(.int .i64 0),(.int .i64 0),(.int .i64 0),(.int .i64 0),(.int .i64 0),(.int .i64 0),(.int .i64 0),(.int .i64 0),(.int .i64 0),(.int .i64 0),(.int .i64 0),(.int .i64 0),(.int .i64 0),(.int .i64 0),(.int .i64 0),(.int .i64 0),(.int .i64 0),(.int .i64 0),(.int .i64 0),(.int .i64 0),(.int .i64 0),(.int .i64 0),(.int .i64 0),(.int .i64 0),(.int .i64 0),(.int .i64 0),(.int .i64 0),(.int .i64 0),(.int .i64 0),(.int .i64 0),(.int .i64 0),(.int .i64 0),(.int .i64 0),(.int .i64 0),(.int .i64 0),(.int .i64 0),(.int .i64 0),(.int .i64 0),(.int .i64 0),(.int .i64 0),(.int .i64 0),(.int .i64 0),(.int .i64 0),(.int .i64 0),(.int .i64 0),(.int .i64 0),(.int .i64 0),(.int .i64 0),(.int .i64 0),(.int .i64 0),(.int .i64 0),(.int .i64 0),(.int .i64 0),(.int .i64 0),(.int .i64 0),(.int .i64 0),(.int .i64 0),(.int .i64 0),(.int .i64 0),(.int .i64 0),(.int .i64 0),(.int .i64 0),(.int .i64 0),(.int .i64 0),(.int .i64 0),(.int .i64 0),(.int .i64 0),(.int .i64 0),(.int .i64 0),(.int .i64 0),(.int .i64 0),(.int .i64 0),(.int .i64 0),(.int .i64 0),(.int .i64 0),(.int .i64 0),(.int .i64 0),(.int .i64 0),(.int .i64 0),(.int .i64 0),(.int .i64 0),(.int .i64 0),(.int .i64 0),(.int .i64 0),(.int .i64 0),(.int .i64 0),(.int .i64 0),(.int .i64 0),(.int .i64 0),(.int .i64 0),(.int .i64 0),(.int .i64 0),(.int .i64 0),(.int .i64 0),(.int .i64 0),(.int .i64 0),(.int .i64 0),(.int .i64 0),(.int .i64 0),(.int .i64 0),(.int .i64 0),(.int .i64 0),(.int .i64 0),(.int .i64 0),(.int .i64 0),(.int .i64 0),(.int .i64 0),(.int .i64 0),(.int .i64 0),(.int .i64 0),(.int .i64 0),(.int .i64 0),(.int .i64 0),(.int .i64 0),(.int .i64 0),(.int .i64 0),(.int .i64 0),(.int .i64 0),(.int .i64 0),(.int .i64 0),(.int .i64 0),(.int .i64 0),(.int .i64 0),(.int .i64 0),(.int .i64 0),(.int .i64 0),(.int .i64 0),(.int .i64 0),(.int .i64 0),(.int .i64 0),(.int .i64 0),(.int .i64 0),(.int .i64 0),(.int .i64 0),(.int .i64 0),(.int .i64 0),(.int .i64 0),(.int .i64 0),(.int .i64 0),(.int .i64 0),(.int .i64 0),(.int .i64 0),(.int .i64 0),(.int .i64 0),(.int .i64 0),(.int .i64 0),(.int .i64 0),(.int .i64 0),(.int .i64 0),(.int .i64 0),(.int .i64 0),(.int .i64 0),(.int .i64 0),(.int .i64 0),(.int .i64 0),(.int .i64 0),(.int .i64 0),(.int .i64 0),(.int .i64 0),(.int .i64 0),(.int .i64 0),(.int .i64 0),(.int .i64 0),(.int .i64 0),(.int .i64 0),(.int .i64 0),(.int .i64 0),(.int .i64 0),(.int .i64 0),(.int .i64 0),(.int .i64 0),(.int .i64 0),(.int .i64 0),(.int .i64 0),(.int .i64 0),(.int .i64 0),(.int .i64 0),(.int .i64 0),(.int .i64 0),(.int .i64 0),(.int .i64 0),(.int .i64 0),(.int .i64 0),(.int .i64 0),(.int .i64 0),(.int .i64 0),(.int .i64 0),(.int .i64 0),(.int .i64 0)] 1872 true true)),(238,(.mk (.slice 5 1) 1 [(.slice .none 0 0)] 24 false false)),(255,(.mk .func 1 [.nilFunc] 8 false false)),(256,(.mk (.ptr 5) 1 [(.pointer .none)] 8 false false)),(259,(.mk (.int .u64) 1 [(.int .u64 0)] 8 false false)),(279,(.mk (.array 20 259 1) 20 [(.int .u64 0),(.int .u64 0),(.int .u64 0),(.int .u64 0),(.int .u64 0),(.int .u64 0),(.int .u64 0),(.int .u64 0),(.int .u64 0),(.int .u64 0),(.int .u64 0),(.int .u64 0),(.int .u64 0),(.int .u64 0),(.int .u64 0),(.int .u64 0),(.int .u64 0),(.int .u64 0),(.int .u64 0),(.int .u64 0)] 160 false false)),(280,(.mk (.int .u32) 1 [(.int .u32 0)] 4 false false)),(308,(.mk (.array 0 16 1) 0 [] 0 false false)),(310,(.mk (.struct [(0,(308,0))]) 0 [] 0 false true)),(312,(.mk (.int .u8) 1 [(.int .u8 0)] 1 false false)),(313,(.mk (.int .u8) 1 [(.int .u8 0)] 1 false false)),(314,(.mk .func 1 [.nilFunc] 8 false false)),(315,(.mk (.int .i32) 1 [(.int .i32 0)] 4 false false)),(316,(.mk (.int .i32) 1 [(.int .i32 0)] 4 false false)),(318,(.mk (.struct [(0,(12,1)),(1,(12,1)),(2,(280,1)),(3,(312,1)),(4,(5,1)),(5,(5,1)),(6,(313,1)),(7,(314,1)),(8,(256,1)),(9,(315,1)),(10,(316,1))]) 11 [(.int .u64 0),(.int .u64 0),(.int .u32 0),(.int .u8 0),(.int .u8 0),(.int .u8 0),(.int .u8 0),.nilFunc,(.pointer .none),(.int .i32 0),(.int .i32 0)] 48 false true))]
noncomputable def qc:List (Nat×AV):=[(2,(.eptr [.int .u64,.int .u64,.int .u64,.int .u64,.int .u64,.int .u64,.int .u64,.int .u64,.int .u64,.int .u64,.int .u64,.int .u64,.int .u64,.int .u64,.int .u64,.int .u64,.int .u64,.int .u64,.int .u64,.int .u64] [[.i 1,.i 10,.i 100,.i 1000,.i 10000,.i 100000,.i 1000000,.i 10000000,.i 100000000,.i 1000000000,.i 10000000000,.i 100000000000,.i 1000000000000,.i 10000000000000,.i 100000000000000,.i 1000000000000000,.i 10000000000000000,.i 100000000000000000,.i 1000000000000000000,.i 10000000000000000000]] 0 0)),(0,(.eptr [.int .i64,.int .i64,.int .i64,.int .i64,.int .i64,.int .i64] [[.i (-1),.i (-1),.i 1,.i 1,.i 1,.i (-1)]] 0 0))]
theorem q9:q8l.map (fun x=>qpr Tryz.prog x.1)=q8l.map (·.2):=by kernel_rfl
theorem qe:Tryz.prog.follows .mixedOrders=true:=by kernel_rfl
noncomputable def qf(s:List (FuncId×(List AV→List Blk→Tree (AV×List Blk))))(b:List (FuncId×Func))(l:List ((FuncId×Nat)×(St→Tree (Ex×St))))(n:Nat):Env:=⟨q8l,qc,s,b,l,n,[],[],[]⟩
def quL:Go.Shelf.Ren:=⟨fun|45=>9|n=>n,fun|22=>22|23=>39|n=>n,fun n=>n⟩
theorem qtI:qaf Tryz.prog 9 39:=qng (ρ:=quL) (by kernel_rfl) ⟨ "slices.Delete[[]metrolab/api.Target,metrolab/api.Target]",by decide,Tryz.func9.trans (congrArg some (by kernel_rfl))⟩ (uO Tryz.func9 (by kernel_rfl) (by kernel_rfl)) Tryz.underlying0 Tryz.isAgg0 Tryz.sizeOf0 Tryz.zeroValue0 Tryz.underlying3 Tryz.isAgg3 Tryz.sizeOf3 Tryz.zeroValue3 Tryz.underlying4 Tryz.isAgg4 Tryz.sizeOf4 Tryz.zeroValue4 Tryz.underlying22 Tryz.isAgg22 Tryz.sizeOf22 Tryz.zeroValue22 _ Tryz.zeroValue39 (by kernel_rfl) (by kernel_rfl)
def qsn:Go.Shelf.Ren:=⟨fun|45=>11|n=>n,fun|22=>25|23=>43|n=>n,fun n=>n⟩
theorem qrq:qaf Tryz.prog 11 43:=qng (ρ:=qsn) (by kernel_rfl) ⟨ "slices.Delete[[]metrolab/api.Circle,metrolab/api.Circle]",by decide,Tryz.func11.trans (congrArg some (by kernel_rfl))⟩ (uO Tryz.func11 (by kernel_rfl) (by kernel_rfl)) Tryz.underlying0 Tryz.isAgg0 Tryz.sizeOf0 Tryz.zeroValue0 Tryz.underlying3 Tryz.isAgg3 Tryz.sizeOf3 Tryz.zeroValue3 Tryz.underlying4 Tryz.isAgg4 Tryz.sizeOf4 Tryz.zeroValue4 Tryz.underlying25 Tryz.isAgg25 Tryz.sizeOf25 Tryz.zeroValue25 _ Tryz.zeroValue43 (by kernel_rfl) (by kernel_rfl)
def qj0:FIn:=⟨[(.int .i64)],[]⟩
def qiY:List FOut:=[⟨.bool,[],none⟩]
noncomputable def qnD:=qf [] [(87,Tryz.f87)] [] 0
noncomputable def q3X:=qo qnD 87 Tryz.f87 true qj0 qiY
theorem qpn:qX Tryz.prog qc 87 (qa qj0 qiY q3X):=sk qnD qe q9 aln aln (b1 Tryz.func87) Tryz.func87
def q6R:FIn:=⟨[(.agg [(.int .i64),(.int .i64)])],[]⟩
def q7C:List FOut:=[⟨.bool,[],none⟩]
noncomputable def qhX:=qf [(87,qa qj0 qiY q3X)] [(57,Tryz.f57)] [] 0
noncomputable def jF:=qo qhX 57 Tryz.f57 true q6R q7C
theorem qcw:qX Tryz.prog qc 57 (qa q6R q7C jF):=sk qhX qe q9 (alc qpn aln) aln (b1 Tryz.func57) Tryz.func57
def q98:FIn:=⟨[(.int .i64)],[]⟩
def q9c:List FOut:=[⟨.bool,[],none⟩]
noncomputable def qjw:=qf [] [(58,Tryz.f58)] [] 0
noncomputable def j0:=qo qjw 58 Tryz.f58 true q98 q9c
theorem qds:qX Tryz.prog qc 58 (qa q98 q9c j0):=sk qjw qe q9 aln aln (b1 Tryz.func58) Tryz.func58
def q1Q:FIn:=⟨[(.agg [(.int .i64),(.int .i64),(.int .i64),(.int .i64),(.int .i64),(.int .i64),.bool])],[]⟩
def q1R:List FOut:=[⟨(.int .i64),[],none⟩]
noncomputable def qhu:=qf [(57,qa q6R q7C jF),(58,qa q98 q9c j0)] [(86,Tryz.f86)] [] 0
noncomputable def yY:=qo qhu 86 Tryz.f86 true q1Q q1R
theorem q3n:qX Tryz.prog qc 86 (qa q1Q q1R yY):=sk qhu qe q9 (alc qcw (alc qds aln)) aln (b1 Tryz.func86) Tryz.func86
def q99:FIn:=⟨[(.agg [(.int .i64),(.int .i64),(.int .i64),(.int .i64),(.int .i64),(.int .i64),.bool]),(.agg [(.int .i64),(.int .i64),(.int .i64),(.int .i64),(.int .i64),(.int .i64),.bool])],[]⟩
def q9d:List FOut:=[⟨(.int .i64),[],none⟩]
noncomputable def qjH:=qf [(86,qa q1Q q1R yY)] [(56,Tryz.f56)] [] 0
noncomputable def qep:=qo qjH 56 Tryz.f56 true q99 q9d
theorem qe9:qX Tryz.prog qc 56 (qa q99 q9d qep):=sk qjH qe q9 (alc q3n aln) aln (b1 Tryz.func56) Tryz.func56
def q72:FIn:=⟨[(.agg [(.imm [(.int .i64),(.int .i64),(.int .i64),(.int .i64),(.int .i64),(.int .i64),.bool]),(.imm [(.int .i64),(.int .i64),(.int .i64),(.int .i64),(.int .i64),(.int .i64),.bool])])],[]⟩
def q7a:List FOut:=[⟨(.int .i64),[],none⟩]
def q6n:Tmpl:={ t:=(.any::(.ptr 0 0)::.any::(.int .i64)::qB 37 []),h:=[.cells [(.imm [(.int .i64),(.int .i64),(.int .i64),(.int .i64),(.int .i64),(.int .i64),.bool]),(.imm [(.int .i64),(.int .i64),(.int .i64),(.int .i64),(.int .i64),(.int .i64),.bool])]] }
def q6u:List Out:=[⟨(.exit 0),{ t:=(qB 41 []),h:=[] }⟩,⟨.ret,{ t:=(.any::.any::(.int .i64)::qB 38 []),h:=[] }⟩]
noncomputable def q3e:=qf [(56,qa q99 q9d qep)] [(29,Tryz.f29)] [] 0
noncomputable def qcD:=jE q3e 29 Tryz.f29 12 q6n q6u
theorem qfR:qp Tryz.prog qc q3e.nimp (qy Tryz.prog q3e.iter 29) (zB Tryz.f29 12) (qm q6n q6u (ql qcD)):=
 gk q3e qe q9 (alc qe9 aln) aln (b1 Tryz.func29) Tryz.func29
noncomputable def qgJ:=qf [(56,qa q99 q9d qep)] [(29,Tryz.f29)] [((29,12),qm q6n q6u (ql qcD))] 0
noncomputable def qbH:=qo qgJ 29 Tryz.f29 true q72 q7a
theorem qcR:qX Tryz.prog qc 29 (qa q72 q7a qbH):=sk qgJ qe q9 (alc qe9 aln) (alc (lk Tryz.func29 qfR) aln) (b1 Tryz.func29) Tryz.func29
def q1o:FIn:=⟨[(.agg [(.int .i64),(.int .i64),(.int .i64)])],[]⟩
def q1k:List FOut:=[⟨(.int .i64),[],none⟩]
noncomputable def qjj:=qf [(57,qa q6R q7C jF),(58,qa q98 q9c j0)] [(30,Tryz.f30)] [] 0
noncomputable def yT:=qo qjj 30 Tryz.f30 true q1o q1k
theorem q1D:qX Tryz.prog qc 30 (qa q1o q1k yT):=sk qjj qe q9 (alc qcw (alc qds aln)) aln (b1 Tryz.func30) Tryz.func30
def q0z:FIn:=⟨[(.agg [(.int .i64),(.int .i64),(.int .i64),(.int .i64),(.int .i64),(.int .i64),.bool]),(.int .i64)],[]⟩
def q0A:List FOut:=[⟨.bool,[],none⟩]
noncomputable def qfA:=qf [] [(31,Tryz.f31)] [] 0
noncomputable def ya:=qo qfA 31 Tryz.f31 true q0z q0A
theorem q27:qX Tryz.prog qc 31 (qa q0z q0A ya):=sk qfA qe q9 aln aln (b1 Tryz.func31) Tryz.func31
def q7e:FIn:=⟨[(.agg [(.imm [(.int .i64),(.int .i64),(.int .i64),(.int .i64),(.int .i64),(.int .i64),.bool]),(.imm [(.int .i64),(.int .i64),(.int .i64),(.int .i64),(.int .i64),(.int .i64),.bool])]),(.agg [(.imm [(.int .i64),(.int .i64),(.int .i64)]),(.imm [(.int .i64),(.int .i64),(.int .i64)])])],[]⟩
def q77:List FOut:=[⟨(.int .i64),[],none⟩]
def q6t:Tmpl:={ t:=(.any::.any::(.ptr 0 0)::(.ptr 1 0)::.any::.any::(.int .i64)::qB 76 []),h:=[.cells [(.imm [(.int .i64),(.int .i64),(.int .i64),(.int .i64),(.int .i64),(.int .i64),.bool]),(.imm [(.int .i64),(.int .i64),(.int .i64),(.int .i64),(.int .i64),(.int .i64),.bool])],.cells [(.imm [(.int .i64),(.int .i64),(.int .i64)]),(.imm [(.int .i64),(.int .i64),(.int .i64)])]] }
def q6D:List Out:=[⟨(.exit 0),{ t:=(qB 83 []),h:=[] }⟩,⟨.ret,{ t:=(qB 4 ((.int .i64)::qB 78 [])),h:=[] }⟩]
noncomputable def q3p:=qf [(29,qa q72 q7a qbH),(30,qa q1o q1k yT),(31,qa q0z q0A ya)] [(7,Tryz.f7)] [] 0
noncomputable def qcG:=jE q3p 7 Tryz.f7 10 q6t q6D
theorem qgF:qp Tryz.prog qc q3p.nimp (qy Tryz.prog q3p.iter 7) (zB Tryz.f7 10) (qm q6t q6D (ql qcG)):=
 gk q3p qe q9 (alc qcR (alc q1D (alc q27 aln))) aln (b1 Tryz.func7) Tryz.func7
noncomputable def qhf:=qf [(29,qa q72 q7a qbH),(30,qa q1o q1k yT),(31,qa q0z q0A ya)] [(7,Tryz.f7)] [((7,10),qm q6t q6D (ql qcG))] 0
noncomputable def qc2:=qo qhf 7 Tryz.f7 true q7e q77
theorem qcC:qX Tryz.prog qc 7 (qa q7e q77 qc2):=sk qhf qe q9 (alc qcR (alc q1D (alc q27 aln))) (alc (lk Tryz.func7 qgF) aln) (b1 Tryz.func7) Tryz.func7
def qgi:FIn:=⟨[(.agg [(.imm [(.int .i64),(.int .i64),(.int .i64),(.int .i64),(.int .i64),(.int .i64),.bool]),(.imm [(.int .i64),(.int .i64),(.int .i64),(.int .i64),(.int .i64),(.int .i64),.bool])]),(.agg [(.imm [(.int .i64),(.int .i64),(.int .i64)]),(.imm [(.int .i64),(.int .i64),(.int .i64)])])],[]⟩
def qfV:List FOut:=[⟨.bool,[],none⟩]
noncomputable def ql1:=qf [(7,qa q7e q77 qc2)] [(6,Tryz.f6)] [] 0
noncomputable def qlq:=qo ql1 6 Tryz.f6 true qgi qfV
theorem qmy:qX Tryz.prog qc 6 (qa qgi qfV qlq):=sk ql1 qe q9 (alc qcC aln) aln (b1 Tryz.func6) Tryz.func6
def q15:FIn:=⟨[.str,.str],[]⟩
def q0X:List FOut:=[⟨(.int .i64),[],none⟩]
noncomputable def wR:List PV→TR:=qqj
theorem q5j:qX Tryz.prog qc 199 (qa q15 q0X wR):=qsw Tryz.lays219 (uO Tryz.func199 (by kernel_rfl) (by kernel_rfl))
def yI:FIn:=⟨[.str,.str],[]⟩
def yG:List FOut:=[⟨(.tuple [.str,.str,.bool]),[],none⟩]
noncomputable def q2k:=qf [(199,qa q15 q0X wR)] [(167,Tryz.f167)] [] 0
noncomputable def zP:=qo q2k 167 Tryz.f167 true yI yG
theorem q6A:qX Tryz.prog qc 167 (qa yI yG zP):=sk q2k qe q9 (alc q5j aln) aln (b1 Tryz.func167) Tryz.func167
def qc7:FIn:=⟨[.str,.str],[]⟩
def qbG:List FOut:=[⟨(.tuple [.str,.str,.bool]),[],none⟩]
noncomputable def qi0:=qf [(167,qa yI yG zP)] [(137,Tryz.f137)] [] 0
noncomputable def q4N:=qo qi0 137 Tryz.f137 true qc7 qbG
theorem qjL:qX Tryz.prog qc 137 (qa qc7 qbG q4N):=sk qi0 qe q9 (alc q6A aln) aln (b1 Tryz.func137) Tryz.func137
def q1M:FIn:=⟨[.str],[]⟩
def q1q:List FOut:=[⟨(.tuple [.str,.str,.bool]),[],none⟩]
noncomputable def qlC:=qf [(137,qa qc7 qbG q4N)] [(113,Tryz.f113)] [] 0
noncomputable def qG:=qo qlC 113 Tryz.f113 true q1M q1q
theorem q0F:qX Tryz.prog qc 113 (qa q1M q1q qG):=sk qlC qe q9 (alc qjL aln) aln (b1 Tryz.func113) Tryz.func113
def zC:FIn:=⟨[.str,.str],[]⟩
def zE:List FOut:=[⟨.bool,[],none⟩]
noncomputable def uF:=qf [] [(187,Tryz.f187)] [] 0
noncomputable def qx:=qo uF 187 Tryz.f187 true zC zE
theorem yw:qX Tryz.prog qc 187 (qa zC zE qx):=sk uF qe q9 aln aln (b1 Tryz.func187) Tryz.func187
def wZ:FIn:=⟨[.str,.str],[]⟩
def v7:List FOut:=[⟨.str,[],none⟩]
noncomputable def u9:=qf [(187,qa zC zE qx)] [(168,Tryz.f168)] [] 0
noncomputable def qW:=qo u9 168 Tryz.f168 true wZ v7
theorem q2Q:qX Tryz.prog qc 168 (qa wZ v7 qW):=sk u9 qe q9 (alc yw aln) aln (b1 Tryz.func168) Tryz.func168
def va:FIn:=⟨[.str,.str],[]⟩
def vb:List FOut:=[⟨.str,[],none⟩]
noncomputable def q6P:=qf [(168,qa wZ v7 qW)] [(138,Tryz.f138)] [] 0
noncomputable def qH:=qo q6P 138 Tryz.f138 true va vb
theorem jG:qX Tryz.prog qc 138 (qa va vb qH):=sk q6P qe q9 (alc q2Q aln) aln (b1 Tryz.func138) Tryz.func138
def qfy:FIn:=⟨[.str,.str],[]⟩
def qfu:List FOut:=[⟨.str,[],none⟩]
noncomputable def q5A:List PV→TR:=qws
theorem qin:qX Tryz.prog qc 139 (qa qfy qfu q5A):=qu9 Tryz.lays160 (uO Tryz.func139 (by kernel_rfl) (by kernel_rfl)) (by kernel_rfl)
def vT:FIn:=⟨[.str],[]⟩
def vM:List FOut:=[⟨(.int .i64),[],none⟩]
noncomputable def qi4:=qf [(138,qa va vb qH),(139,qa qfy qfu q5A)] [(114,Tryz.f114)] [] 0
noncomputable def qD:=qo qi4 114 Tryz.f114 true vT vM
theorem ve:qX Tryz.prog qc 114 (qa vT vM qD):=sk qi4 qe q9 (alc jG (alc qin aln)) aln (b1 Tryz.func114) Tryz.func114
def ug:FIn:=⟨[(.imm [.str])],[]⟩
def um:List FOut:=[⟨(.int .i64),[],none⟩]
def qc4:Tmpl:={ t:=(qB 6 ((.imm [.str])::(.int .i64)::(.int .i64)::qB 9 [])),h:=[] }
def qbo:List Out:=[⟨(.exit 0),{ t:=(qB 18 []),h:=[] }⟩,⟨.ret,{ t:=(.any::.any::(.int .i64)::qB 15 []),h:=[] }⟩]
noncomputable def q70:=qf [(114,qa vT vM qD)] [(140,Tryz.f140)] [] 0
noncomputable def q46:=jE q70 140 Tryz.f140 3 qc4 qbo
theorem qk3:qp Tryz.prog qc q70.nimp (qy Tryz.prog q70.iter 140) (zB Tryz.f140 3) (qm qc4 qbo (ql q46)):=
 gk q70 qe q9 (alc ve aln) aln (b1 Tryz.func140) Tryz.func140
noncomputable def qmd:=qf [(114,qa vT vM qD)] [(140,Tryz.f140)] [((140,3),qm qc4 qbo (ql q46))] 0
noncomputable def zx:=qo qmd 140 Tryz.f140 true ug um
theorem jZ:qX Tryz.prog qc 140 (qa ug um zx):=sk qmd qe q9 (alc ve aln) (alc (lk Tryz.func140 qk3) aln) (b1 Tryz.func140) Tryz.func140
def q5T:FIn:=⟨[.str],[]⟩
def q6g:List FOut:=[⟨(.int .i64),[],none⟩]
noncomputable def qjz:=qf [] [(141,Tryz.f141)] [] 0
noncomputable def jV:=qo qjz 141 Tryz.f141 true q5T q6g
theorem q7Y:qX Tryz.prog qc 141 (qa q5T q6g jV):=sk qjz qe q9 aln aln (b1 Tryz.func141) Tryz.func141
def qaF:FIn:=⟨[.str,.str],[]⟩
def qaU:List FOut:=[⟨(.int .i64),[],none⟩]
noncomputable def q2c:List PV→TR:=qkb
theorem qf2:qX Tryz.prog qc 176 (qa qaF qaU q2c):=qpi Tryz.lays106 (uO Tryz.func176 (by kernel_rfl) (by kernel_rfl))
def qbV:FIn:=⟨[.str,.str],[]⟩
def qbr:List FOut:=[⟨(.int .i64),[],none⟩]
noncomputable def qic:=qf [(176,qa qaF qaU q2c)] [(142,Tryz.f142)] [] 0
noncomputable def q4l:=qo qic 142 Tryz.f142 true qbV qbr
theorem qjN:qX Tryz.prog qc 142 (qa qbV qbr q4l):=sk qic qe q9 (alc qf2 aln) aln (b1 Tryz.func142) Tryz.func142
def q7K:FIn:=⟨[.str,.str],[]⟩
def q8p:List FOut:=[⟨(.tuple [(.int .i64),(.int .i64)]),[],none⟩]
noncomputable def qdU:=qf [(138,qa va vb qH),(140,qa ug um zx),(141,qa q5T q6g jV),(142,qa qbV qbr q4l)] [(115,Tryz.f115)] [] 0
noncomputable def q1A:=qo qdU 115 Tryz.f115 true q7K q8p
theorem qhc:qX Tryz.prog qc 115 (qa q7K q8p q1A):=sk qdU qe q9 (alc jG (alc jZ (alc q7Y (alc qjN aln)))) aln (b1 Tryz.func115) Tryz.func115
def qfb:FIn:=⟨[(.int .i64)],[]⟩
def qfa:List FOut:=[⟨.str,[],none⟩]
noncomputable def q30:List PV→TR:=qvs
theorem qiu:qX Tryz.prog qc 122 (qa qfb qfa q30):=quZ Tryz.laysM171 (uO Tryz.func122 (by kernel_rfl) (by kernel_rfl)) (by kernel_rfl) (by unfold qc;exact List.mem_cons_self)
def q25:FIn:=⟨[(.int .i64)],[]⟩
def q2f:List FOut:=[⟨.str,[],none⟩]
noncomputable def qnx:=qf [(122,qa qfb qfa q30)] [(92,Tryz.f92)] [] 0
noncomputable def zb:=qo qnx 92 Tryz.f92 true q25 q2f
theorem kR:qX Tryz.prog qc 92 (qa q25 q2f zb):=sk qnx qe q9 (alc qiu aln) aln (b1 Tryz.func92) Tryz.func92
def q5R:FIn:=⟨[.str],[]⟩
def q5K:List FOut:=[⟨(.tuple [(.int .i64),.any]),[],none⟩]
noncomputable def wT:List PV→TR:=qxe
theorem q58:qX Tryz.prog qc 177 (qa q5R q5K wT):=qux Tryz.lays172 (uO Tryz.func177 (by kernel_rfl) (by kernel_rfl))
def z7:FIn:=⟨[(.ptr 0 0)],[.big [.bool,(.int .i64)] .i64 232]⟩
def z6:List FOut:=[⟨(.ptr 0 0),[.big [.bool,(.int .i64)] .i64 232],none⟩]
def q0J:Tmpl:={ t:=((.ptr 0 0)::qB 28 []),h:=[.big [.bool,(.int .i64)] .i64 232] }
def q0R:List Out:=[⟨(.exit 0),{ t:=((.ptr 0 0)::qB 28 []),h:=[.big [.bool,(.int .i64)] .i64 232] }⟩]
noncomputable def yC:=qf [] [(178,Tryz.f178)] [] 1
noncomputable def vo:=jE yC 178 Tryz.f178 2 q0J q0R
theorem q9V:qp Tryz.prog qc yC.nimp (qy Tryz.prog yC.iter 178) (zB Tryz.f178 2) (qm q0J q0R (ql vo)):=
 gk yC qe q9 aln aln (b1 Tryz.func178) Tryz.func178
noncomputable def q6K:=qf [] [(178,Tryz.f178)] [((178,2),qm q0J q0R (ql vo))] 1
noncomputable def qu:=qo q6K 178 Tryz.f178 false z7 z6
theorem zj:qX Tryz.prog qc 178 (qa z7 z6 qu):=qgs (E:=q6K) qe ⟨q3S q9,⟨aln,aln⟩,(alc (lk Tryz.func178 q9V) aln),(b1 Tryz.func178)⟩ Tryz.func178 (by kernel_rfl) (by kernel_rfl) (fun _=>rfl)
def u7:FIn:=⟨[.str],[]⟩
def yX:List FOut:=[⟨(.ptr 0 0),[.big [.bool,(.int .i64)] .i64 232],none⟩]
def q9R:Tmpl:={ t:=(.any::.any::.any::.str::(.ptr 0 0)::qB 43 []),h:=[.big [.bool,(.int .i64)] .i64 232] }
def qaa:List Out:=[⟨(.exit 0),{ t:=(qB 4 ((.ptr 0 0)::qB 43 [])),h:=[.big [.bool,(.int .i64)] .i64 232] }⟩]
noncomputable def q5y:=qf [(138,qa va vb qH),(177,qa q5R q5K wT),(178,qa z7 z6 qu)] [(143,Tryz.f143)] [] 0
noncomputable def q2O:=jE q5y 143 Tryz.f143 5 q9R qaa
theorem qiI:qp Tryz.prog qc q5y.nimp (qy Tryz.prog q5y.iter 143) (zB Tryz.f143 5) (qm q9R qaa (ql q2O)):=
 gk q5y qe q9 (alc jG (alc q58 (alc zj aln))) aln (b1 Tryz.func143) Tryz.func143
noncomputable def qjx:=qf [(138,qa va vb qH),(177,qa q5R q5K wT),(178,qa z7 z6 qu)] [(143,Tryz.f143)] [((143,5),qm q9R qaa (ql q2O))] 0
noncomputable def zf:=qo qjx 143 Tryz.f143 false u7 yX
theorem yn:qX Tryz.prog qc 143 (qa u7 yX zf):=qgs (E:=qjx) qe ⟨q3S q9,⟨(alc jG (alc q58 (alc zj aln))),aln⟩,(alc (lk Tryz.func143 qiI) aln),(b1 Tryz.func143)⟩ Tryz.func143 (by kernel_rfl) (by kernel_rfl) (fun _=>rfl)
def vC:FIn:=⟨[(.ptr 0 0),(.ptr 1 0)],[.big [.bool,(.int .i64)] .i64 232,.big [.bool,(.int .i64)] .i64 232]⟩
def vD:List FOut:=[⟨(.int .i64),[.big [.bool,(.int .i64)] .i64 232,.big [.bool,(.int .i64)] .i64 232],none⟩]
def q1G:Tmpl:={ t:=((.ptr 0 0)::(.ptr 1 0)::.any::.any::.any::(.int .i64)::qB 53 []),h:=[.big [.bool,(.int .i64)] .i64 232,.big [.bool,(.int .i64)] .i64 232] }
def q1C:List Out:=[⟨(.exit 0),{ t:=(qB 59 []),h:=[.big [.bool,(.int .i64)] .i64 232,.big [.bool,(.int .i64)] .i64 232] }⟩,⟨.ret,{ t:=(qB 4 ((.int .i64)::qB 54 [])),h:=[.big [.bool,(.int .i64)] .i64 232,.big [.bool,(.int .i64)] .i64 232] }⟩]
noncomputable def yV:=qf [] [(179,Tryz.f179)] [] 2
noncomputable def vU:=jE yV 179 Tryz.f179 6 q1G q1C
theorem qaY:qp Tryz.prog qc yV.nimp (qy Tryz.prog yV.iter 179) (zB Tryz.f179 6) (qm q1G q1C (ql vU)):=
 gk yV qe q9 aln aln (b1 Tryz.func179) Tryz.func179
noncomputable def q80:=qf [] [(179,Tryz.f179)] [((179,6),qm q1G q1C (ql vU))] 2
noncomputable def zk:=qo q80 179 Tryz.f179 true vC vD
theorem yE:qX Tryz.prog qc 179 (qa vC vD zk):=sk q80 qe q9 aln (alc (lk Tryz.func179 qaY) aln) (b1 Tryz.func179) Tryz.func179
def q0r:FIn:=⟨[(.ptr 0 0),(.ptr 1 0)],[.big [.bool,(.int .i64)] .i64 232,.big [.bool,(.int .i64)] .i64 232]⟩
def q0g:List FOut:=[⟨(.int .i64),[.big [.bool,(.int .i64)] .i64 232,.big [.bool,(.int .i64)] .i64 232],none⟩]
noncomputable def qco:=qf [] [(180,Tryz.f180),(207,Tryz.f207)] [] 2
noncomputable def jl:=qo qco 180 Tryz.f180 true q0r q0g
theorem q3F:qX Tryz.prog qc 180 (qa q0r q0g jl):=sk qco qe q9 aln aln (alc (bk Tryz.func180) (alc (bk Tryz.func207) aln)) Tryz.func180
def zU:FIn:=⟨[(.ptr 0 0),(.ptr 1 0),(.int .i64),(.int .i64)],[.big [.bool,(.int .i64)] .i64 232,.big [.bool,(.int .i64)] .i64 232]⟩
def zS:List FOut:=[⟨(.tuple []),[.big [.bool,(.int .i64)] .i64 232,.big [.bool,(.int .i64)] .i64 232],none⟩]
def q2m:Tmpl:={ t:=((.ptr 0 0)::(.ptr 1 0)::(.int .i64)::(.int .i64)::qB 4 ((.int .i64)::(.int .i64)::qB 73 [])),h:=[.big [.bool,(.int .i64)] .i64 232,.big [.bool,(.int .i64)] .i64 232] }
def q2u:List Out:=[⟨(.exit 0),{ t:=((.ptr 0 0)::qB 82 []),h:=[.big [.bool,(.int .i64)] .i64 232,.big [.bool,(.int .i64)] .i64 232] }⟩]
noncomputable def uK:=qf [(178,qa z7 z6 qu)] [(181,Tryz.f181)] [] 2
noncomputable def vd:=jE uK 181 Tryz.f181 3 q2m q2u
theorem qby:qp Tryz.prog qc uK.nimp (qy Tryz.prog uK.iter 181) (zB Tryz.f181 3) (qm q2m q2u (ql vd)):=
 gk uK qe q9 (alc zj aln) aln (b1 Tryz.func181) Tryz.func181
noncomputable def q9C:=qf [(178,qa z7 z6 qu)] [(181,Tryz.f181)] [((181,3),qm q2m q2u (ql vd))] 2
noncomputable def qz:=qo q9C 181 Tryz.f181 true zU zS
theorem wM:qX Tryz.prog qc 181 (qa zU zS qz):=sk q9C qe q9 (alc zj aln) (alc (lk Tryz.func181 qby) aln) (b1 Tryz.func181) Tryz.func181
def kl:FIn:=⟨[(.ptr 0 0),(.ptr 1 0)],[.big [.bool,(.int .i64)] .i64 232,.big [.bool,(.int .i64)] .i64 232]⟩
def uY:List FOut:=[⟨(.tuple [(.ptr 2 0),(.ptr 3 0)]),[.big [.bool,(.int .i64)] .i64 232,.big [.bool,(.int .i64)] .i64 232,.big [.bool,(.int .i64)] .i64 232,.big [.bool,(.int .i64)] .i64 232],none⟩]
def q4p:Tmpl:={ t:=((.ptr 0 0)::(.ptr 1 0)::qB 4 ((.ptr 2 0)::(.ptr 3 0)::(.int .i64)::(.int .i64)::qB 80 [])),h:=[.big [.bool,(.int .i64)] .i64 232,.big [.bool,(.int .i64)] .i64 232,.big [.bool,(.int .i64)] .i64 232,.big [.bool,(.int .i64)] .i64 232] }
def q4B:List Out:=[⟨(.exit 2),{ t:=((.ptr 0 0)::(.ptr 1 0)::qB 4 ((.ptr 2 0)::(.ptr 3 0)::(.int .i64)::(.int .i64)::qB 80 [])),h:=[.big [.bool,(.int .i64)] .i64 232,.big [.bool,(.int .i64)] .i64 232,.big [.bool,(.int .i64)] .i64 232,.big [.bool,(.int .i64)] .i64 232] }⟩]
noncomputable def q1f:=qf [(178,qa z7 z6 qu),(179,qa vC vD zk),(180,qa q0r q0g jl),(181,qa zU zS qz)] [(144,Tryz.f144)] [] 2
noncomputable def jh:=jE q1f 144 Tryz.f144 14 q4p q4B
theorem qer:qp Tryz.prog qc q1f.nimp (qy Tryz.prog q1f.iter 144) (zB Tryz.f144 14) (qm q4p q4B (ql jh)):=
 gk q1f qe q9 (alc zj (alc yE (alc q3F (alc wM aln)))) aln (b1 Tryz.func144) Tryz.func144
def q5q:Tmpl:={ t:=((.ptr 0 0)::(.ptr 1 0)::qB 4 ((.ptr 2 0)::(.ptr 3 0)::(.int .i64)::qB 81 [])),h:=[.big [.bool,(.int .i64)] .i64 232,.big [.bool,(.int .i64)] .i64 232,.big [.bool,(.int .i64)] .i64 232,.big [.bool,(.int .i64)] .i64 232] }
def q5n:List Out:=[⟨(.exit 0),{ t:=(qB 6 ((.ptr 2 0)::(.ptr 3 0)::qB 82 [])),h:=[.big [.bool,(.int .i64)] .i64 232,.big [.bool,(.int .i64)] .i64 232,.big [.bool,(.int .i64)] .i64 232,.big [.bool,(.int .i64)] .i64 232] }⟩]
noncomputable def q1Z:=qf [(178,qa z7 z6 qu),(179,qa vC vD zk),(180,qa q0r q0g jl),(181,qa zU zS qz)] [(144,Tryz.f144)] [((144,14),qm q4p q4B (ql jh))] 2
noncomputable def kt:=jE q1Z 144 Tryz.f144 4 q5q q5n
theorem qf6:qp Tryz.prog qc q1Z.nimp (qy Tryz.prog q1Z.iter 144) (zB Tryz.f144 4) (qm q5q q5n (ql kt)):=
 gk q1Z qe q9 (alc zj (alc yE (alc q3F (alc wM aln)))) (alc (lk Tryz.func144 qer) aln) (b1 Tryz.func144) Tryz.func144
noncomputable def qdb:=qf [(178,qa z7 z6 qu),(179,qa vC vD zk),(180,qa q0r q0g jl),(181,qa zU zS qz)] [(144,Tryz.f144)] [((144,4),qm q5q q5n (ql kt))] 2
noncomputable def zZ:=qo qdb 144 Tryz.f144 false kl uY
theorem q1a:qX Tryz.prog qc 144 (qa kl uY zZ):=qgs (E:=qdb) qe ⟨q3S q9,⟨(alc zj (alc yE (alc q3F (alc wM aln)))),aln⟩,(alc (lk Tryz.func144 qf6) aln),(b1 Tryz.func144)⟩ Tryz.func144 (by kernel_rfl) (by kernel_rfl) (fun _=>rfl)
def yj:FIn:=⟨[(.ptr 0 0)],[.big [.bool,(.int .i64)] .i64 232]⟩
def yi:List FOut:=[⟨.str,[.big [.bool,(.int .i64)] .i64 232],none⟩]
noncomputable def qA:List PV→TR:=qwx
theorem jx:qX Tryz.prog qc 145 (qa yj yi qA):=qtJ (by unfold qc;exact List.mem_cons_self)
def q8o:FIn:=⟨[.str,.str],[]⟩
def q7X:List FOut:=[⟨(.tuple [.str,(.int .i64)]),[],none⟩]
def q9J:Tmpl:={ t:=(qB 9 ((.int .i64)::(.int .i64)::qB 61 [])),h:=[] }
def qa0:List Out:=[⟨(.exit 2),{ t:=(qB 9 ((.int .i64)::qB 62 [])),h:=[] }⟩]
noncomputable def q5N:=qf [(92,qa q25 q2f zb),(140,qa ug um zx),(143,qa u7 yX zf),(144,qa kl uY zZ),(145,qa yj yi qA)] [(116,Tryz.f116)] [] 0
noncomputable def q0x:=jE q5N 116 Tryz.f116 14 q9J qa0
theorem qj3:qp Tryz.prog qc q5N.nimp (qy Tryz.prog q5N.iter 116) (zB Tryz.f116 14) (qm q9J qa0 (ql q0x)):=
 gk q5N qe q9 (alc kR (alc jZ (alc yn (alc q1a (alc jx aln))))) aln (b1 Tryz.func116) Tryz.func116
def qbP:Tmpl:={ t:=(qB 7 ((.ptr 1 0)::(.ptr 2 0)::qB 63 [])),h:=[.dead,.big [.bool,(.int .i64)] .i64 232,.big [.bool,(.int .i64)] .i64 232],sw:=[(7,1),(8,2)],swn:=0 }
def qbQ:List Out:=[⟨(.exit 0),{ t:=(qB 7 ((.ptr 1 0)::qB 64 [])),h:=[.dead,.big [.bool,(.int .i64)] .i64 232] }⟩,⟨.ret,{ t:=(qB 4 (.str::(.int .i64)::qB 66 [])),h:=[] }⟩]
noncomputable def q7c:=qf [(92,qa q25 q2f zb),(140,qa ug um zx),(143,qa u7 yX zf),(144,qa kl uY zZ),(145,qa yj yi qA)] [(116,Tryz.f116)] [((116,14),qm q9J qa0 (ql q0x))] 0
noncomputable def q4f:=jE q7c 116 Tryz.f116 7 qbP qbQ
theorem qjQ:qp Tryz.prog qc q7c.nimp (qy Tryz.prog q7c.iter 116) (zB Tryz.f116 7) (qm qbP qbQ (ql q4f)):=
 gk q7c qe q9 (alc kR (alc jZ (alc yn (alc q1a (alc jx aln))))) (alc (lk Tryz.func116 qj3) aln) (b1 Tryz.func116) Tryz.func116
noncomputable def qku:=qf [(92,qa q25 q2f zb),(140,qa ug um zx),(143,qa u7 yX zf),(144,qa kl uY zZ),(145,qa yj yi qA)] [(116,Tryz.f116)] [((116,7),qm qbP qbQ (ql q4f))] 0
noncomputable def q1x:=qo qku 116 Tryz.f116 true q8o q7X
theorem qad:qX Tryz.prog qc 116 (qa q8o q7X q1x):=sk qku qe q9 (alc kR (alc jZ (alc yn (alc q1a (alc jx aln))))) (alc (lk Tryz.func116 qjQ) aln) (b1 Tryz.func116) Tryz.func116
def wY:FIn:=⟨[.str],[]⟩
def wX:List FOut:=[⟨(.int .i64),[],none⟩]
noncomputable def qhN:=qf [(113,qa q1M q1q qG),(114,qa vT vM qD),(115,qa q7K q8p q1A),(116,qa q8o q7X q1x)] [(79,Tryz.f79)] [] 0
noncomputable def qC:=qo qhN 79 Tryz.f79 true wY wX
theorem wx:qX Tryz.prog qc 79 (qa wY wX qC):=sk qhN qe q9 (alc q0F (alc ve (alc qhc (alc qad aln)))) aln (b1 Tryz.func79) Tryz.func79
def q28:FIn:=⟨[(.agg [.str,.str,.str])],[]⟩
def q2e:List FOut:=[⟨(.int .i64),[],none⟩]
def q7Z:Tmpl:={ t:=(.any::(.ptr 0 0)::qB 12 ((.vec 1)::(.int .i64)::(.int .i64)::qB 13 [])),h:=[.cells [.str,.str,.str],.vec 61 [.str]] }
def q85:List Out:=[⟨(.exit 0),{ t:=(.any::(.ptr 0 0)::qB 28 []),h:=[.cells [.str,.str,.str]] }⟩,⟨.ret,{ t:=(.any::.any::(.int .i64)::qB 27 []),h:=[] }⟩]
noncomputable def q4b:=qf [(79,qa wY wX qC)] [(68,Tryz.f68)] [] 0
noncomputable def q1m:=jE q4b 68 Tryz.f68 3 q7Z q85
theorem qgL:qp Tryz.prog qc q4b.nimp (qy Tryz.prog q4b.iter 68) (zB Tryz.f68 3) (qm q7Z q85 (ql q1m)):=
 gk q4b qe q9 (alc wx aln) aln (b1 Tryz.func68) Tryz.func68
noncomputable def qhA:=qf [(79,qa wY wX qC)] [(68,Tryz.f68)] [((68,3),qm q7Z q85 (ql q1m))] 0
noncomputable def jN:=qo qhA 68 Tryz.f68 true q28 q2e
theorem q3c:qX Tryz.prog qc 68 (qa q28 q2e jN):=sk qhA qe q9 (alc wx aln) (alc (lk Tryz.func68 qgL) aln) (b1 Tryz.func68) Tryz.func68
def vg:FIn:=⟨[(.imm [.str,.str,.str])],[]⟩
def vk:List FOut:=[⟨(.int .i64),[],none⟩]
def q9S:Tmpl:={ t:=((.imm [.str,.str,.str])::qB 8 ((.imm [.str,.str,.str])::(.int .i64)::(.int .i64)::qB 12 [])),h:=[] }
def q9I:List Out:=[⟨(.exit 0),{ t:=((.imm [.str,.str,.str])::qB 23 []),h:=[] }⟩,⟨.ret,{ t:=(.any::.any::(.int .i64)::qB 21 []),h:=[] }⟩]
noncomputable def q5F:=qf [(68,qa q28 q2e jN)] [(45,Tryz.f45)] [] 0
noncomputable def q34:=jE q5F 45 Tryz.f45 6 q9S q9I
theorem qiW:qp Tryz.prog qc q5F.nimp (qy Tryz.prog q5F.iter 45) (zB Tryz.f45 6) (qm q9S q9I (ql q34)):=
 gk q5F qe q9 (alc q3c aln) aln (b1 Tryz.func45) Tryz.func45
noncomputable def qjg:=qf [(68,qa q28 q2e jN)] [(45,Tryz.f45)] [((45,6),qm q9S q9I (ql q34))] 0
noncomputable def zh:=qo qjg 45 Tryz.f45 true vg vk
theorem wn:qX Tryz.prog qc 45 (qa vg vk zh):=sk qjg qe q9 (alc q3c aln) (alc (lk Tryz.func45 qiW) aln) (b1 Tryz.func45) Tryz.func45
def q4R:FIn:=⟨[.str,.str],[]⟩
def q4e:List FOut:=[⟨(.tuple [(.int .i64),(.int .i64),.bool]),[],none⟩]
noncomputable def qi7:=qf [(177,qa q5R q5K wT)] [(152,Tryz.f152)] [] 0
noncomputable def jP:=qo qi7 152 Tryz.f152 true q4R q4e
theorem q6y:qX Tryz.prog qc 152 (qa q4R q4e jP):=sk qi7 qe q9 (alc q58 aln) aln (b1 Tryz.func152) Tryz.func152
def q5M:FIn:=⟨[(.int .i64)],[]⟩
def q5D:List FOut:=[⟨(.tuple [.str,(.int .i64)]),[],none⟩]
noncomputable def qfB:=qf [(92,qa q25 q2f zb)] [(153,Tryz.f153)] [] 0
noncomputable def uv:=qo qfB 153 Tryz.f153 true q5M q5D
theorem qaE:qX Tryz.prog qc 153 (qa q5M q5D uv):=sk qfB qe q9 (alc kR aln) aln (b1 Tryz.func153) Tryz.func153
def q4S:FIn:=⟨[(.ptr 0 0),(.ptr 1 0)],[.big [.bool,(.int .i64)] .i64 232,.big [.bool,(.int .i64)] .i64 232]⟩
def q4j:List FOut:=[⟨(.ptr 2 0),[.big [.bool,(.int .i64)] .i64 232,.big [.bool,(.int .i64)] .i64 232,.big [.bool,(.int .i64)] .i64 232],none⟩]
def q2A:Tmpl:={ t:=((.ptr 0 0)::(.ptr 1 0)::.any::.any::.any::(.ptr 2 0)::qB 15 ((.int .i64)::(.int .i64)::qB 14 [])),h:=[.big [.bool,(.int .i64)] .i64 232,.big [.bool,(.int .i64)] .i64 232,.big [.bool,(.int .i64)] .i64 232] }
def q2t:List Out:=[⟨(.exit 0),{ t:=(qB 5 ((.ptr 2 0)::qB 31 [])),h:=[.big [.bool,(.int .i64)] .i64 232,.big [.bool,(.int .i64)] .i64 232,.big [.bool,(.int .i64)] .i64 232] }⟩]
noncomputable def uH:=qf [(181,qa zU zS qz)] [(154,Tryz.f154)] [] 2
noncomputable def jy:=jE uH 154 Tryz.f154 4 q2A q2t
theorem qbh:qp Tryz.prog qc uH.nimp (qy Tryz.prog uH.iter 154) (zB Tryz.f154 4) (qm q2A q2t (ql jy)):=
 gk uH qe q9 (alc wM aln) aln (b1 Tryz.func154) Tryz.func154
noncomputable def q9f:=qf [(181,qa zU zS qz)] [(154,Tryz.f154)] [((154,4),qm q2A q2t (ql jy))] 2
noncomputable def u6:=qo q9f 154 Tryz.f154 false q4S q4j
theorem qe3:qX Tryz.prog qc 154 (qa q4S q4j u6):=qgs (E:=q9f) qe ⟨q3S q9,⟨(alc wM aln),aln⟩,(alc (lk Tryz.func154 qbh) aln),(b1 Tryz.func154)⟩ Tryz.func154 (by kernel_rfl) (by kernel_rfl) (fun _=>rfl)
def jw:FIn:=⟨[(.ptr 0 0)],[.big [.bool,(.int .i64)] .i64 232]⟩
def jr:List FOut:=[⟨(.tuple [.str,(.int .i64)]),[.big [.bool,(.int .i64)] .i64 232],none⟩]
noncomputable def q6N:=qf [(114,qa vT vM qD),(145,qa yj yi qA)] [(155,Tryz.f155)] [] 1
noncomputable def zw:=qo q6N 155 Tryz.f155 true jw jr
theorem q01:qX Tryz.prog qc 155 (qa jw jr zw):=sk q6N qe q9 (alc ve (alc jx aln)) aln (b1 Tryz.func155) Tryz.func155
def q7R:FIn:=⟨[.str,.str],[]⟩
def q7L:List FOut:=[⟨(.tuple [.str,(.int .i64)]),[],none⟩]
noncomputable def qm8:=qf [(140,qa ug um zx),(143,qa u7 yX zf),(152,qa q4R q4e jP),(153,qa q5M q5D uv),(154,qa q4S q4j u6),(155,qa jw jr zw)] [(125,Tryz.f125)] [] 0
noncomputable def q3M:=qo qm8 125 Tryz.f125 true q7R q7L
theorem qa2:qX Tryz.prog qc 125 (qa q7R q7L q3M):=sk qm8 qe q9 (alc jZ (alc yn (alc q6y (alc qaE (alc qe3 (alc q01 aln)))))) aln (b1 Tryz.func125) Tryz.func125
def vK:FIn:=⟨[(.ptr 0 0),(.fn 125 [] []),.str,.str],[.cells [(.int .i64)]]⟩
def vO:List FOut:=[⟨.str,[.cells [(.int .i64)]],none⟩]
noncomputable def q2M:=qf [(125,qa q7R q7L q3M)] [(124,Tryz.f124)] [] 1
noncomputable def zv:=qo q2M 124 Tryz.f124 true vK vO
theorem q0V:qX Tryz.prog qc 124 (qa vK vO zv):=sk q2M qe q9 (alc qa2 aln) aln (b1 Tryz.func124) Tryz.func124
def vh:FIn:=⟨[(.ptr 0 0),(.imm [.str])],[.cells [(.int .i64)]]⟩
def vj:List FOut:=[⟨.str,[.cells [(.int .i64)]],none⟩]
def q4t:Tmpl:={ t:=(qB 5 (.str::(.fn 124 [(.ptr 0 0)] [])::qB 4 ((.imm [.str])::(.int .i64)::(.int .i64)::qB 9 []))),h:=[.cells [(.int .i64)]] }
def q4s:List Out:=[⟨(.exit 0),{ t:=(qB 5 (.str::qB 17 [])),h:=[.cells [(.int .i64)]] }⟩]
noncomputable def q17:=qf [(125,qa q7R q7L q3M),(124,qa vK vO zv)] [(95,Tryz.f95)] [] 1
noncomputable def jg:=jE q17 95 Tryz.f95 4 q4t q4s
theorem qel:qp Tryz.prog qc q17.nimp (qy Tryz.prog q17.iter 95) (zB Tryz.f95 4) (qm q4t q4s (ql jg)):=
 gk q17 qe q9 (alc qa2 (alc q0V aln)) aln (b1 Tryz.func95) Tryz.func95
noncomputable def qcQ:=qf [(125,qa q7R q7L q3M),(124,qa vK vO zv)] [(95,Tryz.f95)] [((95,4),qm q4t q4s (ql jg))] 1
noncomputable def qg:=qo qcQ 95 Tryz.f95 true vh vj
theorem vz:qX Tryz.prog qc 95 (qa vh vj qg):=sk qcQ qe q9 (alc qa2 (alc q0V aln)) (alc (lk Tryz.func95 qel) aln) (b1 Tryz.func95) Tryz.func95
def kj:FIn:=⟨[(.ptr 0 0),(.ptr 1 0)],[.big [.bool,(.int .i64)] .i64 232,.big [.bool,(.int .i64)] .i64 232]⟩
def kG:List FOut:=[⟨(.tuple []),[.big [.bool,(.int .i64)] .i64 232,.big [.bool,(.int .i64)] .i64 232],none⟩]
noncomputable def qaX:=qf [(179,qa vC vD zk),(181,qa zU zS qz)] [(210,Tryz.f210)] [] 2
noncomputable def zL:=qo qaX 210 Tryz.f210 true kj kG
theorem q2v:qX Tryz.prog qc 210 (qa kj kG zL):=sk qaX qe q9 (alc yE (alc wM aln)) aln (b1 Tryz.func210) Tryz.func210
def qgI:FIn:=⟨[(.imm [.str])],[]⟩
def qgw:List FOut:=[⟨(.tuple [.str,(.int .i64)]),[],none⟩]
def qbL:Tmpl:={ t:=(qB 4 ((.ptr 0 0)::qB 4 ((.imm [.str])::(.int .i64)::(.int .i64)::qB 12 []))),h:=[.big [.bool,(.int .i64)] .i64 232] }
def qbE:List Out:=[⟨(.exit 0),{ t:=(qB 4 ((.ptr 0 0)::qB 19 [])),h:=[.big [.bool,(.int .i64)] .i64 232] }⟩]
noncomputable def q6T:=qf [(143,qa u7 yX zf),(155,qa jw jr zw),(210,qa kj kG zL)] [(219,Tryz.f219)] [] 0
noncomputable def q4q:=jE q6T 219 Tryz.f219 4 qbL qbE
theorem qjV:qp Tryz.prog qc q6T.nimp (qy Tryz.prog q6T.iter 219) (zB Tryz.f219 4) (qm qbL qbE (ql q4q)):=
 gk q6T qe q9 (alc yn (alc q01 (alc q2v aln))) aln (b1 Tryz.func219) Tryz.func219
noncomputable def qlR:=qf [(143,qa u7 yX zf),(155,qa jw jr zw),(210,qa kj kG zL)] [(219,Tryz.f219)] [((219,4),qm qbL qbE (ql q4q))] 0
noncomputable def q8g:=qo qlR 219 Tryz.f219 true qgI qgw
theorem qmM:qX Tryz.prog qc 219 (qa qgI qgw q8g):=sk qlR qe q9 (alc yn (alc q01 (alc q2v aln))) (alc (lk Tryz.func219 qjV) aln) (b1 Tryz.func219) Tryz.func219
def q8I:FIn:=⟨[.str,.str],[]⟩
def q7U:List FOut:=[⟨(.tuple [.str,(.int .i64)]),[],none⟩]
noncomputable def ql2:=qf [(140,qa ug um zx),(152,qa q4R q4e jP),(153,qa q5M q5D uv),(219,qa qgI qgw q8g)] [(196,Tryz.f196)] [] 0
noncomputable def q1s:=qo ql2 196 Tryz.f196 true q8I q7U
theorem qa7:qX Tryz.prog qc 196 (qa q8I q7U q1s):=sk ql2 qe q9 (alc jZ (alc q6y (alc qaE (alc qmM aln)))) aln (b1 Tryz.func196) Tryz.func196
def q6F:FIn:=⟨[.str],[]⟩
def q6C:List FOut:=[⟨.str,[],none⟩]
noncomputable def qcM:=qf [(141,qa q5T q6g jV)] [(209,Tryz.f209)] [] 0
noncomputable def q0m:=qo qcM 209 Tryz.f209 true q6F q6C
theorem qg3:qX Tryz.prog qc 209 (qa q6F q6C q0m):=sk qcM qe q9 (alc q7Y aln) aln (b1 Tryz.func209) Tryz.func209
def qbf:FIn:=⟨[.str,.str],[]⟩
def qc5:List FOut:=[⟨(.tuple [.str,(.int .i64)]),[],none⟩]
noncomputable def qm5:=qf [(140,qa ug um zx),(196,qa q8I q7U q1s),(209,qa q6F q6C q0m)] [(188,Tryz.f188)] [] 0
noncomputable def q56:=qo qm5 188 Tryz.f188 true qbf qc5
theorem qfo:qX Tryz.prog qc 188 (qa qbf qc5 q56):=sk qm5 qe q9 (alc jZ (alc qa7 (alc qg3 aln))) aln (b1 Tryz.func188) Tryz.func188
def uy:FIn:=⟨[(.ptr 0 0),(.fn 188 [] []),.str,.str],[.cells [(.int .i64)]]⟩
def uf:List FOut:=[⟨.str,[.cells [(.int .i64)]],none⟩]
noncomputable def q2S:=qf [(188,qa qbf qc5 q56)] [(124,Tryz.f124)] [] 1
noncomputable def wk:=qo q2S 124 Tryz.f124 true uy uf
theorem q79:qX Tryz.prog qc 124 (qa uy uf wk):=sk q2S qe q9 (alc qfo aln) aln (b1 Tryz.func124) Tryz.func124
def yJ:FIn:=⟨[(.ptr 0 0),.str,.str],[.cells [(.int .i64)]]⟩
def yL:List FOut:=[⟨.str,[.cells [(.int .i64)]],none⟩]
noncomputable def qck:=qf [(188,qa qbf qc5 q56),(124,qa uy uf wk)] [(148,Tryz.f148)] [] 1
noncomputable def z8:=qo qck 148 Tryz.f148 true yJ yL
theorem q06:qX Tryz.prog qc 148 (qa yJ yL z8):=sk qck qe q9 (alc qfo (alc q79 aln)) aln (b1 Tryz.func148) Tryz.func148
def q7w:FIn:=⟨[(.ptr 0 0),.str,.str,.str,.str],[.cells [(.int .i64)]]⟩
def q6S:List FOut:=[⟨(.tuple [.str,.str]),[.cells [(.int .i64)]],none⟩]
noncomputable def qhI:=qf [(95,qa vh vj qg),(148,qa yJ yL z8)] [(163,Tryz.f163)] [] 1
noncomputable def q1P:=qo qhI 163 Tryz.f163 true q7w q6S
theorem qci:qX Tryz.prog qc 163 (qa q7w q6S q1P):=sk qhI qe q9 (alc vz (alc q06 aln)) aln (b1 Tryz.func163) Tryz.func163
def q3B:FIn:=⟨[.str,.str],[]⟩
def q3J:List FOut:=[⟨.bool,[],none⟩]
noncomputable def q8i:=qf [(187,qa zC zE qx)] [(147,Tryz.f147)] [] 0
noncomputable def yq:=qo q8i 147 Tryz.f147 true q3B q3J
theorem qd1:qX Tryz.prog qc 147 (qa q3B q3J yq):=sk q8i qe q9 (alc yw aln) aln (b1 Tryz.func147) Tryz.func147
def qag:FIn:=⟨[.str,.str],[]⟩
def q9X:List FOut:=[⟨.str,[],none⟩]
noncomputable def qfG:=qf [] [(149,Tryz.f149)] [] 0
noncomputable def q0D:=qo qfG 149 Tryz.f149 true qag q9X
theorem qiB:qX Tryz.prog qc 149 (qa qag q9X q0D):=sk qfG qe q9 aln aln (b1 Tryz.func149) Tryz.func149
def q9U:FIn:=⟨[.str,.str],[]⟩
def qa3:List FOut:=[⟨(.tuple [.str,.str,(.int .i64)]),[],none⟩]
noncomputable def qfm:=qf [(92,qa q25 q2f zb),(140,qa ug um zx),(143,qa u7 yX zf),(144,qa kl uY zZ),(145,qa yj yi qA),(152,qa q4R q4e jP),(210,qa kj kG zL)] [(189,Tryz.f189)] [] 0
noncomputable def q2X:=qo qfm 189 Tryz.f189 true q9U qa3
theorem qiv:qX Tryz.prog qc 189 (qa q9U qa3 q2X):=sk qfm qe q9 (alc kR (alc jZ (alc yn (alc q1a (alc jx (alc q6y (alc q2v aln))))))) aln (b1 Tryz.func189) Tryz.func189
def qbn:FIn:=⟨[.str,.str],[]⟩
def qbU:List FOut:=[⟨(.tuple [.str,(.int .i64)]),[],none⟩]
noncomputable def qkH:=qf [(114,qa vT vM qD),(189,qa q9U qa3 q2X)] [(150,Tryz.f150)] [] 0
noncomputable def q5d:=qo qkH 150 Tryz.f150 true qbn qbU
theorem qff:qX Tryz.prog qc 150 (qa qbn qbU q5d):=sk qkH qe q9 (alc ve (alc qiv aln)) aln (b1 Tryz.func150) Tryz.func150
def vN:FIn:=⟨[(.ptr 0 0),(.fn 116 [] []),.str,.str],[.cells [(.int .i64)]]⟩
def ui:List FOut:=[⟨.str,[.cells [(.int .i64)]],none⟩]
noncomputable def q2P:=qf [(116,qa q8o q7X q1x)] [(124,Tryz.f124)] [] 1
noncomputable def wc:=qo q2P 124 Tryz.f124 true vN ui
theorem q7B:qX Tryz.prog qc 124 (qa vN ui wc):=sk q2P qe q9 (alc qad aln) aln (b1 Tryz.func124) Tryz.func124
def vJ:FIn:=⟨[(.ptr 0 0),(.fn 150 [] []),.str,.str],[.cells [(.int .i64)]]⟩
def un:List FOut:=[⟨.str,[.cells [(.int .i64)]],none⟩]
noncomputable def q33:=qf [(150,qa qbn qbU q5d)] [(124,Tryz.f124)] [] 1
noncomputable def qJ:=qo q33 124 Tryz.f124 true vJ un
theorem q7i:qX Tryz.prog qc 124 (qa vJ un qJ):=sk q33 qe q9 (alc qff aln) aln (b1 Tryz.func124) Tryz.func124
def zI:FIn:=⟨[(.ptr 0 0),.str,.str],[.cells [(.int .i64)]]⟩
def zF:List FOut:=[⟨.str,[.cells [(.int .i64)]],none⟩]
noncomputable def q7W:=qf [(116,qa q8o q7X q1x),(147,qa q3B q3J yq),(148,qa yJ yL z8),(149,qa qag q9X q0D),(150,qa qbn qbU q5d),(124,qB4 [(vN,qa vN ui wc),(vJ,qa vJ un qJ)])] [(121,Tryz.f121)] [] 1
noncomputable def qw:=qo q7W 121 Tryz.f121 true zI zF
theorem zX:qX Tryz.prog qc 121 (qa zI zF qw):=sk q7W qe q9 (alc qad (alc qd1 (alc q06 (alc qiB (alc qff (alc (qyb (uO Tryz.func124 (by kernel_rfl) (by kernel_rfl)) (qt1 q7B (qt1 q7i qzp))) aln)))))) aln (b1 Tryz.func121) Tryz.func121
def jS:FIn:=⟨[(.imm [.str])],[]⟩
def jX:List FOut:=[⟨(.int .i64),[],none⟩]
def q6q:Tmpl:={ t:=(qB 6 ((.imm [.str])::(.int .i64)::(.int .i64)::qB 9 [])),h:=[] }
def q6r:List Out:=[⟨(.exit 0),{ t:=(qB 18 []),h:=[] }⟩,⟨.ret,{ t:=(.any::.any::(.int .i64)::qB 15 []),h:=[] }⟩]
noncomputable def q3q:=qf [(79,qa wY wX qC)] [(123,Tryz.f123)] [] 0
noncomputable def q0w:=jE q3q 123 Tryz.f123 3 q6q q6r
theorem qg8:qp Tryz.prog qc q3q.nimp (qy Tryz.prog q3q.iter 123) (zB Tryz.f123 3) (qm q6q q6r (ql q0w)):=
 gk q3q qe q9 (alc wx aln) aln (b1 Tryz.func123) Tryz.func123
noncomputable def qfx:=qf [(79,qa wY wX qC)] [(123,Tryz.f123)] [((123,3),qm q6q q6r (ql q0w))] 0
noncomputable def qK:=qo qfx 123 Tryz.f123 true jS jX
theorem yh:qX Tryz.prog qc 123 (qa jS jX qK):=sk qfx qe q9 (alc wx aln) (alc (lk Tryz.func123 qg8) aln) (b1 Tryz.func123) Tryz.func123
def uZ:FIn:=⟨[.str,.str,(.fn 163 [] [])],[]⟩
def kz:List FOut:=[⟨(.tuple [.str,(.int .i64)]),[],none⟩]
noncomputable def q3V:=qf [(113,qa q1M q1q qG),(121,qa zI zF qw),(123,qa jS jX qK),(163,qa q7w q6S q1P)] [(93,Tryz.f93)] [] 0
noncomputable def wK:=qo q3V 93 Tryz.f93 true uZ kz
theorem q8O:qX Tryz.prog qc 93 (qa uZ kz wK):=sk q3V qe q9 (alc q0F (alc zX (alc yh (alc qci aln)))) aln (b1 Tryz.func93) Tryz.func93
def qc6:FIn:=⟨[.str,.str],[]⟩
def qbJ:List FOut:=[⟨(.tuple [.str,(.int .i64)]),[],none⟩]
noncomputable def qkf:=qf [(163,qa q7w q6S q1P),(93,qa uZ kz wK)] [(133,Tryz.f133)] [] 0
noncomputable def q5a:=qo qkf 133 Tryz.f133 true qc6 qbJ
theorem qfE:qX Tryz.prog qc 133 (qa qc6 qbJ q5a):=sk qkf qe q9 (alc qci (alc q8O aln)) aln (b1 Tryz.func133) Tryz.func133
def uA:FIn:=⟨[(.ptr 0 0),(.fn 133 [] []),.str,.str],[.cells [(.int .i64)]]⟩
def uD:List FOut:=[⟨.str,[.cells [(.int .i64)]],none⟩]
noncomputable def q2W:=qf [(133,qa qc6 qbJ q5a)] [(110,Tryz.f110)] [] 1
noncomputable def wt:=qo q2W 110 Tryz.f110 true uA uD
theorem q76:qX Tryz.prog qc 110 (qa uA uD wt):=sk q2W qe q9 (alc qfE aln) aln (b1 Tryz.func110) Tryz.func110
def yN:FIn:=⟨[(.ptr 0 0),.str,.str],[.cells [(.int .i64)]]⟩
def yM:List FOut:=[⟨.str,[.cells [(.int .i64)]],none⟩]
noncomputable def qcJ:=qf [(133,qa qc6 qbJ q5a),(110,qa uA uD wt)] [(102,Tryz.f102)] [] 1
noncomputable def qF:=qo qcJ 102 Tryz.f102 true yN yM
theorem q00:qX Tryz.prog qc 102 (qa yN yM qF):=sk qcJ qe q9 (alc qfE (alc q76 aln)) aln (b1 Tryz.func102) Tryz.func102
def uB:FIn:=⟨[(.ptr 0 0),(.fn 196 [] []),.str,.str],[.cells [(.int .i64)]]⟩
def uw:List FOut:=[⟨.str,[.cells [(.int .i64)]],none⟩]
noncomputable def q2R:=qf [(196,qa q8I q7U q1s)] [(124,Tryz.f124)] [] 1
noncomputable def wv:=qo q2R 124 Tryz.f124 true uB uw
theorem q7g:qX Tryz.prog qc 124 (qa uB uw wv):=sk q2R qe q9 (alc qa7 aln) aln (b1 Tryz.func124) Tryz.func124
def q3f:FIn:=⟨[(.ptr 0 0),.str,.str],[.cells [(.int .i64)]]⟩
def q3d:List FOut:=[⟨.str,[.cells [(.int .i64)]],none⟩]
noncomputable def qca:=qf [(196,qa q8I q7U q1s),(124,qa uB uw wv)] [(165,Tryz.f165)] [] 1
noncomputable def jq:=qo qca 165 Tryz.f165 true q3f q3d
theorem q7M:qX Tryz.prog qc 165 (qa q3f q3d jq):=sk qca qe q9 (alc qa7 (alc q7g aln)) aln (b1 Tryz.func165) Tryz.func165
def q7h:FIn:=⟨[(.ptr 0 0),.str,.str,.str,.str],[.cells [(.int .i64)]]⟩
def q78:List FOut:=[⟨(.tuple [.str,.str]),[.cells [(.int .i64)]],none⟩]
noncomputable def qgX:=qf [(95,qa vh vj qg),(165,qa q3f q3d jq)] [(164,Tryz.f164)] [] 1
noncomputable def q22:=qo qgX 164 Tryz.f164 true q7h q78
theorem qcj:qX Tryz.prog qc 164 (qa q7h q78 q22):=sk qgX qe q9 (alc vz (alc q7M aln)) aln (b1 Tryz.func164) Tryz.func164
def kv:FIn:=⟨[.str,.str,(.fn 164 [] [])],[]⟩
def kh:List FOut:=[⟨(.tuple [.str,(.int .i64)]),[],none⟩]
noncomputable def q3Z:=qf [(113,qa q1M q1q qG),(121,qa zI zF qw),(123,qa jS jX qK),(164,qa q7h q78 q22)] [(93,Tryz.f93)] [] 0
noncomputable def wI:=qo q3Z 93 Tryz.f93 true kv kh
theorem q8h:qX Tryz.prog qc 93 (qa kv kh wI):=sk q3Z qe q9 (alc q0F (alc zX (alc yh (alc qcj aln)))) aln (b1 Tryz.func93) Tryz.func93
def qbv:FIn:=⟨[.str,.str],[]⟩
def qbt:List FOut:=[⟨(.tuple [.str,(.int .i64)]),[],none⟩]
noncomputable def qkz:=qf [(164,qa q7h q78 q22),(93,qa kv kh wI)] [(134,Tryz.f134)] [] 0
noncomputable def q5t:=qo qkz 134 Tryz.f134 true qbv qbt
theorem qfi:qX Tryz.prog qc 134 (qa qbv qbt q5t):=sk qkz qe q9 (alc qcj (alc q8h aln)) aln (b1 Tryz.func134) Tryz.func134
def ue:FIn:=⟨[(.ptr 0 0),(.fn 134 [] []),.str,.str],[.cells [(.int .i64)]]⟩
def uk:List FOut:=[⟨.str,[.cells [(.int .i64)]],none⟩]
noncomputable def q2J:=qf [(134,qa qbv qbt q5t)] [(110,Tryz.f110)] [] 1
noncomputable def wd:=qo q2J 110 Tryz.f110 true ue uk
theorem q7p:qX Tryz.prog qc 110 (qa ue uk wd):=sk q2J qe q9 (alc qfi aln) aln (b1 Tryz.func110) Tryz.func110
def q0t:FIn:=⟨[(.ptr 0 0),.str,.str],[.cells [(.int .i64)]]⟩
def q0p:List FOut:=[⟨.str,[.cells [(.int .i64)]],none⟩]
noncomputable def qcB:=qf [(134,qa qbv qbt q5t),(110,qa ue uk wd)] [(104,Tryz.f104)] [] 1
noncomputable def zq:=qo qcB 104 Tryz.f104 true q0t q0p
theorem q3E:qX Tryz.prog qc 104 (qa q0t q0p zq):=sk qcB qe q9 (alc qfi (alc q7p aln)) aln (b1 Tryz.func104) Tryz.func104
def q7u:FIn:=⟨[(.ptr 0 0),.str,.str,.str,.str],[.cells [(.int .i64)]]⟩
def q7f:List FOut:=[⟨(.tuple [.str,.str]),[.cells [(.int .i64)]],none⟩]
noncomputable def qgT:=qf [(95,qa vh vj qg)] [(94,Tryz.f94)] [] 1
noncomputable def q24:=qo qgT 94 Tryz.f94 true q7u q7f
theorem qcK:qX Tryz.prog qc 94 (qa q7u q7f q24):=sk qgT qe q9 (alc vz aln) aln (b1 Tryz.func94) Tryz.func94
def kr:FIn:=⟨[.str,.str,(.fn 94 [] [])],[]⟩
def uT:List FOut:=[⟨(.tuple [.str,(.int .i64)]),[],none⟩]
noncomputable def q3U:=qf [(94,qa q7u q7f q24),(113,qa q1M q1q qG),(121,qa zI zF qw),(123,qa jS jX qK)] [(93,Tryz.f93)] [] 0
noncomputable def wE:=qo q3U 93 Tryz.f93 true kr uT
theorem q8c:qX Tryz.prog qc 93 (qa kr uT wE):=sk q3U qe q9 (alc qcK (alc q0F (alc zX (alc yh aln)))) aln (b1 Tryz.func93) Tryz.func93
def q5o:FIn:=⟨[.str,.str],[]⟩
def q5g:List FOut:=[⟨(.tuple [.str,(.int .i64)]),[],none⟩]
noncomputable def qlL:=qf [(94,qa q7u q7f q24),(93,qa kr uT wE)] [(63,Tryz.f63)] [] 0
noncomputable def q1l:=qo qlL 63 Tryz.f63 true q5o q5g
theorem q5z:qX Tryz.prog qc 63 (qa q5o q5g q1l):=sk qlL qe q9 (alc qcK (alc q8c aln)) aln (b1 Tryz.func63) Tryz.func63
def ul:FIn:=⟨[(.ptr 0 0),(.fn 63 [] []),.str,.str],[.cells [(.int .i64)]]⟩
def uq:List FOut:=[⟨.str,[.cells [(.int .i64)]],none⟩]
noncomputable def q39:=qf [(63,qa q5o q5g q1l)] [(110,Tryz.f110)] [] 1
noncomputable def we:=qo q39 110 Tryz.f110 true ul uq
theorem q7k:qX Tryz.prog qc 110 (qa ul uq we):=sk q39 qe q9 (alc q5z aln) aln (b1 Tryz.func110) Tryz.func110
def q0k:FIn:=⟨[(.ptr 0 0),.str,.str],[.cells [(.int .i64)]]⟩
def q0h:List FOut:=[⟨.str,[.cells [(.int .i64)]],none⟩]
noncomputable def qcq:=qf [(63,qa q5o q5g q1l),(110,qa ul uq we)] [(106,Tryz.f106)] [] 1
noncomputable def qM:=qo qcq 106 Tryz.f106 true q0k q0h
theorem q3D:qX Tryz.prog qc 106 (qa q0k q0h qM):=sk qcq qe q9 (alc q5z (alc q7k aln)) aln (b1 Tryz.func106) Tryz.func106
def kp:FIn:=⟨[(.ptr 0 0),(.agg [.str,.str]),(.agg [.str,.str])],[.cells [(.int .i64)]]⟩
def ki:List FOut:=[⟨(.agg [.str,.str]),[.cells [(.int .i64)]],none⟩]
noncomputable def qaR:=qf [(102,qa yN yM qF)] [(108,Tryz.f108)] [] 1
noncomputable def zO:=qo qaR 108 Tryz.f108 true kp ki
theorem q2q:qX Tryz.prog qc 108 (qa kp ki zO):=sk qaR qe q9 (alc q00 aln) aln (b1 Tryz.func108) Tryz.func108
def q0a:FIn:=⟨[(.ptr 0 0),(.agg [.str,.str]),(.agg [.str,.str])],[.cells [(.int .i64)]]⟩
def q0i:List FOut:=[⟨.str,[.cells [(.int .i64)]],none⟩]
noncomputable def qcP:=qf [(104,qa q0t q0p zq),(106,qa q0k q0h qM)] [(109,Tryz.f109)] [] 1
noncomputable def zp:=qo qcP 109 Tryz.f109 true q0a q0i
theorem q3L:qX Tryz.prog qc 109 (qa q0a q0i zp):=sk qcP qe q9 (alc q3E (alc q3D aln)) aln (b1 Tryz.func109) Tryz.func109
def q7v:FIn:=⟨[(.ptr 0 0),.str,.str,.str,.str],[.cells [(.int .i64)]]⟩
def q6Y:List FOut:=[⟨(.tuple [.str,.str]),[.cells [(.int .i64)]],none⟩]
noncomputable def qhs:=qf [(95,qa vh vj qg)] [(136,Tryz.f136)] [] 1
noncomputable def q2a:=qo qhs 136 Tryz.f136 true q7v q6Y
theorem qcd:qX Tryz.prog qc 136 (qa q7v q6Y q2a):=sk qhs qe q9 (alc vz aln) aln (b1 Tryz.func136) Tryz.func136
def ko:FIn:=⟨[.str,.str,(.fn 136 [] [])],[]⟩
def uQ:List FOut:=[⟨(.tuple [.str,(.int .i64)]),[],none⟩]
noncomputable def q41:=qf [(113,qa q1M q1q qG),(121,qa zI zF qw),(123,qa jS jX qK),(136,qa q7v q6Y q2a)] [(93,Tryz.f93)] [] 0
noncomputable def wH:=qo q41 93 Tryz.f93 true ko uQ
theorem q82:qX Tryz.prog qc 93 (qa ko uQ wH):=sk q41 qe q9 (alc q0F (alc zX (alc yh (alc qcd aln)))) aln (b1 Tryz.func93) Tryz.func93
def qbF:FIn:=⟨[.str,.str],[]⟩
def qbR:List FOut:=[⟨(.tuple [.str,(.int .i64)]),[],none⟩]
noncomputable def qkA:=qf [(123,qa jS jX qK),(136,qa q7v q6Y q2a),(93,qa ko uQ wH)] [(111,Tryz.f111)] [] 0
noncomputable def q5b:=qo qkA 111 Tryz.f111 true qbF qbR
theorem qfl:qX Tryz.prog qc 111 (qa qbF qbR q5b):=sk qkA qe q9 (alc yh (alc qcd (alc q82 aln))) aln (b1 Tryz.func111) Tryz.func111
def uu:FIn:=⟨[(.ptr 0 0),(.fn 111 [] []),.str,.str],[.cells [(.int .i64)]]⟩
def ut:List FOut:=[⟨.str,[.cells [(.int .i64)]],none⟩]
noncomputable def q2E:=qf [(111,qa qbF qbR q5b)] [(110,Tryz.f110)] [] 1
noncomputable def zu:=qo q2E 110 Tryz.f110 true uu ut
theorem q7A:qX Tryz.prog qc 110 (qa uu ut zu):=sk q2E qe q9 (alc qfl aln) aln (b1 Tryz.func110) Tryz.func110
def q1g:FIn:=⟨[(.ptr 0 0),(.imm [.str,.str,.str]),(.agg [(.int .i64),(.int .i64),(.int .i64)])],[.cells [(.int .i64)]]⟩
def q10:List FOut:=[⟨(.tuple [(.agg [.str,.str,.str,.str,.str]),.bool]),[.cells [(.int .i64)]],none⟩]
noncomputable def q9k:=qf [(102,qa yN yM qF),(104,qa q0t q0p zq),(106,qa q0k q0h qM),(108,qa kp ki zO),(109,qa q0a q0i zp),(111,qa qbF qbR q5b),(110,qa uu ut zu)] [(72,Tryz.f72)] [] 1
noncomputable def wV:=qo q9k 72 Tryz.f72 true q1g q10
theorem q5V:qX Tryz.prog qc 72 (qa q1g q10 wV):=sk q9k qe q9 (alc q00 (alc q3E (alc q3D (alc q2q (alc q3L (alc qfl (alc q7A aln))))))) aln (b1 Tryz.func72) Tryz.func72
def qdR:FIn:=⟨[.str],[]⟩
def qdn:List FOut:=[⟨(.tuple [(.int .i64),(.int .i64)]),[],none⟩]
noncomputable def qjb:=qf [(114,qa vT vM qD),(141,qa q5T q6g jV)] [(220,Tryz.f220)] [] 0
noncomputable def q66:=qo qjb 220 Tryz.f220 true qdR qdn
theorem qla:qX Tryz.prog qc 220 (qa qdR qdn q66):=sk qjb qe q9 (alc ve (alc q7Y aln)) aln (b1 Tryz.func220) Tryz.func220
def q1Y:FIn:=⟨[(.ptr 0 0),.str],[.cells [(.int .i64)]]⟩
def q1X:List FOut:=[⟨(.int .i64),[.cells [(.int .i64)]],none⟩]
noncomputable def qaq:=qf [(220,qa qdR qdn q66)] [(198,Tryz.f198)] [] 1
noncomputable def zd:=qo qaq 198 Tryz.f198 true q1Y q1X
theorem q6I:qX Tryz.prog qc 198 (qa q1Y q1X zd):=sk qaq qe q9 (alc qla aln) aln (b1 Tryz.func198) Tryz.func198
def q5i:FIn:=⟨[(.ptr 0 0),.str,.str,.str],[.cells [(.int .i64)]]⟩
def q5e:List FOut:=[⟨(.int .i64),[.cells [(.int .i64)]],none⟩]
noncomputable def qaT:=qf [(95,qa vh vj qg),(148,qa yJ yL z8),(198,qa q1Y q1X zd)] [(197,Tryz.f197)] [] 1
noncomputable def yg:=qo qaT 197 Tryz.f197 true q5i q5e
theorem qf3:qX Tryz.prog qc 197 (qa q5i q5e yg):=sk qaT qe q9 (alc vz (alc q06 (alc q6I aln))) aln (b1 Tryz.func197) Tryz.func197
def q5c:FIn:=⟨[.str,.str,.str,.str,.str],[]⟩
def q5h:List FOut:=[⟨(.tuple [(.int .i64),(.int .i64)]),[],none⟩]
noncomputable def qan:=qf [(95,qa vh vj qg),(113,qa q1M q1q qG),(123,qa jS jX qK),(148,qa yJ yL z8),(165,qa q3f q3d jq),(197,qa q5i q5e yg),(198,qa q1Y q1X zd)] [(166,Tryz.f166)] [] 0
noncomputable def kg:=qo qan 166 Tryz.f166 true q5c q5h
theorem qeY:qX Tryz.prog qc 166 (qa q5c q5h kg):=sk qan qe q9 (alc vz (alc q0F (alc yh (alc q06 (alc q7M (alc qf3 (alc q6I aln))))))) aln (b1 Tryz.func166) Tryz.func166
def q6o:FIn:=⟨[.str,.str,.str],[]⟩
def q6E:List FOut:=[⟨(.tuple [(.int .i64),(.int .i64)]),[],none⟩]
noncomputable def qcg:=qf [(166,qa q5c q5h kg)] [(135,Tryz.f135)] [] 0
noncomputable def q0s:=qo qcg 135 Tryz.f135 true q6o q6E
theorem qgx:qX Tryz.prog qc 135 (qa q6o q6E q0s):=sk qcg qe q9 (alc qeY aln) aln (b1 Tryz.func135) Tryz.func135
def q29:FIn:=⟨[(.ptr 0 0),.str,.str,.str],[.cells [(.int .i64)]]⟩
def q1W:List FOut:=[⟨(.int .i64),[.cells [(.int .i64)]],none⟩]
noncomputable def qb2:=qf [(135,qa q6o q6E q0s)] [(105,Tryz.f105)] [] 1
noncomputable def vA:=qo qb2 105 Tryz.f105 true q29 q1W
theorem q6H:qX Tryz.prog qc 105 (qa q29 q1W vA):=sk qb2 qe q9 (alc qgx aln) aln (b1 Tryz.func105) Tryz.func105
def q1h:FIn:=⟨[(.ptr 0 0),(.agg [.str,.str,.str]),(.agg [.str,.str,.str,.str,.str])],[.cells [(.int .i64)]]⟩
def q0U:List FOut:=[⟨.bool,[.cells [(.int .i64)]],none⟩]
noncomputable def q96:=qf [(102,qa yN yM qF),(104,qa q0t q0p zq),(105,qa q29 q1W vA),(106,qa q0k q0h qM),(108,qa kp ki zO),(109,qa q0a q0i zp)] [(74,Tryz.f74)] [] 1
noncomputable def jd:=qo q96 74 Tryz.f74 true q1h q0U
theorem q69:qX Tryz.prog qc 74 (qa q1h q0U jd):=sk q96 qe q9 (alc q00 (alc q3E (alc q6H (alc q3D (alc q2q (alc q3L aln)))))) aln (b1 Tryz.func74) Tryz.func74
def zG:FIn:=⟨[(.ptr 0 0),(.imm [.str,.str,.str]),(.agg [(.int .i64),(.int .i64),(.int .i64)])],[.cells [(.int .i64)]]⟩
def zH:List FOut:=[⟨.bool,[.cells [(.int .i64)]],none⟩]
def uz:Tmpl:={ t:=((.imm [.str,.str,.str])::(.fn 76 [] [(.ptr 4 0)])::qB 5 ((.int .i64)::(.int .i64)::qB 10 [])),h:=[.cells [(.int .i64)],.cells [(.ptr 0 0)],.cells [(.int .i64),(.int .i64),(.int .i64)],.cells [.str,.str,.str,.str,.str],.cells [(.fn 73 [] [(.ptr 1 0),(.ptr 3 0)])]],fs:=[[(.imm [.str,.str,.str]),(.fn 76 [] [(.ptr 4 0)]),.any,.any,(.blit false),(.imm [.str,.str,.str]),(.fn 76 [] [(.ptr 4 0)]),.any,.any],[(.ptr 0 0),(.imm [.str,.str,.str]),(.agg [(.int .i64),(.int .i64),(.int .i64)]),(.ptr 1 0),.any,(.ptr 2 0),(.blit false),(.ptr 3 0),.bool,(.ptr 4 0),(.tuple [(.agg [.str,.str,.str,.str,.str]),.bool]),(.ptr 0 0),(.imm [.str,.str,.str]),(.agg [(.int .i64),(.int .i64),(.int .i64)]),(.tuple [(.agg [.str,.str,.str,.str,.str]),.bool]),(.agg [.str,.str,.str,.str,.str]),.bool,(.fn 73 [] [(.ptr 1 0),(.ptr 3 0)]),.bool,(.blit true),(.imm [.str,.str,.str]),(.fn 76 [] [(.ptr 4 0)]),.any,.any,.any,.any,.any,.any,.any,.any,.any,.any],[]] }
def ux:List Out:=[⟨(.exit 0),{ t:=(qB 19 []),h:=[.cells [(.int .i64)],.cells [(.ptr 0 0)],.cells [(.int .i64),(.int .i64),(.int .i64)],.cells [.str,.str,.str,.str,.str],.cells [(.fn 73 [] [(.ptr 1 0),(.ptr 3 0)])]],fs:=[[(.imm [.str,.str,.str]),(.fn 76 [] [(.ptr 4 0)]),.any,.any,(.blit false),(.imm [.str,.str,.str]),(.fn 76 [] [(.ptr 4 0)]),.any,.any],[(.ptr 0 0),(.imm [.str,.str,.str]),(.agg [(.int .i64),(.int .i64),(.int .i64)]),(.ptr 1 0),.any,(.ptr 2 0),(.blit false),(.ptr 3 0),.bool,(.ptr 4 0),(.tuple [(.agg [.str,.str,.str,.str,.str]),.bool]),(.ptr 0 0),(.imm [.str,.str,.str]),(.agg [(.int .i64),(.int .i64),(.int .i64)]),(.tuple [(.agg [.str,.str,.str,.str,.str]),.bool]),(.agg [.str,.str,.str,.str,.str]),.bool,(.fn 73 [] [(.ptr 1 0),(.ptr 3 0)]),.bool,(.blit true),(.imm [.str,.str,.str]),(.fn 76 [] [(.ptr 4 0)]),.any,.any,.any,.any,.any,.any,.any,.any,.any,.any],[]] }⟩,⟨.ret,{ t:=(qB 4 ((.int .i64)::qB 14 [])),h:=[.cells [(.int .i64)],.cells [(.ptr 0 0)],.cells [(.int .i64),(.int .i64),(.int .i64)],.cells [.str,.str,.str,.str,.str],.cells [(.fn 73 [] [(.ptr 1 0),(.ptr 3 0)])]],fs:=[[(.imm [.str,.str,.str]),(.fn 76 [] [(.ptr 4 0)]),.any,.any,(.blit false),(.imm [.str,.str,.str]),(.fn 76 [] [(.ptr 4 0)]),.any,.any],[(.ptr 0 0),(.imm [.str,.str,.str]),(.agg [(.int .i64),(.int .i64),(.int .i64)]),(.ptr 1 0),.any,(.ptr 2 0),(.blit false),(.ptr 3 0),.bool,(.ptr 4 0),(.tuple [(.agg [.str,.str,.str,.str,.str]),.bool]),(.ptr 0 0),(.imm [.str,.str,.str]),(.agg [(.int .i64),(.int .i64),(.int .i64)]),(.tuple [(.agg [.str,.str,.str,.str,.str]),.bool]),(.agg [.str,.str,.str,.str,.str]),.bool,(.fn 73 [] [(.ptr 1 0),(.ptr 3 0)]),.bool,(.blit true),(.imm [.str,.str,.str]),(.fn 76 [] [(.ptr 4 0)]),.any,.any,.any,.any,.any,.any,.any,.any,.any,.any],[]] }⟩]
noncomputable def vR:=qf [(72,qa q1g q10 wV),(74,qa q1h q0U jd)] [(48,Tryz.f48),(73,Tryz.f73),(75,Tryz.f75),(76,Tryz.f76),(112,Tryz.f112)] [] 1
noncomputable def wu:=jE vR 112 Tryz.f112 3 uz ux
theorem q7m:qp Tryz.prog qc vR.nimp (qy Tryz.prog vR.iter 112) (zB Tryz.f112 3) (qm uz ux (ql wu)):=
 gk vR qe q9 (alc q5V (alc q69 aln)) aln (alc (bk Tryz.func48) (alc (bk Tryz.func73) (alc (bk Tryz.func75) (alc (bk Tryz.func76) (alc (bk Tryz.func112) aln))))) Tryz.func112
noncomputable def q83:=qf [(72,qa q1g q10 wV),(74,qa q1h q0U jd)] [(48,Tryz.f48),(73,Tryz.f73),(75,Tryz.f75),(76,Tryz.f76),(112,Tryz.f112)] [((112,3),qm uz ux (ql wu))] 1
noncomputable def qE:=qo q83 48 Tryz.f48 true zG zH
theorem zV:qX Tryz.prog qc 48 (qa zG zH qE):=sk q83 qe q9 (alc q5V (alc q69 aln)) (alc (lk Tryz.func112 q7m) aln) (alc (bk Tryz.func48) (alc (bk Tryz.func73) (alc (bk Tryz.func75) (alc (bk Tryz.func76) (alc (bk Tryz.func112) aln))))) Tryz.func48
def qV:FIn:=⟨[(.ptr 0 0),(.imm [.str,.str,.str])],[.cells [(.int .i64)]]⟩
def qT:List FOut:=[⟨(.tuple [(.agg [(.int .i64),(.int .i64),(.int .i64)]),.bool]),[.cells [(.int .i64)]],none⟩]
def uU:Tmpl:={ t:=(.yld::(.ptr 5 0)::qB 6 ((.int .i64)::(.int .i64)::qB 35 [])),h:=[.cells [(.int .i64)],.cells [(.ptr 0 0)],.cells [(.imm [.str,.str,.str])],.cells [(.int .i64),(.int .i64),(.int .i64)],.cells [.bool],.cells [(.int .i64)]],fs:=[[.any,.any,(.ptr 1 0),(.ptr 2 0),(.ptr 3 0),(.ptr 4 0),.any,.any,.any,(.fn 107 [] [(.ptr 5 0)]),.any,.any,.any,.any,.any,.any,.any],[]] }
def uV:List Out:=[⟨(.exit 0),{ t:=(.yld::(.ptr 5 0)::qB 43 []),h:=[.cells [(.int .i64)],.cells [(.ptr 0 0)],.cells [(.imm [.str,.str,.str])],.cells [(.int .i64),(.int .i64),(.int .i64)],.cells [.bool],.cells [(.int .i64)]],fs:=[[.any,.any,(.ptr 1 0),(.ptr 2 0),(.ptr 3 0),(.ptr 4 0),.any,.any,.any,(.fn 107 [] [(.ptr 5 0)]),.any,.any,.any,.any,.any,.any,.any],[]] }⟩,⟨.ret,{ t:=(qB 45 []),h:=[.cells [(.int .i64)],.cells [(.ptr 0 0)],.cells [(.imm [.str,.str,.str])],.cells [(.int .i64),(.int .i64),(.int .i64)],.cells [.bool],.cells [(.int .i64)]],fs:=[[.any,.any,(.ptr 1 0),(.ptr 2 0),(.ptr 3 0),(.ptr 4 0),.any,.any,.any,(.fn 107 [] [(.ptr 5 0)]),.any,.any,.any,.any,.any,.any,.any],[]],pend:=(.some .ret) }⟩]
noncomputable def j8:Env:={ tt:=q8l,glob:=qc,spec:=[(48,qa zG zH qE)],body:=[(46,Tryz.f46),(71,Tryz.f71),(107,Tryz.f107)],loops:=[],nimp:=1,iter:=[(107,46,3)] }
noncomputable def wC:=qr3 j8 (some (46,Tryz.f46,3)) 107 Tryz.f107 2 uU uV
theorem q84:qp Tryz.prog qc j8.nimp (qy Tryz.prog j8.iter 107) (zB Tryz.f107 2) (qm uU uV (ql wC)):=
 q62 (E:=j8) qe ⟨q3S q9,⟨(alc zV aln),aln⟩,aln,(alc (bk Tryz.func46) (alc (bk Tryz.func71) (alc (bk Tryz.func107) aln)))⟩ Tryz.func107 (by kernel_rfl) (y:=some (46,Tryz.f46,3)) ⟨Tryz.func46,by kernel_rfl⟩ (by kernel_rfl) (by kernel_rfl) (fun _=>rfl)
def uh:Tmpl:={ t:=(.yld::(.ptr 5 0)::.any::.any::(.int .i64)::(.int .i64)::qB 13 ((.int .i64)::(.int .i64)::qB 9 ((.vec 6)::(.int .i64)::(.int .i64)::qB 12 []))),h:=[.cells [(.int .i64)],.cells [(.ptr 0 0)],.cells [(.imm [.str,.str,.str])],.cells [(.int .i64),(.int .i64),(.int .i64)],.cells [.bool],.cells [(.int .i64)],.vec 3 [(.int .i64)]],fs:=[[.any,.any,(.ptr 1 0),(.ptr 2 0),(.ptr 3 0),(.ptr 4 0),.any,.any,.any,(.fn 107 [] [(.ptr 5 0)]),.any,.any,.any,.any,.any,.any,.any],[]] }
def uE:List Out:=[⟨(.exit 6),{ t:=(.yld::(.ptr 5 0)::.any::.any::(.int .i64)::(.int .i64)::qB 13 ((.int .i64)::(.int .i64)::qB 24 [])),h:=[.cells [(.int .i64)],.cells [(.ptr 0 0)],.cells [(.imm [.str,.str,.str])],.cells [(.int .i64),(.int .i64),(.int .i64)],.cells [.bool],.cells [(.int .i64)]],fs:=[[.any,.any,(.ptr 1 0),(.ptr 2 0),(.ptr 3 0),(.ptr 4 0),.any,.any,.any,(.fn 107 [] [(.ptr 5 0)]),.any,.any,.any,.any,.any,.any,.any],[]] }⟩,⟨.ret,{ t:=(qB 45 []),h:=[.cells [(.int .i64)],.cells [(.ptr 0 0)],.cells [(.imm [.str,.str,.str])],.cells [(.int .i64),(.int .i64),(.int .i64)],.cells [.bool],.cells [(.int .i64)]],fs:=[[.any,.any,(.ptr 1 0),(.ptr 2 0),(.ptr 3 0),(.ptr 4 0),.any,.any,.any,(.fn 107 [] [(.ptr 5 0)]),.any,.any,.any,.any,.any,.any,.any],[]],pend:=(.some .ret) }⟩]
noncomputable def vP:Env:={ tt:=q8l,glob:=qc,spec:=[(48,qa zG zH qE)],body:=[(46,Tryz.f46),(71,Tryz.f71),(107,Tryz.f107)],loops:=[],nimp:=1,iter:=[(107,46,3)] }
noncomputable def wg:=qr3 vP (some (46,Tryz.f46,3)) 107 Tryz.f107 20 uh uE
theorem q7t:qp Tryz.prog qc vP.nimp (qy Tryz.prog vP.iter 107) (zB Tryz.f107 20) (qm uh uE (ql wg)):=
 q62 (E:=vP) qe ⟨q3S q9,⟨(alc zV aln),aln⟩,aln,(alc (bk Tryz.func46) (alc (bk Tryz.func71) (alc (bk Tryz.func107) aln)))⟩ Tryz.func107 (by kernel_rfl) (y:=some (46,Tryz.f46,3)) ⟨Tryz.func46,by kernel_rfl⟩ (by kernel_rfl) (by kernel_rfl) (fun _=>rfl)
def ur:Tmpl:={ t:=(.yld::(.ptr 5 0)::.any::.any::(.int .i64)::(.int .i64)::qB 13 ((.int .i64)::(.int .i64)::qB 24 [])),h:=[.cells [(.int .i64)],.cells [(.ptr 0 0)],.cells [(.imm [.str,.str,.str])],.cells [(.int .i64),(.int .i64),(.int .i64)],.cells [.bool],.cells [(.int .i64)]],fs:=[[.any,.any,(.ptr 1 0),(.ptr 2 0),(.ptr 3 0),(.ptr 4 0),.any,.any,.any,(.fn 107 [] [(.ptr 5 0)]),.any,.any,.any,.any,.any,.any,.any],[]] }
def ud:List Out:=[⟨(.exit 4),{ t:=(.yld::(.ptr 5 0)::qB 17 ((.int .i64)::(.int .i64)::qB 24 [])),h:=[.cells [(.int .i64)],.cells [(.ptr 0 0)],.cells [(.imm [.str,.str,.str])],.cells [(.int .i64),(.int .i64),(.int .i64)],.cells [.bool],.cells [(.int .i64)]],fs:=[[.any,.any,(.ptr 1 0),(.ptr 2 0),(.ptr 3 0),(.ptr 4 0),.any,.any,.any,(.fn 107 [] [(.ptr 5 0)]),.any,.any,.any,.any,.any,.any,.any],[]] }⟩,⟨.ret,{ t:=(qB 45 []),h:=[.cells [(.int .i64)],.cells [(.ptr 0 0)],.cells [(.imm [.str,.str,.str])],.cells [(.int .i64),(.int .i64),(.int .i64)],.cells [.bool],.cells [(.int .i64)]],fs:=[[.any,.any,(.ptr 1 0),(.ptr 2 0),(.ptr 3 0),(.ptr 4 0),.any,.any,.any,(.fn 107 [] [(.ptr 5 0)]),.any,.any,.any,.any,.any,.any,.any],[]],pend:=(.some .ret) }⟩]
noncomputable def vL:Env:={ tt:=q8l,glob:=qc,spec:=[(48,qa zG zH qE)],body:=[(46,Tryz.f46),(71,Tryz.f71),(107,Tryz.f107)],loops:=[((107,20),qm uh uE (ql wg))],nimp:=1,iter:=[(107,46,3)] }
noncomputable def w9:=qr3 vL (some (46,Tryz.f46,3)) 107 Tryz.f107 15 ur ud
theorem q7y:qp Tryz.prog qc vL.nimp (qy Tryz.prog vL.iter 107) (zB Tryz.f107 15) (qm ur ud (ql w9)):=
 q62 (E:=vL) qe ⟨q3S q9,⟨(alc zV aln),aln⟩,(alc (lk Tryz.func107 q7t) aln),(alc (bk Tryz.func46) (alc (bk Tryz.func71) (alc (bk Tryz.func107) aln)))⟩ Tryz.func107 (by kernel_rfl) (y:=some (46,Tryz.f46,3)) ⟨Tryz.func46,by kernel_rfl⟩ (by kernel_rfl) (by kernel_rfl) (fun _=>rfl)
def uX:Tmpl:={ t:=(.yld::(.ptr 5 0)::qB 17 ((.int .i64)::(.int .i64)::qB 24 [])),h:=[.cells [(.int .i64)],.cells [(.ptr 0 0)],.cells [(.imm [.str,.str,.str])],.cells [(.int .i64),(.int .i64),(.int .i64)],.cells [.bool],.cells [(.int .i64)]],fs:=[[.any,.any,(.ptr 1 0),(.ptr 2 0),(.ptr 3 0),(.ptr 4 0),.any,.any,.any,(.fn 107 [] [(.ptr 5 0)]),.any,.any,.any,.any,.any,.any,.any],[]] }
def ke:List Out:=[⟨(.exit 2),{ t:=(qB 45 []),h:=[.cells [(.int .i64)],.cells [(.ptr 0 0)],.cells [(.imm [.str,.str,.str])],.cells [(.int .i64),(.int .i64),(.int .i64)],.cells [.bool],.cells [(.int .i64)]],fs:=[[.any,.any,(.ptr 1 0),(.ptr 2 0),(.ptr 3 0),(.ptr 4 0),.any,.any,.any,(.fn 107 [] [(.ptr 5 0)]),.any,.any,.any,.any,.any,.any,.any],[]] }⟩,⟨.ret,{ t:=(qB 45 []),h:=[.cells [(.int .i64)],.cells [(.ptr 0 0)],.cells [(.imm [.str,.str,.str])],.cells [(.int .i64),(.int .i64),(.int .i64)],.cells [.bool],.cells [(.int .i64)]],fs:=[[.any,.any,(.ptr 1 0),(.ptr 2 0),(.ptr 3 0),(.ptr 4 0),.any,.any,.any,(.fn 107 [] [(.ptr 5 0)]),.any,.any,.any,.any,.any,.any,.any],[]],pend:=(.some .ret) }⟩]
noncomputable def jb:Env:={ tt:=q8l,glob:=qc,spec:=[(48,qa zG zH qE)],body:=[(46,Tryz.f46),(71,Tryz.f71),(107,Tryz.f107)],loops:=[((107,15),qm ur ud (ql w9))],nimp:=1,iter:=[(107,46,3)] }
noncomputable def wF:=qr3 jb (some (46,Tryz.f46,3)) 107 Tryz.f107 9 uX ke
theorem q8e:qp Tryz.prog qc jb.nimp (qy Tryz.prog jb.iter 107) (zB Tryz.f107 9) (qm uX ke (ql wF)):=
 q62 (E:=jb) qe ⟨q3S q9,⟨(alc zV aln),aln⟩,(alc (lk Tryz.func107 q7y) aln),(alc (bk Tryz.func46) (alc (bk Tryz.func71) (alc (bk Tryz.func107) aln)))⟩ Tryz.func107 (by kernel_rfl) (y:=some (46,Tryz.f46,3)) ⟨Tryz.func46,by kernel_rfl⟩ (by kernel_rfl) (by kernel_rfl) (fun _=>rfl)
noncomputable def q9v:Env:={ tt:=q8l,glob:=qc,spec:=[(48,qa zG zH qE)],body:=[(46,Tryz.f46),(71,Tryz.f71),(107,Tryz.f107)],loops:=[((107,2),qm uU uV (ql wC)),((107,9),qm uX ke (ql wF))],nimp:=1,iter:=[(107,46,3)] }
noncomputable def qv:=qo q9v 46 Tryz.f46 true qV qT
theorem qU:qX Tryz.prog qc 46 (qa qV qT qv):=sk q9v qe q9 (alc zV aln) (alc (lk Tryz.func107 q84) (alc (lk Tryz.func107 q8e) aln)) (alc (bk Tryz.func46) (alc (bk Tryz.func71) (alc (bk Tryz.func107) aln))) Tryz.func46
def q2N:FIn:=⟨[(.imm [.str,.str,.str])],[]⟩
def q2H:List FOut:=[⟨(.tuple [.bool,(.agg [(.int .i64),(.int .i64),(.int .i64)]),(.int .i64)]),[],none⟩]
noncomputable def qfs:=qf [(45,qa vg vk zh),(46,qa qV qT qv)] [(17,Tryz.f17)] [] 0
noncomputable def ye:=qo qfs 17 Tryz.f17 true q2N q2H
theorem q5w:qX Tryz.prog qc 17 (qa q2N q2H ye):=sk qfs qe q9 (alc wn (alc qU aln)) aln (b1 Tryz.func17) Tryz.func17
def qeC:FIn:=⟨[(.int .i64)],[]⟩
def qeE:List FOut:=[⟨.bool,[],none⟩]
noncomputable def qne:=qf [] [(126,Tryz.f126)] [] 0
noncomputable def yk:=qo qne 126 Tryz.f126 true qeC qeE
theorem qgV:qX Tryz.prog qc 126 (qa qeC qeE yk):=sk qne qe q9 aln aln (b1 Tryz.func126) Tryz.func126
def q9z:FIn:=⟨[(.int .i64)],[]⟩
def q92:List FOut:=[⟨.bool,[],none⟩]
noncomputable def qju:=qf [] [(127,Tryz.f127)] [] 0
noncomputable def vW:=qo qju 127 Tryz.f127 true q9z q92
theorem qen:qX Tryz.prog qc 127 (qa q9z q92 vW):=sk qju qe q9 aln aln (b1 Tryz.func127) Tryz.func127
def vH:FIn:=⟨[(.agg [(.int .i64),(.int .i64),(.int .i64),(.int .i64),(.int .i64),(.int .i64),.bool])],[]⟩
def vG:List FOut:=[⟨(.int .i64),[],none⟩]
noncomputable def qhW:=qf [(126,qa qeC qeE yk),(127,qa q9z q92 vW)] [(96,Tryz.f96)] [] 0
noncomputable def zM:=qo qhW 96 Tryz.f96 true vH vG
theorem vl:qX Tryz.prog qc 96 (qa vH vG zM):=sk qhW qe q9 (alc qgV (alc qen aln)) aln (b1 Tryz.func96) Tryz.func96
def q4D:FIn:=⟨[(.agg [(.int .i64),(.int .i64),(.int .i64),(.int .i64),(.int .i64),(.int .i64),.bool]),(.agg [(.int .i64),(.int .i64),(.int .i64),(.int .i64),(.int .i64),(.int .i64),.bool])],[]⟩
def q48:List FOut:=[⟨(.int .i64),[],none⟩]
def q5r:Tmpl:={ t:=(.any::.any::(.ptr 0 0)::(.ptr 1 0)::qB 6 ((.vec 2)::(.int .i64)::(.int .i64)::qB 31 [])),h:=[.cells [(.int .i64),(.int .i64),(.int .i64),(.int .i64),(.int .i64),(.int .i64),.bool],.cells [(.int .i64),(.int .i64),(.int .i64),(.int .i64),(.int .i64),(.int .i64),.bool],.vec 39 [(.int .i64),(.int .i64),(.int .i64),(.int .i64),(.int .i64),(.int .i64),.bool]] }
def q5m:List Out:=[⟨(.exit 0),{ t:=(.any::.any::(.ptr 0 0)::(.ptr 1 0)::qB 40 []),h:=[.cells [(.int .i64),(.int .i64),(.int .i64),(.int .i64),(.int .i64),(.int .i64),.bool],.cells [(.int .i64),(.int .i64),(.int .i64),(.int .i64),(.int .i64),(.int .i64),.bool]] }⟩,⟨.ret,{ t:=(qB 4 ((.int .i64)::qB 39 [])),h:=[] }⟩]
noncomputable def q23:=qf [(96,qa vH vG zM)] [(88,Tryz.f88)] [] 0
noncomputable def qaQ:=jE q23 88 Tryz.f88 3 q5r q5m
theorem qf1:qp Tryz.prog qc q23.nimp (qy Tryz.prog q23.iter 88) (zB Tryz.f88 3) (qm q5r q5m (ql qaQ)):=
 gk q23 qe q9 (alc vl aln) aln (b1 Tryz.func88) Tryz.func88
noncomputable def qdw:=qf [(96,qa vH vG zM)] [(88,Tryz.f88)] [((88,3),qm q5r q5m (ql qaQ))] 0
noncomputable def q8u:=qo qdw 88 Tryz.f88 true q4D q48
theorem q9r:qX Tryz.prog qc 88 (qa q4D q48 q8u):=sk qdw qe q9 (alc vl aln) (alc (lk Tryz.func88 qf1) aln) (b1 Tryz.func88) Tryz.func88
def yP:FIn:=⟨[(.agg [(.imm [(.int .i64),(.int .i64),(.int .i64),(.int .i64),(.int .i64),(.int .i64),.bool]),(.imm [(.int .i64),(.int .i64),(.int .i64),(.int .i64),(.int .i64),(.int .i64),.bool])])],[]⟩
def yK:List FOut:=[⟨(.int .i64),[],none⟩]
def q3K:Tmpl:={ t:=(.any::(.ptr 0 0)::qB 23 ((.int .i64)::(.int .i64)::qB 17 [])),h:=[.cells [(.imm [(.int .i64),(.int .i64),(.int .i64),(.int .i64),(.int .i64),(.int .i64),.bool]),(.imm [(.int .i64),(.int .i64),(.int .i64),(.int .i64),(.int .i64),(.int .i64),.bool])]] }
def q3H:List Out:=[⟨(.exit 1),{ t:=(qB 44 []),h:=[] }⟩,⟨.ret,{ t:=(.any::.any::(.int .i64)::qB 41 []),h:=[] }⟩]
noncomputable def kU:=qf [(88,qa q4D q48 q8u)] [(59,Tryz.f59)] [] 0
noncomputable def q81:=jE kU 59 Tryz.f59 10 q3K q3H
theorem qd2:qp Tryz.prog qc kU.nimp (qy Tryz.prog kU.iter 59) (zB Tryz.f59 10) (qm q3K q3H (ql q81)):=
 gk kU qe q9 (alc q9r aln) aln (b1 Tryz.func59) Tryz.func59
noncomputable def qcN:=qf [(88,qa q4D q48 q8u)] [(59,Tryz.f59)] [((59,10),qm q3K q3H (ql q81))] 0
noncomputable def q0u:=qo qcN 59 Tryz.f59 true yP yK
theorem kV:qX Tryz.prog qc 59 (qa yP yK q0u):=sk qcN qe q9 (alc q9r aln) (alc (lk Tryz.func59 qd2) aln) (b1 Tryz.func59) Tryz.func59
def q3O:FIn:=⟨[(.agg [(.int .i64),(.int .i64),(.int .i64)])],[]⟩
def q40:List FOut:=[⟨(.int .i64),[],none⟩]
noncomputable def qjm:=qf [(126,qa qeC qeE yk),(127,qa q9z q92 vW)] [(120,Tryz.f120)] [] 0
noncomputable def kK:=qo qjm 120 Tryz.f120 true q3O q40
theorem q4y:qX Tryz.prog qc 120 (qa q3O q40 kK):=sk qjm qe q9 (alc qgV (alc qen aln)) aln (b1 Tryz.func120) Tryz.func120
def qe4:FIn:=⟨[(.agg [(.int .i64),(.int .i64),(.int .i64),(.int .i64),(.int .i64),(.int .i64),.bool]),(.agg [(.int .i64),(.int .i64),(.int .i64)])],[]⟩
def qef:List FOut:=[⟨(.int .i64),[],none⟩]
noncomputable def qjc:=qf [(96,qa vH vG zM),(120,qa q3O q40 kK)] [(89,Tryz.f89)] [] 0
noncomputable def qje:=qo qjc 89 Tryz.f89 true qe4 qef
theorem qlA:qX Tryz.prog qc 89 (qa qe4 qef qje):=sk qjc qe q9 (alc vl (alc q4y aln)) aln (b1 Tryz.func89) Tryz.func89
def qgd:FIn:=⟨[(.agg [(.int .i64),(.int .i64),(.int .i64),(.int .i64),(.int .i64),(.int .i64),.bool]),(.agg [(.int .i64),(.int .i64),(.int .i64)])],[]⟩
def qfW:List FOut:=[⟨(.tuple [(.int .i64),(.int .i64)]),[],none⟩]
noncomputable def qln:=qf [] [(90,Tryz.f90)] [] 0
noncomputable def qlz:=qo qln 90 Tryz.f90 true qgd qfW
theorem qn4:qX Tryz.prog qc 90 (qa qgd qfW qlz):=sk qln qe q9 aln aln (b1 Tryz.func90) Tryz.func90
def q3b:FIn:=⟨[(.agg [(.int .i64),(.int .i64),(.int .i64),(.int .i64),(.int .i64),(.int .i64),.bool]),(.agg [(.int .i64),(.int .i64),(.int .i64)])],[]⟩
def q3k:List FOut:=[⟨(.tuple [(.int .i64),(.int .i64)]),[],none⟩]
noncomputable def qcA:=qf [(89,qa qe4 qef qje),(90,qa qgd qfW qlz)] [(60,Tryz.f60)] [] 0
noncomputable def q6B:=qo qcA 60 Tryz.f60 true q3b q3k
theorem q7N:qX Tryz.prog qc 60 (qa q3b q3k q6B):=sk qcA qe q9 (alc qlA (alc qn4 aln)) aln (b1 Tryz.func60) Tryz.func60
def q26:FIn:=⟨[(.agg [(.int .i64),(.int .i64),(.int .i64),(.int .i64),(.int .i64),(.int .i64),.bool]),(.agg [(.int .i64),(.int .i64),(.int .i64)])],[]⟩
def q2d:List FOut:=[⟨.bool,[],none⟩]
noncomputable def qao:=qf [] [(61,Tryz.f61)] [] 0
noncomputable def q5v:=qo qao 61 Tryz.f61 true q26 q2d
theorem q6L:qX Tryz.prog qc 61 (qa q26 q2d q5v):=sk qao qe q9 aln aln (b1 Tryz.func61) Tryz.func61
def q5u:FIn:=⟨[(.agg [(.imm [(.int .i64),(.int .i64),(.int .i64),(.int .i64),(.int .i64),(.int .i64),.bool]),(.imm [(.int .i64),(.int .i64),(.int .i64),(.int .i64),(.int .i64),(.int .i64),.bool])]),(.agg [(.imm [(.int .i64),(.int .i64),(.int .i64)]),(.imm [(.int .i64),(.int .i64),(.int .i64)])])],[]⟩
def q5s:List FOut:=[⟨(.int .i64),[],none⟩]
def q2o:Tmpl:={ t:=(.any::.any::(.ptr 0 0)::(.ptr 1 0)::qB 30 ((.int .i64)::(.int .i64)::qB 63 [])),h:=[.cells [(.imm [(.int .i64),(.int .i64),(.int .i64),(.int .i64),(.int .i64),(.int .i64),.bool]),(.imm [(.int .i64),(.int .i64),(.int .i64),(.int .i64),(.int .i64),(.int .i64),.bool])],.cells [(.imm [(.int .i64),(.int .i64),(.int .i64)]),(.imm [(.int .i64),(.int .i64),(.int .i64)])]] }
def q2w:List Out:=[⟨(.exit 0),{ t:=(qB 99 []),h:=[] }⟩,⟨.ret,{ t:=(qB 4 ((.int .i64)::qB 94 [])),h:=[] }⟩]
noncomputable def uN:=qf [(59,qa yP yK q0u),(60,qa q3b q3k q6B),(61,qa q26 q2d q5v)] [(34,Tryz.f34)] [] 0
noncomputable def q6G:=jE uN 34 Tryz.f34 10 q2o q2w
theorem qbg:qp Tryz.prog qc uN.nimp (qy Tryz.prog uN.iter 34) (zB Tryz.f34 10) (qm q2o q2w (ql q6G)):=
 gk uN qe q9 (alc kV (alc q7N (alc q6L aln))) aln (b1 Tryz.func34) Tryz.func34
noncomputable def qb6:=qf [(59,qa yP yK q0u),(60,qa q3b q3k q6B),(61,qa q26 q2d q5v)] [(34,Tryz.f34)] [((34,10),qm q2o q2w (ql q6G))] 0
noncomputable def qaO:=qo qb6 34 Tryz.f34 true q5u q5s
theorem qeW:qX Tryz.prog qc 34 (qa q5u q5s qaO):=sk qb6 qe q9 (alc kV (alc q7N (alc q6L aln))) (alc (lk Tryz.func34 qbg) aln) (b1 Tryz.func34) Tryz.func34
def vu:FIn:=⟨[(.int .i64),(.int .i64)],[]⟩
def vt:List FOut:=[⟨.bool,[],none⟩]
noncomputable def q88:=qf [] [(37,Tryz.f37)] [] 0
noncomputable def yu:=qo q88 37 Tryz.f37 true vu vt
theorem yA:qX Tryz.prog qc 37 (qa vu vt yu):=sk q88 qe q9 aln aln (b1 Tryz.func37) Tryz.func37
def jI:FIn:=⟨[(.imm [(.int .i64)]),(.fn 37 [] [])],[]⟩
def jQ:List FOut:=[⟨(.imm [(.int .i64)]),[],none⟩]
def uC:Tmpl:={ t:=(.any::(.fn 37 [] [])::.any::.any::.any::(.vec 0)::.any::.any::(.imm [(.int .i64)])::(.int .i64)::(.int .i64)::qB 14 []),h:=[.vec 3 [(.int .i64)]],pro:=[(5,3,[(.int .i64)])] }
def uo:List Out:=[⟨(.exit 0),{ t:=(qB 5 ((.vec 0)::qB 19 [])),h:=[.vec 3 [(.int .i64)]] }⟩]
noncomputable def vS:=qf [(37,qa vu vt yu)] [(35,Tryz.f35)] [] 0
noncomputable def q2I:=jE vS 35 Tryz.f35 4 uC uo
theorem q7x:qp Tryz.prog qc vS.nimp (qy Tryz.prog vS.iter 35) (zB Tryz.f35 4) (qm uC uo (ql q2I)):=
 gk vS qe q9 (alc yA aln) aln (b1 Tryz.func35) Tryz.func35
noncomputable def q4k:=qf [(37,qa vu vt yu)] [(35,Tryz.f35)] [((35,4),qm uC uo (ql q2I))] 0
noncomputable def kZ:=qo q4k 35 Tryz.f35 true jI jQ
theorem q2i:qX Tryz.prog qc 35 (qa jI jQ kZ):=sk q4k qe q9 (alc yA aln) (alc (lk Tryz.func35 q7x) aln) (b1 Tryz.func35) Tryz.func35
def q0d:FIn:=⟨[(.agg [(.imm [(.int .i64),(.int .i64),(.int .i64),(.int .i64),(.int .i64),(.int .i64),.bool]),(.imm [(.int .i64),(.int .i64),(.int .i64),(.int .i64),(.int .i64),(.int .i64),.bool])]),(.agg [(.imm [(.int .i64),(.int .i64),(.int .i64)]),(.imm [(.int .i64),(.int .i64),(.int .i64)])])],[]⟩
def q0v:List FOut:=[⟨(.imm [(.int .i64)]),[],none⟩]
def q4d:Tmpl:={ t:=(.any::.any::.any::(.ptr 1 0)::.any::(.vec 2)::qB 4 ((.imm [(.int .i64),(.int .i64),(.int .i64),(.int .i64),(.int .i64),(.int .i64),.bool])::(.int .i64)::(.int .i64)::qB 27 [])),h:=[.dead,.cells [(.imm [(.int .i64),(.int .i64),(.int .i64)]),(.imm [(.int .i64),(.int .i64),(.int .i64)])],.vec 3 [(.int .i64)]],pro:=[(5,3,[(.int .i64)])] }
def q4a:List Out:=[⟨(.exit 0),{ t:=(qB 5 ((.vec 2)::qB 34 [])),h:=[.dead,.dead,.vec 3 [(.int .i64)]] }⟩]
noncomputable def q13:=qf [] [(36,Tryz.f36)] [] 0
noncomputable def q9s:=jE q13 36 Tryz.f36 4 q4d q4a
theorem qdy:qp Tryz.prog qc q13.nimp (qy Tryz.prog q13.iter 36) (zB Tryz.f36 4) (qm q4d q4a (ql q9s)):=
 gk q13 qe q9 aln aln (b1 Tryz.func36) Tryz.func36
noncomputable def qcO:=qf [] [(36,Tryz.f36)] [((36,4),qm q4d q4a (ql q9s))] 0
noncomputable def q3h:=qo qcO 36 Tryz.f36 true q0d q0v
theorem q3u:qX Tryz.prog qc 36 (qa q0d q0v q3h):=sk qcO qe q9 aln (alc (lk Tryz.func36 qdy) aln) (b1 Tryz.func36) Tryz.func36
def qdq:FIn:=⟨[.str,.str],[]⟩
def qej:List FOut:=[⟨(.tuple [.str,(.int .i64)]),[],none⟩]
def q9L:Tmpl:={ t:=(.str::.str::qB 11 ((.vec 0)::(.int .i64)::(.int .i64)::qB 27 [])),h:=[.vec 150 [.str]] }
def q9P:List Out:=[⟨(.exit 0),{ t:=(.str::.str::qB 41 []),h:=[] }⟩,⟨.ret,{ t:=(qB 4 (.str::(.int .i64)::qB 37 [])),h:=[] }⟩]
noncomputable def q5G:=qf [(114,qa vT vM qD),(121,qa zI zF qw)] [(91,Tryz.f91)] [] 0
noncomputable def q0y:=jE q5G 91 Tryz.f91 3 q9L q9P
theorem qiy:qp Tryz.prog qc q5G.nimp (qy Tryz.prog q5G.iter 91) (zB Tryz.f91 3) (qm q9L q9P (ql q0y)):=
 gk q5G qe q9 (alc ve (alc zX aln)) aln (b1 Tryz.func91) Tryz.func91
noncomputable def qjy:=qf [(114,qa vT vM qD),(121,qa zI zF qw)] [(91,Tryz.f91)] [((91,3),qm q9L q9P (ql q0y))] 0
noncomputable def q68:=qo qjy 91 Tryz.f91 true qdq qej
theorem qm4:qX Tryz.prog qc 91 (qa qdq qej q68):=sk qjy qe q9 (alc ve (alc zX aln)) (alc (lk Tryz.func91 qiy) aln) (b1 Tryz.func91) Tryz.func91
def qaA:FIn:=⟨[(.int .i64),(.int .i64)],[]⟩
def qar:List FOut:=[⟨(.tuple [.str,(.int .i64)]),[],none⟩]
noncomputable def qnw:=qf [(91,qa qdq qej q68),(92,qa q25 q2f zb)] [(62,Tryz.f62)] [] 0
noncomputable def q55:=qo qnw 62 Tryz.f62 true qaA qar
theorem qbx:qX Tryz.prog qc 62 (qa qaA qar q55):=sk qnw qe q9 (alc qm4 (alc kR aln)) aln (b1 Tryz.func62) Tryz.func62
def q4P:FIn:=⟨[(.int .i64)],[]⟩
def q4r:List FOut:=[⟨.str,[],none⟩]
noncomputable def qgY:=qf [(92,qa q25 q2f zb)] [(64,Tryz.f64)] [] 0
noncomputable def yR:=qo qgY 64 Tryz.f64 true q4P q4r
theorem q6j:qX Tryz.prog qc 64 (qa q4P q4r yR):=sk qgY qe q9 (alc kR aln) aln (b1 Tryz.func64) Tryz.func64
def q6m:FIn:=⟨[(.agg [(.imm [(.int .i64),(.int .i64),(.int .i64),(.int .i64),(.int .i64),(.int .i64),.bool]),(.imm [(.int .i64),(.int .i64),(.int .i64),(.int .i64),(.int .i64),(.int .i64),.bool])]),(.agg [(.imm [(.int .i64),(.int .i64),(.int .i64)]),(.imm [(.int .i64),(.int .i64),(.int .i64)])])],[]⟩
def q6l:List FOut:=[⟨(.imm [.str,.str,.str]),[],none⟩]
def q4L:Tmpl:={ t:=(.any::.any::.any::(.ptr 1 0)::.any::(.vec 2)::qB 10 ((.imm [(.int .i64)])::(.int .i64)::(.int .i64)::qB 47 [])),h:=[.dead,.cells [(.imm [(.int .i64),(.int .i64),(.int .i64)]),(.imm [(.int .i64),(.int .i64),(.int .i64)])],.vec 65 [.str,.str,.str]],pro:=[(5,65,[.str,.str,.str])] }
def q49:List Out:=[⟨(.exit 0),{ t:=(qB 5 ((.vec 2)::qB 60 [])),h:=[.dead,.dead,.vec 65 [.str,.str,.str]] }⟩]
noncomputable def q1c:=qf [(36,qa q0d q0v q3h),(62,qa qaA qar q55),(63,qa q5o q5g q1l),(64,qa q4P q4r yR)] [(38,Tryz.f38)] [] 0
noncomputable def q9D:=jE q1c 38 Tryz.f38 4 q4L q49
theorem qdK:qp Tryz.prog qc q1c.nimp (qy Tryz.prog q1c.iter 38) (zB Tryz.f38 4) (qm q4L q49 (ql q9D)):=
 gk q1c qe q9 (alc q3u (alc qbx (alc q5z (alc q6j aln)))) aln (b1 Tryz.func38) Tryz.func38
noncomputable def qcn:=qf [(36,qa q0d q0v q3h),(62,qa qaA qar q55),(63,qa q5o q5g q1l),(64,qa q4P q4r yR)] [(38,Tryz.f38)] [((38,4),qm q4L q49 (ql q9D))] 0
noncomputable def qcc:=qo qcn 38 Tryz.f38 true q6m q6l
theorem qgg:qX Tryz.prog qc 38 (qa q6m q6l qcc):=sk qcn qe q9 (alc q3u (alc qbx (alc q5z (alc q6j aln)))) (alc (lk Tryz.func38 qdK) aln) (b1 Tryz.func38) Tryz.func38
def q08:FIn:=⟨[(.agg [(.imm [(.int .i64),(.int .i64),(.int .i64),(.int .i64),(.int .i64),(.int .i64),.bool]),(.imm [(.int .i64),(.int .i64),(.int .i64),(.int .i64),(.int .i64),(.int .i64),.bool])]),(.agg [(.imm [(.int .i64),(.int .i64),(.int .i64)]),(.imm [(.int .i64),(.int .i64),(.int .i64)])])],[]⟩
def q03:List FOut:=[⟨(.tuple [.bool,(.agg [(.int .i64),(.int .i64),(.int .i64)]),(.int .i64)]),[],none⟩]
noncomputable def q8K:=qf [(17,qa q2N q2H ye),(34,qa q5u q5s qaO),(35,qa jI jQ kZ),(36,qa q0d q0v q3h),(37,qa vu vt yu),(38,qa q6m q6l qcc)] [(13,Tryz.f13)] [] 0
noncomputable def q3G:=qo q8K 13 Tryz.f13 true q08 q03
theorem q4Y:qX Tryz.prog qc 13 (qa q08 q03 q3G):=sk q8K qe q9 (alc q5w (alc qeW (alc q2i (alc q3u (alc yA (alc qgg aln)))))) aln (b1 Tryz.func13) Tryz.func13
def qez:FIn:=⟨[(.agg [(.int .i64),(.int .i64),(.int .i64),(.int .i64),(.int .i64),(.int .i64),.bool])],[]⟩
def qex:List FOut:=[⟨(.agg [(.int .i64),(.int .i64),(.int .i64),(.int .i64),(.int .i64),(.int .i64),.bool,(.int .i64)]),[],none⟩]
noncomputable def qni:=qf [] [(97,Tryz.f97)] [] 0
noncomputable def q7F:=qo qni 97 Tryz.f97 true qez qex
theorem qhD:qX Tryz.prog qc 97 (qa qez qex q7F):=sk qni qe q9 aln aln (b1 Tryz.func97) Tryz.func97
def yU:FIn:=⟨[(.agg [(.int .i64),(.int .i64),(.int .i64),(.int .i64),(.int .i64),(.int .i64),.bool,(.int .i64)]),(.int .i64)],[]⟩
def ub:List FOut:=[⟨(.int .i64),[],none⟩]
noncomputable def q6c:=qf [] [(98,Tryz.f98)] [] 0
noncomputable def wO:=qo q6c 98 Tryz.f98 true yU ub
theorem q3Q:qX Tryz.prog qc 98 (qa yU ub wO):=sk q6c qe q9 aln aln (b1 Tryz.func98) Tryz.func98
def q4h:FIn:=⟨[(.agg [(.int .i64),(.int .i64),(.int .i64),(.int .i64),(.int .i64),(.int .i64),.bool])],[]⟩
def q4C:List FOut:=[⟨(.tuple [(.int .i64),(.int .i64)]),[],none⟩]
noncomputable def qe8:=qf [(96,qa vH vG zM),(97,qa qez qex q7F),(98,qa yU ub wO)] [(65,Tryz.f65)] [] 0
noncomputable def q8x:=qo qe8 65 Tryz.f65 true q4h q4C
theorem q93:qX Tryz.prog qc 65 (qa q4h q4C q8x):=sk qe8 qe q9 (alc vl (alc qhD (alc q3Q aln))) aln (b1 Tryz.func65) Tryz.func65
def q4c:FIn:=⟨[(.agg [(.imm [(.int .i64),(.int .i64),(.int .i64),(.int .i64),(.int .i64),(.int .i64),.bool]),(.imm [(.int .i64),(.int .i64),(.int .i64),(.int .i64),(.int .i64),(.int .i64),.bool])])],[]⟩
def q4g:List FOut:=[⟨(.tuple [(.imm [(.int .i64)]),(.int .i64)]),[],none⟩]
def q2l:Tmpl:={ t:=(.any::(.ptr 0 0)::.any::.any::.any::(.vec 1)::qB 12 ((.imm [(.int .i64),(.int .i64),(.int .i64),(.int .i64),(.int .i64),(.int .i64),.bool])::(.int .i64)::(.int .i64)::qB 37 [])),h:=[.cells [(.imm [(.int .i64),(.int .i64),(.int .i64),(.int .i64),(.int .i64),(.int .i64),.bool]),(.imm [(.int .i64),(.int .i64),(.int .i64),(.int .i64),(.int .i64),(.int .i64),.bool])],.vec 3 [(.int .i64)]],pro:=[(5,3,[(.int .i64)])] }
def q2x:List Out:=[⟨(.exit 0),{ t:=(qB 5 ((.vec 1)::qB 52 [])),h:=[.dead,.vec 3 [(.int .i64)]] }⟩,⟨.ret,{ t:=(.any::.any::.nils::(.int .i64)::qB 54 []),h:=[] }⟩]
noncomputable def uM:=qf [(59,qa yP yK q0u),(65,qa q4h q4C q8x)] [(39,Tryz.f39)] [] 0
noncomputable def q6Q:=jE uM 39 Tryz.f39 8 q2l q2x
theorem qbI:qp Tryz.prog qc uM.nimp (qy Tryz.prog uM.iter 39) (zB Tryz.f39 8) (qm q2l q2x (ql q6Q)):=
 gk uM qe q9 (alc kV (alc q93 aln)) aln (b1 Tryz.func39) Tryz.func39
noncomputable def q9x:=qf [(59,qa yP yK q0u),(65,qa q4h q4C q8x)] [(39,Tryz.f39)] [((39,8),qm q2l q2x (ql q6Q))] 0
noncomputable def q9i:=qo q9x 39 Tryz.f39 true q4c q4g
theorem qd8:qX Tryz.prog qc 39 (qa q4c q4g q9i):=sk q9x qe q9 (alc kV (alc q93 aln)) (alc (lk Tryz.func39 qbI) aln) (b1 Tryz.func39) Tryz.func39
def q47:FIn:=⟨[(.agg [(.imm [(.int .i64),(.int .i64),(.int .i64),(.int .i64),(.int .i64),(.int .i64),.bool]),(.imm [(.int .i64),(.int .i64),(.int .i64),(.int .i64),(.int .i64),(.int .i64),.bool])])],[]⟩
def q4o:List FOut:=[⟨(.tuple [.bool,(.int .i64)]),[],none⟩]
noncomputable def qdA:=qf [(35,qa jI jQ kZ),(37,qa vu vt yu),(39,qa q4c q4g q9i)] [(14,Tryz.f14)] [] 0
noncomputable def q8d:=qo qdA 14 Tryz.f14 true q47 q4o
theorem q9t:qX Tryz.prog qc 14 (qa q47 q4o q8d):=sk qdA qe q9 (alc q2i (alc yA (alc qd8 aln))) aln (b1 Tryz.func14) Tryz.func14
def qgv:FIn:=⟨[],[]⟩
def qgE:List FOut:=[⟨(.agg [(.imm [(.int .i64),(.int .i64),(.int .i64),(.int .i64),(.int .i64),(.int .i64),.bool]),(.imm [(.int .i64),(.int .i64),(.int .i64),(.int .i64),(.int .i64),(.int .i64),.bool])]),[],none⟩]
def qbN:Tmpl:={ t:=((.ptr 0 0)::(.ptr 1 0)::.any::.any::.any::(.vec 2)::(.int .i64)::(.int .i64)::qB 24 []),h:=[.cells [.nils,.nils],.cells [(.vec 3),(.vec 4)],.vec 3 [(.int .i64)],.vec 39 [(.int .i64),(.int .i64),(.int .i64),(.int .i64),(.int .i64),(.int .i64),.bool],.vec 39 [(.int .i64),(.int .i64),(.int .i64),(.int .i64),(.int .i64),(.int .i64),.bool]],prc:=[(1,0,39,[(.int .i64),(.int .i64),(.int .i64),(.int .i64),(.int .i64),(.int .i64),.bool]),(1,1,39,[(.int .i64),(.int .i64),(.int .i64),(.int .i64),(.int .i64),(.int .i64),.bool])] }
def qbS:List Out:=[⟨(.exit 0),{ t:=((.ptr 0 0)::(.ptr 1 0)::qB 30 []),h:=[.cells [.nils,.nils],.cells [(.vec 3),(.vec 4)],.dead,.vec 39 [(.int .i64),(.int .i64),(.int .i64),(.int .i64),(.int .i64),(.int .i64),.bool],.vec 39 [(.int .i64),(.int .i64),(.int .i64),(.int .i64),(.int .i64),(.int .i64),.bool]] }⟩]
noncomputable def q7l:=qf [] [(32,Tryz.f32)] [] 0
noncomputable def qhF:=jE q7l 32 Tryz.f32 4 qbN qbS
theorem qjS:qp Tryz.prog qc q7l.nimp (qy Tryz.prog q7l.iter 32) (zB Tryz.f32 4) (qm qbN qbS (ql qhF)):=
 gk q7l qe q9 aln aln (b1 Tryz.func32) Tryz.func32
noncomputable def qlk:=qf [] [(32,Tryz.f32)] [((32,4),qm qbN qbS (ql qhF))] 0
noncomputable def qmb:=qo qlk 32 Tryz.f32 true qgv qgE
theorem qn6:qX Tryz.prog qc 32 (qa qgv qgE qmb):=sk qlk qe q9 aln (alc (lk Tryz.func32 qjS) aln) (b1 Tryz.func32) Tryz.func32
def q6p:FIn:=⟨[(.int .i64)],[]⟩
def q6w:List FOut:=[⟨(.agg [(.imm [(.int .i64),(.int .i64),(.int .i64)]),(.imm [(.int .i64),(.int .i64),(.int .i64)])]),[],none⟩]
noncomputable def qcf:=qf [] [(33,Tryz.f33)] [] 0
noncomputable def qcs:=qo qcf 33 Tryz.f33 true q6p q6w
theorem qfO:qX Tryz.prog qc 33 (qa q6p q6w qcs):=sk qcf qe q9 aln aln (b1 Tryz.func33) Tryz.func33
def q8z:FIn:=⟨[],[]⟩
def q8q:List FOut:=[⟨.bool,[],none⟩]
noncomputable def qdX:=qf [(13,qa q08 q03 q3G),(14,qa q47 q4o q8d),(32,qa qgv qgE qmb),(33,qa q6p q6w qcs)] [(8,Tryz.f8)] [] 0
noncomputable def qdT:=qo qdX 8 Tryz.f8 true q8z q8q
theorem qie:qX Tryz.prog qc 8 (qa q8z q8q qdT):=sk qdX qe q9 (alc q4Y (alc q9t (alc qn6 (alc qfO aln)))) aln (b1 Tryz.func8) Tryz.func8
def ww:FIn:=⟨[(.imm [(.int .i64),(.int .i64),(.int .i64),(.int .i64),(.int .i64),(.int .i64),.bool])],[]⟩
def wl:List FOut:=[⟨(.vec 0),[.vec 39 [(.int .i64),(.int .i64),(.int .i64),(.int .i64),(.int .i64),(.int .i64),.bool]],none⟩]
noncomputable def yf:=qf [] [(10,Tryz.f10)] [] 0
noncomputable def jU:=qo yf 10 Tryz.f10 false ww wl
theorem q1u:qX Tryz.prog qc 10 (qa ww wl jU):=qgs (E:=yf) qe ⟨q3S q9,⟨aln,aln⟩,aln,(b1 Tryz.func10)⟩ Tryz.func10 (by kernel_rfl) (by kernel_rfl) (fun _=>rfl)
def wi:FIn:=⟨[(.imm [(.int .i64),(.int .i64),(.int .i64)])],[]⟩
def wo:List FOut:=[⟨(.vec 0),[.vec 43 [(.int .i64),(.int .i64),(.int .i64)]],none⟩]
noncomputable def yb:=qf [] [(12,Tryz.f12)] [] 0
noncomputable def jW:=qo yb 12 Tryz.f12 false wi wo
theorem q1I:qX Tryz.prog qc 12 (qa wi wo jW):=qgs (E:=yb) qe ⟨q3S q9,⟨aln,aln⟩,aln,(b1 Tryz.func12)⟩ Tryz.func12 (by kernel_rfl) (by kernel_rfl) (fun _=>rfl)
def q3y:FIn:=⟨[(.agg [(.imm [(.int .i64),(.int .i64),(.int .i64),(.int .i64),(.int .i64),(.int .i64),.bool]),(.imm [(.int .i64),(.int .i64),(.int .i64),(.int .i64),(.int .i64),(.int .i64),.bool])]),(.agg [(.imm [(.int .i64),(.int .i64),(.int .i64)]),(.imm [(.int .i64),(.int .i64),(.int .i64)])]),(.int .u8)],[]⟩
def q3I:List FOut:=[⟨.bool,[],none⟩]
noncomputable def qZ:Env:={ tt:=q8l,glob:=qc,spec:=[(6,qa qgi qfV qlq),(7,qa q7e q77 qc2),(8,qa q8z q8q qdT),(10,qa ww wl jU),(12,qa wi wo jW),(13,qa q08 q03 q3G),(14,qa q47 q4o q8d)],body:=[(3,Tryz.f3)],loops:=[],nimp:=0,raws:=[10,12],dels:=[(9,39),(11,43)] }
noncomputable def q3N:=qo qZ 3 Tryz.f3 true q3y q3I
theorem qd3:qX Tryz.prog qc 3 (qa q3y q3I q3N):=sk qZ qe q9 (alc qmy (alc qcC (alc qie (alc q1u (alc q1I (alc q4Y (alc q9t aln))))))) aln (b1 Tryz.func3) Tryz.func3 (hd:=(alc qtI (alc qrq aln)))
def q1O:FIn:=⟨[(.imm [.str,.str,.str])],[]⟩
def q1H:List FOut:=[⟨(.tuple [(.imm [(.int .i64)]),(.int .i64)]),[],none⟩]
def jk:Tmpl:={ t:=(.any::(.ptr 0 0)::(.ptr 2 0)::.any::.any::(.vec 4)::qB 4 ((.vec 3)::(.int .i64)::(.int .i64)::qB 26 [])),h:=[.cells [(.imm [.str,.str,.str])],.cells [(.int .i64)],.cells [(.ptr 1 0)],.vec 3 [(.int .i64)],.vec 65 [.str,.str,.str]],pro:=[(5,65,[.str,.str,.str])],fs:=[[.any,(.ptr 0 0),.any,.any,.any,(.ptr 2 0),(.fn 47 [] [(.ptr 0 0),(.ptr 2 0)]),(.int .i64),(.int .i64),.any,.any,.any,.any,.any,.any,.any,.any,.any,.any,.any,.any,(.int .i64),(.int .i64),.any,.any,.any,.any,(.int .i64),(.imm [.str,.str,.str]),(.int .i64),(.blit true),.any,.any,(.fn 47 [] [(.ptr 0 0),(.ptr 2 0)]),(.int .i64),(.int .i64),(.vec 3),.any,.any,.any,.any,.any,.any,.any,.any,.any,.any,.any,.any,.any,.any,.any,.any,.any,.any,.any,.any,.any,.any,.any,.any,.any,.any,.any,.any,.any,.any,.any,.any,.any,.any,.any,.any,.any,.any,.any,.any,.any],[]] }
def jm:List Out:=[⟨(.exit 0),{ t:=(.any::.any::(.ptr 2 0)::.any::.any::(.vec 4)::qB 33 []),h:=[.cells [(.imm [.str,.str,.str])],.cells [(.int .i64)],.cells [(.ptr 1 0)],.vec 3 [(.int .i64)],.vec 65 [.str,.str,.str]],fs:=[[.any,(.ptr 0 0),.any,.any,.any,(.ptr 2 0),(.fn 47 [] [(.ptr 0 0),(.ptr 2 0)]),(.int .i64),(.int .i64),.any,.any,.any,.any,.any,.any,.any,.any,.any,.any,.any,.any,(.int .i64),(.int .i64),.any,.any,.any,.any,(.int .i64),(.imm [.str,.str,.str]),(.int .i64),(.blit true),.any,.any,(.fn 47 [] [(.ptr 0 0),(.ptr 2 0)]),(.int .i64),(.int .i64),(.vec 3),.any,.any,.any,.any,.any,.any,.any,.any,.any,.any,.any,.any,.any,.any,.any,.any,.any,.any,.any,.any,.any,.any,.any,.any,.any,.any,.any,.any,.any,.any,.any,.any,.any,.any,.any,.any,.any,.any,.any,.any,.any],[]] }⟩]
noncomputable def wB:=qf [(45,qa vg vk zh),(46,qa qV qT qv)] [(18,Tryz.f18),(47,Tryz.f47)] [] 0
noncomputable def qR:=jE wB 47 Tryz.f47 4 jk jm
theorem q4U:qp Tryz.prog qc wB.nimp (qy Tryz.prog wB.iter 47) (zB Tryz.f47 4) (qm jk jm (ql qR)):=
 gk wB qe q9 (alc wn (alc qU aln)) aln (alc (bk Tryz.func18) (alc (bk Tryz.func47) aln)) Tryz.func47
def kI:Tmpl:={ t:=(.any::(.ptr 0 0)::.any::.any::.any::(.ptr 2 0)::(.fn 47 [] [(.ptr 0 0),(.ptr 2 0)])::(.int .i64)::(.int .i64)::qB 12 ((.int .i64)::(.int .i64)::qB 55 [])),h:=[.cells [(.imm [.str,.str,.str])],.cells [(.int .i64)],.cells [(.ptr 1 0)]] }
def kH:List Out:=[⟨(.exit 2),{ t:=(.any::(.ptr 0 0)::.any::.any::.any::(.ptr 2 0)::(.fn 47 [] [(.ptr 0 0),(.ptr 2 0)])::qB 14 ((.int .i64)::(.int .i64)::qB 55 [])),h:=[.cells [(.imm [.str,.str,.str])],.cells [(.int .i64)],.cells [(.ptr 1 0)]] }⟩,⟨.ret,{ t:=(.any::.any::(.vec 6)::(.int .i64)::qB 74 []),h:=[.dead,.dead,.dead,.dead,.dead,.dead,.vec 3 [(.int .i64)]] }⟩]
noncomputable def j6:=qf [(45,qa vg vk zh),(46,qa qV qT qv)] [(18,Tryz.f18),(47,Tryz.f47)] [((47,4),qm jk jm (ql qR))] 0
noncomputable def wG:=jE j6 18 Tryz.f18 15 kI kH
theorem q7S:qp Tryz.prog qc j6.nimp (qy Tryz.prog j6.iter 18) (zB Tryz.f18 15) (qm kI kH (ql wG)):=
 gk j6 qe q9 (alc wn (alc qU aln)) (alc (lk Tryz.func47 q4U) aln) (alc (bk Tryz.func18) (alc (bk Tryz.func47) aln)) Tryz.func18
def kT:Tmpl:={ t:=(.any::(.ptr 0 0)::.any::.any::.any::(.ptr 2 0)::(.fn 47 [] [(.ptr 0 0),(.ptr 2 0)])::qB 14 ((.int .i64)::(.int .i64)::qB 55 [])),h:=[.cells [(.imm [.str,.str,.str])],.cells [(.int .i64)],.cells [(.ptr 1 0)]] }
def kS:List Out:=[⟨(.exit 0),{ t:=(.any::(.ptr 0 0)::.any::.any::.any::(.ptr 2 0)::(.fn 47 [] [(.ptr 0 0),(.ptr 2 0)])::qB 71 []),h:=[.cells [(.imm [.str,.str,.str])],.cells [(.int .i64)],.cells [(.ptr 1 0)]] }⟩,⟨.ret,{ t:=(.any::.any::(.vec 6)::(.int .i64)::qB 74 []),h:=[.dead,.dead,.dead,.dead,.dead,.dead,.vec 3 [(.int .i64)]] }⟩]
noncomputable def jC:=qf [(45,qa vg vk zh),(46,qa qV qT qv)] [(18,Tryz.f18),(47,Tryz.f47)] [((18,15),qm kI kH (ql wG))] 0
noncomputable def wU:=jE jC 18 Tryz.f18 9 kT kS
theorem q8Z:qp Tryz.prog qc jC.nimp (qy Tryz.prog jC.iter 18) (zB Tryz.f18 9) (qm kT kS (ql wU)):=
 gk jC qe q9 (alc wn (alc qU aln)) (alc (lk Tryz.func18 q7S) aln) (alc (bk Tryz.func18) (alc (bk Tryz.func47) aln)) Tryz.func18
def jp:Tmpl:={ t:=(.any::(.ptr 0 0)::(.ptr 2 0)::.any::.any::(.vec 4)::qB 4 ((.vec 3)::(.int .i64)::(.int .i64)::qB 26 [])),h:=[.cells [(.imm [.str,.str,.str])],.cells [(.int .i64)],.cells [(.ptr 1 0)],.vec 3 [(.int .i64)],.vec 65 [.str,.str,.str]],pro:=[(5,65,[.str,.str,.str])],fs:=[[.any,(.ptr 0 0),.any,.any,.any,(.ptr 2 0),(.fn 47 [] [(.ptr 0 0),(.ptr 2 0)]),.any,.any,(.int .i64),(.int .i64),(.int .i64),.any,.any,.any,.any,.any,.any,.any,.any,.any,.any,.any,.any,.any,.any,.any,.any,.any,.any,.any,.any,.any,.any,.any,.any,.any,.any,.any,.any,.any,.any,.any,(.int .i64),(.int .i64),.any,.any,.any,.any,.any,.any,.any,.any,.any,.any,.any,.any,(.int .i64),(.imm [.str,.str,.str]),(.int .i64),(.blit true),.any,.any,(.fn 47 [] [(.ptr 0 0),(.ptr 2 0)]),(.int .i64),(.int .i64),(.int .i64),(.vec 3),.any,.any,.any,.any,.any,.any,.any,.any,.any,.any],[]] }
def jn:List Out:=[⟨(.exit 0),{ t:=(.any::.any::(.ptr 2 0)::.any::.any::(.vec 4)::qB 33 []),h:=[.cells [(.imm [.str,.str,.str])],.cells [(.int .i64)],.cells [(.ptr 1 0)],.vec 3 [(.int .i64)],.vec 65 [.str,.str,.str]],fs:=[[.any,(.ptr 0 0),.any,.any,.any,(.ptr 2 0),(.fn 47 [] [(.ptr 0 0),(.ptr 2 0)]),.any,.any,(.int .i64),(.int .i64),(.int .i64),.any,.any,.any,.any,.any,.any,.any,.any,.any,.any,.any,.any,.any,.any,.any,.any,.any,.any,.any,.any,.any,.any,.any,.any,.any,.any,.any,.any,.any,.any,.any,(.int .i64),(.int .i64),.any,.any,.any,.any,.any,.any,.any,.any,.any,.any,.any,.any,(.int .i64),(.imm [.str,.str,.str]),(.int .i64),(.blit true),.any,.any,(.fn 47 [] [(.ptr 0 0),(.ptr 2 0)]),(.int .i64),(.int .i64),(.int .i64),(.vec 3),.any,.any,.any,.any,.any,.any,.any,.any,.any,.any],[]] }⟩]
noncomputable def wz:=qf [(45,qa vg vk zh),(46,qa qV qT qv)] [(18,Tryz.f18),(47,Tryz.f47)] [] 0
noncomputable def qQ:=jE wz 47 Tryz.f47 4 jp jn
theorem q4V:qp Tryz.prog qc wz.nimp (qy Tryz.prog wz.iter 47) (zB Tryz.f47 4) (qm jp jn (ql qQ)):=
 gk wz qe q9 (alc wn (alc qU aln)) aln (alc (bk Tryz.func18) (alc (bk Tryz.func47) aln)) Tryz.func47
def kn:Tmpl:={ t:=(.any::(.ptr 0 0)::.any::.any::.any::(.ptr 2 0)::(.fn 47 [] [(.ptr 0 0),(.ptr 2 0)])::.any::.any::(.int .i64)::(.int .i64)::(.int .i64)::qB 31 ((.int .i64)::(.int .i64)::qB 33 [])),h:=[.cells [(.imm [.str,.str,.str])],.cells [(.int .i64)],.cells [(.ptr 1 0)]] }
def kd:List Out:=[⟨(.exit 8),{ t:=(.any::(.ptr 0 0)::.any::.any::.any::(.ptr 2 0)::(.fn 47 [] [(.ptr 0 0),(.ptr 2 0)])::.any::.any::(.int .i64)::(.int .i64)::qB 32 ((.int .i64)::(.int .i64)::qB 33 [])),h:=[.cells [(.imm [.str,.str,.str])],.cells [(.int .i64)],.cells [(.ptr 1 0)]] }⟩,⟨.ret,{ t:=(.any::.any::(.vec 6)::(.int .i64)::qB 74 []),h:=[.dead,.dead,.dead,.dead,.dead,.dead,.vec 3 [(.int .i64)]] }⟩]
noncomputable def jf:=qf [(45,qa vg vk zh),(46,qa qV qT qv)] [(18,Tryz.f18),(47,Tryz.f47)] [((47,4),qm jp jn (ql qQ))] 0
noncomputable def wN:=jE jf 18 Tryz.f18 34 kn kd
theorem q8J:qp Tryz.prog qc jf.nimp (qy Tryz.prog jf.iter 18) (zB Tryz.f18 34) (qm kn kd (ql wN)):=
 gk jf qe q9 (alc wn (alc qU aln)) (alc (lk Tryz.func47 q4V) aln) (alc (bk Tryz.func18) (alc (bk Tryz.func47) aln)) Tryz.func18
def kf:Tmpl:={ t:=(.any::(.ptr 0 0)::.any::.any::.any::(.ptr 2 0)::(.fn 47 [] [(.ptr 0 0),(.ptr 2 0)])::.any::.any::(.int .i64)::(.int .i64)::qB 32 ((.int .i64)::(.int .i64)::qB 33 [])),h:=[.cells [(.imm [.str,.str,.str])],.cells [(.int .i64)],.cells [(.ptr 1 0)]] }
def uW:List Out:=[⟨(.exit 6),{ t:=(.any::(.ptr 0 0)::.any::.any::.any::(.ptr 2 0)::(.fn 47 [] [(.ptr 0 0),(.ptr 2 0)])::qB 36 ((.int .i64)::(.int .i64)::qB 33 [])),h:=[.cells [(.imm [.str,.str,.str])],.cells [(.int .i64)],.cells [(.ptr 1 0)]] }⟩,⟨.ret,{ t:=(.any::.any::(.vec 6)::(.int .i64)::qB 74 []),h:=[.dead,.dead,.dead,.dead,.dead,.dead,.vec 3 [(.int .i64)]] }⟩]
noncomputable def j5:=qf [(45,qa vg vk zh),(46,qa qV qT qv)] [(18,Tryz.f18),(47,Tryz.f47)] [((18,34),qm kn kd (ql wN))] 0
noncomputable def wD:=jE j5 18 Tryz.f18 29 kf uW
theorem q8E:qp Tryz.prog qc j5.nimp (qy Tryz.prog j5.iter 18) (zB Tryz.f18 29) (qm kf uW (ql wD)):=
 gk j5 qe q9 (alc wn (alc qU aln)) (alc (lk Tryz.func18 q8J) aln) (alc (bk Tryz.func18) (alc (bk Tryz.func47) aln)) Tryz.func18
def kF:Tmpl:={ t:=(.any::(.ptr 0 0)::.any::.any::.any::(.ptr 2 0)::(.fn 47 [] [(.ptr 0 0),(.ptr 2 0)])::qB 36 ((.int .i64)::(.int .i64)::qB 33 [])),h:=[.cells [(.imm [.str,.str,.str])],.cells [(.int .i64)],.cells [(.ptr 1 0)]] }
def kE:List Out:=[⟨(.exit 4),{ t:=(qB 5 ((.ptr 2 0)::qB 72 [])),h:=[.dead,.cells [(.int .i64)],.cells [(.ptr 1 0)]] }⟩,⟨.ret,{ t:=(.any::.any::(.vec 6)::(.int .i64)::qB 74 []),h:=[.dead,.dead,.dead,.dead,.dead,.dead,.vec 3 [(.int .i64)]] }⟩]
noncomputable def ji:=qf [(45,qa vg vk zh),(46,qa qV qT qv)] [(18,Tryz.f18),(47,Tryz.f47)] [((18,29),qm kf uW (ql wD))] 0
noncomputable def wP:=jE ji 18 Tryz.f18 23 kF kE
theorem q8b:qp Tryz.prog qc ji.nimp (qy Tryz.prog ji.iter 18) (zB Tryz.f18 23) (qm kF kE (ql wP)):=
 gk ji qe q9 (alc wn (alc qU aln)) (alc (lk Tryz.func18 q8E) aln) (alc (bk Tryz.func18) (alc (bk Tryz.func47) aln)) Tryz.func18
noncomputable def q65:=qf [(45,qa vg vk zh),(46,qa qV qT qv)] [(18,Tryz.f18),(47,Tryz.f47)] [((18,9),qm kT kS (ql wU)),((18,23),qm kF kE (ql wP))] 0
noncomputable def vX:=qo q65 18 Tryz.f18 true q1O q1H
theorem qaS:qX Tryz.prog qc 18 (qa q1O q1H vX):=sk q65 qe q9 (alc wn (alc qU aln)) (alc (lk Tryz.func18 q8Z) (alc (lk Tryz.func18 q8b) aln)) (alc (bk Tryz.func18) (alc (bk Tryz.func47) aln)) Tryz.func18
def q3o:FIn:=⟨[(.ptr 0 0),(.agg [.str,.str]),(.agg [.str,.str])],[.cells [(.int .i64)]]⟩
def q3g:List FOut:=[⟨.str,[.cells [(.int .i64)]],none⟩]
noncomputable def qc9:=qf [(108,qa kp ki zO),(109,qa q0a q0i zp)] [(103,Tryz.f103)] [] 1
noncomputable def yQ:=qo qc9 103 Tryz.f103 true q3o q3g
theorem q7P:qX Tryz.prog qc 103 (qa q3o q3g yQ):=sk qc9 qe q9 (alc q2q (alc q3L aln)) aln (b1 Tryz.func103) Tryz.func103
def q0Y:FIn:=⟨[(.ptr 0 0),.str,.str],[.cells [(.int .i64)]]⟩
def q12:List FOut:=[⟨(.int .i64),[.cells [(.int .i64)]],none⟩]
noncomputable def q9j:=qf [(102,qa yN yM qF),(105,qa q29 q1W vA)] [(101,Tryz.f101)] [] 1
noncomputable def jc:=qo q9j 101 Tryz.f101 true q0Y q12
theorem q5Z:qX Tryz.prog qc 101 (qa q0Y q12 jc):=sk q9j qe q9 (alc q00 (alc q6H aln)) aln (b1 Tryz.func101) Tryz.func101
def q0M:FIn:=⟨[(.imm [(.int .i64)]),(.imm [(.int .i64)])],[]⟩
def q0P:List FOut:=[⟨.bool,[],none⟩]
def km:Tmpl:={ t:=((.imm [(.int .i64)])::(.imm [(.int .i64)])::qB 10 ((.int .i64)::(.int .i64)::qB 12 [])),h:=[] }
def ka:List Out:=[⟨(.exit 0),{ t:=(qB 26 []),h:=[] }⟩,⟨.ret,{ t:=(qB 4 (.bool::qB 21 [])),h:=[] }⟩]
noncomputable def ja:=qf [] [(44,Tryz.f44)] [] 0
noncomputable def wJ:=jE ja 44 Tryz.f44 6 km ka
theorem q8v:qp Tryz.prog qc ja.nimp (qy Tryz.prog ja.iter 44) (zB Tryz.f44 6) (qm km ka (ql wJ)):=
 gk ja qe q9 aln aln (b1 Tryz.func44) Tryz.func44
noncomputable def q4W:=qf [] [(44,Tryz.f44)] [((44,6),qm km ka (ql wJ))] 0
noncomputable def vq:=qo q4W 44 Tryz.f44 true q0M q0P
theorem qah:qX Tryz.prog qc 44 (qa q0M q0P vq):=sk q4W qe q9 aln (alc (lk Tryz.func44 q8v) aln) (b1 Tryz.func44) Tryz.func44
def qa9:FIn:=⟨[(.imm [.str,.str,.str]),(.agg [(.int .i64),(.int .i64),(.int .i64)])],[]⟩
def q9O:List FOut:=[⟨(.tuple [.bool,(.int .i64)]),[],none⟩]
noncomputable def qfc:=qf [(45,qa vg vk zh),(48,qa zG zH qE)] [(19,Tryz.f19)] [] 0
noncomputable def q38:=qo qfc 19 Tryz.f19 true qa9 q9O
theorem qiF:qX Tryz.prog qc 19 (qa qa9 q9O q38):=sk qfc qe q9 (alc wn (alc zV aln)) aln (b1 Tryz.func19) Tryz.func19
end Go.Eng

