/- Texts of the proof, merged: what the code computes, and plain laws. No statement stands here. -/
import Derived.KernelRfl
import Derived.Shelf.Strings.SlTrimAscii
import Derived.Shelf.Strings.Search2
import Derived.Shelf.Small.Strs
import Derived.Shelf.Strconv.Itoa3
import Derived.Shelf.Strconv.Atoi
import Derived.Shelf.Strings.BuilderK
import Derived.Shelf.LaysM
import Derived.Test.YtflobilbbfefaaaGreatDoorProg
import Derived.WalkKit
import Derived.BigCall
import Derived.Deep.RegionWith
import Derived.Laws.Externs
import Derived.Lib.Builder
import Derived.Lib.AppendStr
import Derived.Shelf.SlBodiesN
import Derived.Shelf.SlicesE.Delete
import Derived.Test.YtflobilbbfefaaaGreatDoorT2
namespace Go.Eng
theorem Sim.env{E E':Env}(he:E.glob=E'.glob)(hn:E.nimp=E'.nimp){B:Base}{X:Ctx}{st:St}{a:Act}(hs:Sim E B X st a):Sim E' B X st a:=
 ⟨hs.hs,hs.h,hs.t,hs.fs,he▸hs.glob,hs.df,hn▸hs.ni,hs.y,hs.pin⟩
theorem jD:∀c:Code,(qN c).length=zj c:=by
 intro c
 induction c<;>simp_all [qN,zj]
 all_goals omega
theorem q9s{f k:Nat}{L:St→Tree (Ex×St)}:∀{l:List ((Nat×Nat)×(St→Tree (Ex×St)))},q4i l f k=some L→((f,k),L)∈l
 | [],h=>by cases h
 | x::l,h=>by
  simp only[q4i] at h
  split at h
  ·rename_i hb
   cases h
   simp only[Bool.and_eq_true] at hb
   have h1:=Nat.eq_of_beq_eq_true hb.1
   have h2:=Nat.eq_of_beq_eq_true hb.2
   have:x=((f,k),x.2):=by obtain⟨⟨a,b⟩,c⟩:=x;simp only at h1 h2;rw[h1,h2]
   exact this▸List.mem_cons_self
  ·exact List.mem_cons_of_mem _ (q9s h)
def qC(P:Program)(gl:List (Nat×AV))(ni:Nat)(BO:Base→Prop)(c:Code)(L:St→Tree (Ex×St)):Prop:=
 ∀(E:Env) (B:Base) (X:Ctx) (st:St) (a:Act) (r:Ex×St),E.glob=gl→E.nimp=ni→BO B→Sim E B X st a→(L st).run=some r→∀(n0:Nat),c.wpIn (ux B.ro) n0 P (qms E B r) a X.w
def Env.loopsOK(E:Env)(P:Program):Prop:=
 ∀x,x∈E.loops→∃fn c c',P.funcs[x.1.1]?=some fn∧fn.body=some c∧(qN c)[x.1.2]?=some c'∧qC P E.glob E.nimp (qQ P E.iter x.1.1) c' x.2
theorem qsl{E:Env}{P:Program}{rangeH:q79}(hrg:qbS E P rangeH){f:FuncId}{fn:Func}(hf:P.funcs[f]?=some fn){cb:Code}(hb:fn.body=some cb){k:Nat}{x:Operand}{ps:Array Tmp}{a b:Code}
    (hk:(qN cb)[k]?=some (.rangeFunc x ps a b)) {evA evB:St→Tree (Ex×St)}
    (hA:∀(B:Base) (X:Ctx) (st:St) (act:Act) (r:Ex×St),qQ P E.iter f B→Sim E B X st act→(evA st).run=some r→∀n,a.wpIn (ux B.ro) n P (qms E B r) act X.w)
    (hB:∀(B:Base) (X:Ctx) (st:St) (act:Act) (r:Ex×St),qQ P E.iter f B→Sim E B X st act→(evB st).run=some r→∀n,b.wpIn (ux B.ro) n P (qms E B r) act X.w)
    {B:Base} {X:Ctx} {st:St} {act:Act} {r:Ex×St} {n0:Nat} (hbo:qQ P E.iter f B) (hs:Sim E B X st act) {g:FuncId} {first caps:List AV} (hx:E.opd st.t x=.fn g first caps)
    (hc:(qi7 E.iter g f k&&q3c E.iter f&&qmN st)=true) (h:((rangeH g (qlG evA evB ps.toList) (first++[.yld]++caps) st).bind qqe).run=some r) :
    (Code.rangeFunc x ps a b).wpIn (ux B.ro) n0 P (qms E B r) act X.w:=by
  simp only[Bool.and_eq_true] at hc
  obtain⟨⟨hit,hni⟩,htop⟩:=hc
  have htop':st.fs=[[]]∧st.pend=none∧AV.noYL st.t=true∧st.h.all Blk.noY=true:=by
    unfold qmN at htop
    split at htop
    · rename_i h1 h2
      simp only[Bool.and_eq_true] at htop
      exact⟨h1,h2,htop.1,htop.2⟩
    · cases htop
  obtain⟨t1,t2,t3,t4⟩:=htop'
  have hBfs:B.fs=[[]]:=by
    have:=hs.fs
    rw[t1] at this
    generalize B.fs=l at this
    cases this with
    | cons g1 g2=>cases g1;cases g2;rfl
  have hro:B.ro=none:=by
    cases hr:B.ro with
    | none=>rfl
    | some l =>
      have:=hbo.1 (by rw[hr];rfl)
      rw[hBfs] at this
      simp at this
  have hfi:qaj E.iter g=some (f,k):=by
    unfold qi7 at hit
    split at hit
    · rename_i y hy
      simp only[Bool.and_eq_true] at hit
      rw[hy]
      obtain⟨y1,y2⟩:=y
      have e1:y1=f:=Nat.eq_of_beq_eq_true hit.1
      have e2:y2=k:=Nat.eq_of_beq_eq_true hit.2
      rw[e1,e2]
    · cases hit
  obtain⟨q,h1,h2⟩:=bind_some h
  have hvx:=q3v hs x
  rw[hx] at hvx
  generalize hev:act.eval x=vx at hvx
  cases hvx with
  | fn _ _ _ vf vc g1 g2 =>
  rw[hro]
  apply wpIn_rangeFunc
  intro fid _
  let D:=X.w.heap.size
  let l:=X.w.heap.size+1
  let rec0:Obj:=.loop (q2h fid act.tmps ps a b D none)
  obtain⟨k1,k2⟩:=qco hs.hs (o:=.deferred (some [])) (fun _ _ _ h=>by cases h)
  obtain⟨k3,k4⟩:=qco k1 (o:=rec0) (fun _ _ _ h=>Obj.noConfusion h)
  let X1:Ctx:={ X with w:=(X.w.alloc (.deferred (some []))).alloc rec0,kept:=(l,rec0)::(D,.deferred (some []))::X.kept }
  have hsz:(X.w.alloc (.deferred (some []))).heap.size=l:=by simp[l]
  have hX1:({ ({ X with w:=X.w.alloc (.deferred (some [])),kept:=(X.w.heap.size,.deferred (some []))::X.kept }:Ctx) with w:=(X.w.alloc (.deferred (some []))).alloc rec0,kept:=((X.w.alloc (.deferred (some []))).heap.size,rec0)::(X.w.heap.size,.deferred (some []))::X.kept }:Ctx)=X1:=by
    rw[hsz]
  have k3':HSim B X1:=hX1▸k3
  have k4':Move0 { X with w:=X.w.alloc (.deferred (some [])),kept:=(X.w.heap.size,.deferred (some []))::X.kept } X1 some:=hX1▸k4
  have hall:X1.h.all Blk.noY=true:=by show X.h.all Blk.noY=true;rw[hs.h];exact t4
  let X2:Ctx:={ X1 with y:=l }
  have hs2:HSim B X2:=k3'.setY l hall
  let B1:Base:={ B with fs:=act.tmps.toList::B.fs,ro:=none,y:=l,pin:=fun e=>(l,.loop (q2h fid act.tmps ps a b D e))::(D,.deferred (some []))::X.kept }
  have hlt:∀p,p∈(D,(.deferred (some []):Obj))::X.kept→p.1≠l:=by
    intro p hp
    rcases List.mem_cons.1 hp with rfl|hp
    · show D≠l;simp[D,l]
    · have:=qn7 hs.hs hp;simp only[l];omega
  have hI:qnd P (f,k) B1:=⟨fn,cb,x,ps,a,b,hf,hb,hk,act.tmps,B.fs,D,fid,(D,.deferred (some []))::X.kept,rfl,fun e=>rfl,hlt,rfl⟩
  have hB1:qQ P E.iter g B1:=⟨fun h=>(by cases h),by rw[hfi];exact hI⟩
  have hargs:RepL X2 (first++[.yld]++caps) (vf++[Value.func (.yield l) #[] #[]]++vc):=by
    have hno:AV.noYL first=true∧AV.noYL caps=true:=by
      have hn:(AV.fn g first caps).noY=true:=by
        rw[←hx]
        cases x with
        | tmp i =>
          simp only[Env.opd]
          rw[List.getD_eq_getElem?_getD]
          cases hi:st.t[i]? with
          | none=>rfl
          | some v =>
            have:∀(l:List AV),AV.noYL l=true→∀v,v∈l→v.noY=true:=by
              intro l
              induction l with
              | nil=>intro _ v hv;cases hv
              | cons y l ih =>
                intro hl v hv
                simp only[AV.noYL,Bool.and_eq_true] at hl
                rcases List.mem_cons.1 hv with rfl|hv
                · exact hl.1
                · exact ih hl.2 v hv
            exact this _ t3 v (List.mem_of_getElem? hi)
        | const v => rw [show E.opd st.t (.const v) = ofV v from rfl] at hx; unfold ofV at hx; split at hx; · cases hx
                     · unfold wM at hx;split at hx<;>first|cases hx|(split at hx<;>cases hx)
        | global g' =>
          simp only[Env.opd] at hx
          cases hg:E.glob.find? fun x=>x.1==g' with
          | none=>rw[hg] at hx;cases hx
          | some y =>
            rw[hg] at hx
            obtain⟨⟨sh,r',i,off,he⟩,_⟩:=hs.glob y (List.mem_of_find?_eq_some hg)
            simp only[Option.map_some,Option.getD_some] at hx
            rw[he] at hx;cases hx
        | func f'=>rw[show E.opd st.t (.func f')=.fn f' [] [] from rfl] at hx;cases hx;rfl
      simpa only [AV.noY,Bool.and_eq_true] using hn
    have m1:RepL X1 first vf:=(g1.ext0 k2).ext0 k4'
    have m2:RepL X1 caps vc:=(g2.ext0 k2).ext0 k4'
    exact((m1.setY l hno.1).append (.cons .yld .nil)).append (m2.setY l hno.2)
  have hF:SimF E B1 X2 st:=by
    have m1:RepL X1 st.t act.tmps.toList:=(hs.t.ext0 k2).ext0 k4'
    refine⟨hs2.base rfl rfl rfl,hs.h,?_,qlB (q9U k4' (q9U k2 hs.glob)) l,hs.ni,rfl,fun p hp=>by rw[t2] at hp;exact hp⟩
    show RepLL X2 _ (act.tmps.toList::B.fs)
    rw[t1,hBfs]
    exact .cons (m1.setY l t3) (.cons .nil .nil)
  obtain⟨henter,hcalls⟩:=hrg g _ _ st q B1 X2 _ hF hB1 (fun B' hB'=>by
    obtain⟨_,h'⟩:=hB'
    rw[hfi] at h'
    exact qnX hf hb hk hni hA hB h') rfl hargs h1
  refine⟨l,[qbg D],X1.w,{ target:=.fn (.func g) vc.toArray,args:=vf.toArray++#[Value.func (.yield l) #[] #[]] },X1.w,g,(vf++[Value.func (.yield l) #[] #[]]++vc).toArray,X1.w,?_,?_,fun _ _=>trivial,?_,q7Q none,?_⟩
  · exact run_enterLoop_outer fid act.tmps ps a b
  · simp only[resolve,hev,Deferred.ofValue,Sem.run_pure]
    simp[Act.eval]
  · simp only[invoke]
    have:vf.toArray++#[Value.func (.yield l) #[] #[]]++vc.toArray=(vf++[Value.func (.yield l) #[] #[]]++vc).toArray:=by
      apply Array.ext';simp
    rw[this]
    exact henter X1.w
  · refine qrz.2 (hcalls.mono fun e w' ⟨v,X',e1,e2,_,hF'⟩=>?_)
    subst e1 e2
    have hpin:=hF'.pin
    have hrec:(l,.loop (q2h fid act.tmps ps a b D q.2.pend))∈X'.kept:=hpin _ List.mem_cons_self
    have hlie:=(hF'.hs.kept _ hrec).1
    simp only at hlie
    have hbusy:(q2h fid act.tmps ps a b D q.2.pend).state≠.busy:=by
      simp only[q2h];split<;>simp
    obtain⟨m1,m2⟩:=q6b hF'.hs (o':=.loop { q2h fid act.tmps ps a b D q.2.pend with state:=.exhausted }) hrec (fun _ _ _ h=>by cases h)
    refine⟨_,_,run_endLoop hlie hbusy,?_⟩
    unfold qqe at h2
    cases htq:qmN { q.2 with pend:=none } with
    | false=>rw[htq] at h2;cases h2
    | true =>
    rw[htq] at h2
    simp only at h2
    have htop2:q.2.fs=[[]]∧AV.noYL q.2.t=true∧q.2.h.all Blk.noY=true:=by
      unfold qmN at htq
      split at htq
      · rename_i h1 h2
        simp only[Bool.and_eq_true] at htq
        exact⟨h1,htq.1,htq.2⟩
      · cases htq
    obtain⟨u1,u2,u3⟩:=htop2
    let X3:Ctx:={ X' with w:=X'.w.putObj l (.loop { q2h fid act.tmps ps a b D q.2.pend with state:=.exhausted }),kept:=q6k l (.loop { q2h fid act.tmps ps a b D q.2.pend with state:=.exhausted }) X'.kept }
    have hsim:Sim E B { X3 with y:=B.y } { q.2 with pend:=none } { act with defers:=[qbg D]++act.defers }:=by
      have hfs':=hF'.fs.ext0 m2
      have hold:∀p,p∈(D,(.deferred (some []):Obj))::X.kept→p∈X3.kept:=fun p hp=>uh (hpin p (List.mem_cons_of_mem _ hp)) (hlt p hp)
      have hfs2:RepLL X3 (q.2.t::q.2.fs) (act.tmps.toList::B.fs):=hfs'
      refine⟨((m1.base (B':=B) rfl rfl rfl).setY B.y (by show X'.h.all Blk.noY=true;rw[hF'.h];exact u3)),hF'.h,?_,?_,qlB (q9U m2 hF'.glob) B.y,?_,hs.ni,rfl,?_⟩
      · cases hfs2 with|cons z1 z2=>exact z1.setY B.y u2
      · show RepLL _ q.2.fs B.fs
        rw[u1,hBfs];exact .cons .nil .nil
      · obtain⟨Ds,d1,d2,d3⟩:=hs.df
        rw[t2] at d3
        refine⟨D::Ds,by rw[d1];rfl,List.nodup_cons.2 ⟨fun hD=>?_,d2⟩,fun D' hD'=>?_⟩
        · have:=qn7 hs.hs (d3 D hD).1
          simp[D] at this
        · rcases List.mem_cons.1 hD' with rfl|hD'
          · refine⟨hold _ List.mem_cons_self,fun p hp=>?_⟩
            have hp':=hs.pin p (by rw[t2];exact hp)
            have:=qn7 hs.hs hp'
            simp only[D];omega
          · exact⟨hold _ (List.mem_cons_of_mem _ (d3 D' hD').1),(d3 D' hD').2⟩
      · intro p hp
        exact hold p (List.mem_cons_of_mem _ (hs.pin p (by rw[t2];exact hp)))
    cases hpe:q.2.pend with
    | none =>
      rw[hpe] at h2
      simp only[Tree.run,Option.some.injEq] at h2
      subst h2
      exact⟨rfl,{ X3 with y:=B.y },by show X'.w.putObj l _=_;rw[hpe],hsim⟩
    | some e =>
      rw[hpe] at h2
      cases e with
      | normal=>cases h2
      | ret =>
        simp only[Tree.run,Option.some.injEq] at h2
        subst h2
        exact wpIn_ret ⟨rfl,{ X3 with y:=B.y },by show X'.w.putObj l _=_;rw[hpe],hsim⟩
      | exit i =>
        simp only[Tree.run,Option.some.injEq] at h2
        subst h2
        exact wpIn_exit ⟨rfl,{ X3 with y:=B.y },by show X'.w.putObj l _=_;rw[hpe],hsim⟩
theorem q5K{E:Env}{P:Program}(hm:P.follows .mixedOrders=true)(hE:E.tok P)(hS:E.specs P)(hL:E.loopsOK P){f:FuncId}{fn:Func}(hf:P.funcs[f]?=some fn){cb:Code}(hb:fn.body=some cb)
  {callH:q1Q} (hcH:∀B,qQ P E.iter f B→CallOK E P callH B) {callS:List Blk→ki} (hc:q6C E P callS) (hmo:kG E callS) {rangeH:q79} (hrg:qbS E P rangeH) :
  ∀(c:Code) (k:Nat),(∀j c',(qN c)[j]?=some c'→(qN cb)[k+j]?=some c') →
  ∀{B:Base} {X:Ctx} {st:St} {a:Act} {r:Ex×St} {n0:Nat},qQ P E.iter f B→Sim E B X st a→(vK E callH callS rangeH f c k st).run=some r→c.wpIn (ux B.ro) n0 P (qms E B r) a X.w:=by
 intro c
 induction c with
 | skip=>
  intro k _ B X st a r n0 hbo hs h
  simp only[vK,Tree.run,Option.some.injEq] at h
  subst h
  exact wpIn_skip ⟨rfl,X,rfl,hs⟩
 | label _=>
  intro k _ B X st a r n0 hbo hs h
  simp only[vK,Tree.run,Option.some.injEq] at h
  subst h
  exact wpIn_label ⟨rfl,X,rfl,hs⟩
 | region id ops draw=>
  intro k _ B X st a r n0 hbo hs h
  simp only[vK] at h
  obtain⟨s,h1,h2⟩:=bind_some h
  simp only[Tree.run,Option.some.injEq] at h2
  subst h2
  cases draw with
  | true=>exact qkG hm hE hS (hcH B hbo) hc hmo hs h1 fun X' a' hs'=>⟨rfl,X',rfl,hs'⟩
  | false=>exact qhX hE (hcH B hbo) hs h1 fun X' a' hs'=>⟨rfl,X',rfl,hs'⟩
 | seq c d ihc ihd=>
  intro k hl B X st a r n0 hbo hs h
  simp only[vK] at h
  cases hfn:q4i E.loops f k with
  | some L=>
   rw[hfn] at h
   obtain⟨fn',c1,c2,q1,q2,q3,q4⟩:=hL _ (q9s hfn)
   simp only at q1 q3 q4
   rw[hf] at q1;cases q1
   rw[hb] at q2;cases q2
   have:=hl 0 (.seq c d) (by simp[qN])
   rw[Nat.add_zero,q3] at this
   cases this
   exact q4 E B X st a r rfl rfl hbo hs h n0
  | none=>
  rw[hfn] at h
  obtain⟨r1,h1,h2⟩:=bind_some h
  apply wpIn_seq
  have g1:=ihc (k+1) (fun j c' hj=>by
   have:=hl (1+j) c' (by simp only[qN];rw[Nat.add_comm,List.getElem?_cons_succ,List.getElem?_append_left (qk hj)];exact hj)
   rw[show k+1+j=k+(1+j) by omega];exact this) (n0:=n0) hbo hs h1
  refine wpIn_mono g1 fun e a' w' ⟨he,X',hw,hs'⟩=>?_
  subst hw
  obtain⟨x1,s1⟩:=r1
  cases x1 with
  | normal=>
   subst he
   refine ihd (k+1+zj c) (fun j c' hj=>?_) hbo hs' h2
   have:=hl (1+zj c+j) c' (by
    simp only[qN]
    rw[show 1+zj c+j=(zj c+j)+1 by omega,List.getElem?_cons_succ,List.getElem?_append_right (by rw[jD];omega),jD]
    rw[show zj c+j-zj c=j by omega];exact hj)
   rw[show k+1+zj c+j=k+(1+zj c+j) by omega];exact this
  | exit i=>
   simp only[Tree.run,Option.some.injEq] at h2
   subst he h2
   exact⟨rfl,X',rfl,hs'⟩
  | ret=>
   simp only[Tree.run,Option.some.injEq] at h2
   subst he h2
   exact⟨rfl,X',rfl,hs'⟩
 | cond x c d ihc ihd=>
  intro k hl B X st a r n0 hbo hs h
  simp only[vK] at h
  have hlc:=fun j c' (hj:(qN c)[j]?=some c')=>hl j c' (by simp only[qN];rw[List.getElem?_append_left (qk hj)];exact hj)
  have hld:∀j c',(qN d)[j]?=some c'→(qN cb)[k+zj c+j]?=some c':=fun j c' hj=>by
   have:=hl (zj c+j) c' (by
    simp only[qN]
    rw[List.getElem?_append_right (by rw[jD];omega),jD]
    rw[show zj c+j-zj c=j by omega];exact hj)
   rw[show k+zj c+j=k+(zj c+j) by omega];exact this
  have hx:=q3v hs x
  cases hv:E.opd st.t x with
  | blit b=>
   rw[hv] at h hx
   generalize hev:a.eval x=vx at hx
   cases hx
   cases b with
   | true=>exact wpIn_cond_true hev (ihc k hlc hbo hs h)
   | false=>exact wpIn_cond_false hev (ihd _ hld hbo hs h)
  | bool b=>
   rw[hv] at h hx
   generalize hev:a.eval x=vx at hx
   cases hx
   cases x with
   | tmp t=>
    simp only at h
    have ht:st.t[t]?=some (.bool b):=by
     simp only[Env.opd,List.getD_eq_getElem?_getD] at hv
     cases hg:st.t[t]? with
     | none=>rw[hg] at hv;cases hv
     | some y=>rw[hg] at hv;simp at hv;rw[hv]
    have hs':=hs.lit ht
    cases b with
    | true=>exact wpIn_cond_true hev (ihc k hlc hbo hs' h)
    | false=>exact wpIn_cond_false hev (ihd _ hld hbo hs' h)
   | _=>cases h
  | _=>rw[hv] at h;cases h
 | block id c ihc=>
  intro k hl B X st a r n0 hbo hs h
  simp only[vK] at h
  obtain⟨r1,h1,h2⟩:=bind_some h
  apply wpIn_block
  have g1:=@ihc k hl _ _ _ _ _ n0 hbo hs h1
  refine wpIn_mono g1 fun e a' w' ⟨he,X',hw,hs'⟩=>?_
  subst hw he
  obtain⟨x1,s1⟩:=r1
  cases x1 with
  | normal=>
   simp only[Tree.run,Option.some.injEq] at h2
   subst h2
   exact⟨rfl,X',rfl,hs'⟩
  | ret=>
   simp only[Tree.run,Option.some.injEq] at h2
   subst h2
   exact⟨rfl,X',rfl,hs'⟩
  | exit i=>
   simp only[Ex.out,Exit.inBlock]
   simp only at h2
   by_cases hi:i=id
   ·rw[if_pos hi] at h2 ⊢
    simp only[Tree.run,Option.some.injEq] at h2
    subst h2
    exact⟨rfl,X',rfl,hs'⟩
   ·rw[if_neg hi] at h2 ⊢
    simp only[Tree.run,Option.some.injEq] at h2
    subst h2
    exact⟨rfl,X',rfl,hs'⟩
 | loop c ihc=>
  intro k hl B X st a r n0 hbo hs h
  simp only[vK] at h
  cases hfn:q4i E.loops f k with
  | none=>rw[hfn] at h;cases h
  | some L=>
   rw[hfn] at h
   obtain⟨fn',c1,c2,q1,q2,q3,q4⟩:=hL _ (q9s hfn)
   simp only at q1 q3 q4
   rw[hf] at q1;cases q1
   rw[hb] at q2;cases q2
   have:=hl 0 (.loop c) (by simp[qN])
   rw[Nat.add_zero,q3] at this
   cases this
   exact q4 E B X st a r rfl rfl hbo hs h n0
 | exit id=>
  intro k _ B X st a r n0 hbo hs h
  simp only[vK,Tree.run,Option.some.injEq] at h
  subst h
  exact wpIn_exit ⟨rfl,X,rfl,hs⟩
 | ret  =>
  intro k _ B X st a r n0 hbo hs h
  simp only[vK,Tree.run,Option.some.injEq] at h
  subst h
  exact wpIn_ret ⟨rfl,X,rfl,hs⟩
 | goto _=>
  intro k _ B X st a r n0 hbo hs h
  simp only[vK] at h;cases h
 | scope _ ihc=>
  intro k _ B X st a r n0 hbo hs h
  simp only[vK] at h;cases h
 | rangeFunc x ps c d ihc ihd=>
  intro k hl B X st a r n0 hbo hs h
  simp only[vK] at h
  cases hx:E.opd st.t x with
  | fn g first caps=>
   rw[hx] at h
   simp only at h
   cases hcd:qi7 E.iter g f k&&q3c E.iter f&&qmN st with
   | false=>rw[hcd] at h;cases h
   | true=>
    rw[hcd] at h
    simp only at h
    refine qsl hrg hf hb (hl 0 _ (by simp[qN])) (fun B X st act r hbo hs hr n=>?_) (fun B X st act r hbo hs hr n=>?_) hbo hs hx hcd h
    ·refine ihc (k+1) (fun j c' hj=>?_) hbo hs hr
     have:=hl (1+j) c' (by simp only[qN];rw[Nat.add_comm,List.getElem?_cons_succ,List.getElem?_append_left (qk hj)];exact hj)
     rw[show k+1+j=k+(1+j) by omega];exact this
    ·refine ihd (k+1+zj c) (fun j c' hj=>?_) hbo hs hr
     have:=hl (1+zj c+j) c' (by
      simp only[qN]
      rw[show 1+zj c+j=(zj c+j)+1 by omega,List.getElem?_cons_succ,List.getElem?_append_right (by rw[jD];omega),jD]
      rw[show zj c+j-zj c=j by omega];exact hj)
     rw[show k+1+zj c+j=k+(1+zj c+j) by omega];exact this
  | _=>rw[hx] at h;cases h
 | _=>
  intro k hl B X st a r n0 hbo hs h
  simp only[vK] at h;cases h
theorem qna{P:Program}{w:World}{t:TypeId}{v u:Value}(h:(Instr.loadAt t v).run P w=.ok u w):∃ad,v=.pointer (some ad)∧(loadVar t ad).run P w=.ok u w:=by
 cases v with
 | pointer p=>
  cases p with
  | some ad=>exact⟨ad,rfl,by simpa[Instr.loadAt,Instr.sureAddr] using h⟩
  | none=>simp[Instr.loadAt,Instr.sureAddr] at h
 | _=>simp[Instr.loadAt,Instr.sureAddr] at h
def qv0(tmps:Array Value):ResultVar→Sem Value
 | .tmp t=>pure (tmps.getD t undef)
 | .cell a t=>do loadVar t (←asAddr (tmps.getD a undef))
theorem qpo(fn:Func)(tmps:Array Value):results fn tmps=(fn.results.mapM (qv0 tmps) >>= fun vs=>pure (if h:vs.size=1 then vs[0] else .tuple vs)):=by
 unfold results
 congr 1
theorem qbF{E:Env}{P:Program}(hE:E.tok P){B:Base}{X:Ctx}{st:St}{a:Act}(hs:Sim E B X st a):∀(l:List ResultVar) (vs:List AV),qfe E st.h st.t l=some vs →
  ∃us,(l.mapM (qv0 a.tmps)).run P X.w=.ok us X.w∧RepL X vs us
 | [],vs,h=>by simp only[qfe,Option.some.injEq] at h;subst h;exact⟨[],by simp,.nil⟩
 | .tmp i::l,vs,h=>by
  simp only[qfe] at h
  split at h
  ·rename_i r hr
   cases h
   obtain⟨us,h1,h2⟩:=qbF hE hs l r hr
   have:=q3v hs (.tmp i)
   simp only[Env.opd,Act.eval] at this
   exact⟨_::us,by simp[List.mapM_cons,qv0,h1],.cons this h2⟩
  ·cases h
 | .cell i ty::l,vs,h=>by
  simp only[qfe] at h
  split at h
  ·rename_i v h' n r hld hr
   cases h
   obtain⟨us,h1,h2⟩:=qbF hE hs l r hr
   have hv:=q3v hs (.tmp i)
   simp only[Env.opd,Act.eval] at hv
   rw[←hs.h] at hld
   obtain⟨av,u,g1,g2,g3⟩:=q9w hE hs.hs hv (r:=(v,h',n)) (by rw[hld];rfl)
   obtain⟨ad,g4,g5⟩:=qna g2
   have:v=av:=congrArg Prod.fst g1
   subst this
   refine⟨u::us,?_,.cons g3 h2⟩
   simp only[List.mapM_cons,qv0,Sem.run_bind,g4,asAddr,Sem.run_pure,Result.andThen_ok,g5,h1]
  ·cases h
theorem RepL.len{X:Ctx}:∀{azz:List AV} {vs:List Value},RepL X azz vs→azz.length=vs.length
 | _,_,.nil=>rfl
 | _,_,.cons _ t=>by simp[t.len]
theorem qjB{E:Env}{P:Program}(hE:E.tok P){B:Base}{X:Ctx}{st:St}{a:Act}(hs:Sim E B X st a){fn:Func}{vs:List AV}(h:qfe E st.h st.t fn.results.toList=some vs) :
  ∃u,(results fn a.tmps).run P X.w=.ok u X.w∧Rep X (qrF vs) u:=by
 obtain⟨us,h1,h2⟩:=qbF hE hs _ _ h
 have hm:(fn.results.mapM (qv0 a.tmps)).run P X.w=.ok us.toArray X.w:=by
  rw[Array.mapM_eq_mapM_toList,Sem.run_map,h1];rfl
 rw[qpo,Sem.run_bind,hm]
 simp only[Result.andThen_ok,Sem.run_pure]
 have hl:=h2.len
 cases h2 with
 | nil=>exact⟨_,rfl,.tuple [] [] .nil⟩
 | cons g1 g2=>
  cases g2 with
  | nil=>exact⟨_,rfl,by simpa[qrF] using g1⟩
  | cons g3 g4=>
   refine⟨_,rfl,?_⟩
   rw[dif_neg (by simp)]
   exact .tuple _ _ (.cons g1 (.cons g3 g4))
theorem qrw{X:Ctx}{fn:Func}{args:List AV}{vargs:List Value}(h:RepL X args vargs):RepL X (qoY fn args) (vargs.toArray++Array.replicate (fn.ntmps-vargs.toArray.size) undef).toList:=by
 have hrep:∀n,RepL X (List.replicate n .skip) (List.replicate n undef):=by
  intro n
  induction n with
  | zero=>exact .nil
  | succ n ih=>simp only[List.replicate_succ];exact .cons .skip ih
 unfold qoY
 simp only[Array.toList_append,Array.toList_replicate,List.size_toArray]
 rw[h.len]
 exact h.append (hrep _)
def Env.bodies(E:Env)(P:Program):Prop:=∀x,x∈E.body→P.funcs[x.1]?=some x.2∧(x.2.name == "runtime.NumGoroutine")=false
theorem qcE{E:Env}{P:Program}(hm:P.follows .mixedOrders=true)(hE:E.tok P)(hS:E.specs P)(hL:E.loopsOK P){f:FuncId}{fn:Func}(hf:P.funcs[f]?=some fn)
  {callH:q1Q} (hcH:∀B,qQ P E.iter f B→CallOK E P callH B) {callS:List Blk→ki} (hc:q6C E P callS) (hmo:kG E callS) {rangeH:q79} (hrg:qbS E P rangeH)
  {args:List AV} {st:St} {r:AV×St} {B:Base} {X:Ctx} {vargs:List Value} (hro:B.ro=none) (hbo:qQ P E.iter f B) (hs:SimF E B X st) (ha:RepL X args vargs) (h:(qjq E callS callH rangeH f fn args st).run=some r) :
  fn.body.isNone=false∧Calls P f vargs.toArray X.w fun e w'=>∃v X',e=.returned v∧X'.w=w'∧Rep X' r.1 v∧SimF E B X' r.2:=by
 unfold qjq at h
 cases hb:fn.body with
 | none=>rw[hb] at h;cases h
 | some c=>
  rw[hb] at h
  refine⟨rfl,qrz.1 (callsIn_of_wp_marks (F:=ux none) (n:=0) hf hb trivial ?_)⟩
  obtain⟨r1,h1,h2⟩:=bind_some h
  have hsim:Sim E B X { t:=qoY fn args,fs:=st.t::st.fs,h:=st.h,pend:=st.pend } { tmps:=vargs.toArray++Array.replicate (fn.ntmps-vargs.toArray.size) undef,defers:=[] }:=
   ⟨hs.hs,hs.h,qrw ha,hs.fs,hs.glob,qmb.nil,hs.ni,hs.y,hs.pin⟩
  have hcode:=q5K (n0:=0) hm hE hS hL hf hb hcH hc hmo hrg c 0 (fun j c' hj=>by rw[Nat.zero_add];exact hj) hbo hsim h1
  rw[hro] at hcode
  refine wpIn_mono hcode fun e a' w' ⟨he,X',hw,hs'⟩=>?_
  subst he hw
  obtain⟨x1,s1⟩:=r1
  have fin:∀{vs:List AV} {caller:List AV} {fs:List (List AV)},qfe E s1.h s1.t fn.results.toList=some vs→s1.fs=caller::fs→r=(qrF vs,{ t:=caller,fs:=fs,h:=s1.h,pend:=s1.pend }) →
    LeavesInM (ux none) 0 P fn a'.tmps (fun e w'=>∃v X',e=.returned v∧X'.w=w'∧Rep X' r.1 v∧SimF E B X' r.2) a'.defers .returning X'.w:=by
   intro vs caller fs hr hfs hre
   obtain⟨Ds,d1,_⟩:=hs'.df
   rw[d1]
   refine qkt Ds hs' d1 fun X2 hs2=>?_
   obtain⟨u,g1,g2⟩:=qjB hE hs2 hr
   refine⟨u,g1,u,X2,rfl,rfl,by rw[hre];exact g2,?_⟩
   rw[hre]
   exact⟨hs2.hs,hs2.h,by rw[←hfs];exact hs2.fs,hs2.glob,hs2.ni,hs2.y,hs2.pin⟩
  unfold qsd at h2
  cases x1 with
  | exit i=>simp only at h2;cases h2
  | normal=>
   simp only at h2
   split at h2
   ·rename_i vs caller fs hr hfs;cases h2;exact fin hr hfs rfl
   ·cases h2
  | ret=>
   simp only at h2
   split at h2
   ·rename_i vs caller fs hr hfs;cases h2;exact fin hr hfs rfl
   ·cases h2
theorem yV {P:Program} {f:FuncId} {fn:Func} (hf:P.funcs[f]?=some fn) (hn:(fn.name == "runtime.NumGoroutine")=false) (hb:fn.body.isNone=false):qcN P f:=by
 intro args w
 unfold callFunc
 rw[Sem.run_bind]
 show (Result.ok P w).andThen _=_
 simp only[Result.andThen_ok,hf,hn,hb,Bool.false_eq_true,if_false,Sem.run_pure]
theorem qtT{all:Array Oper}{k:Nat}{o:Oper}{s s':St}(h:(qhl all k o s).run=some s')(u:St)(hu:u.t=s.t):(qhl all k o u).run=some { u with t:=s'.t }:=by
 unfold qhl at h ⊢
 split at h
 ·rename_i hg
  rw[if_pos hg]
  split at h
  ·rename_i d hd
   simp only[hu]
   split at h
   ·rename_i b hb
    simp only[Tree.run] at h ⊢
    cases b<;>(simp only[Option.some.injEq] at h ⊢;subst h;rfl)
   ·rename_i hb
    cases hx:s.t[d]? with
    | none=>simp only[Tree.run,Option.some.injEq] at h ⊢;subst h;rw[←hu]
    | some v=>
     rw[hx] at hb
     cases v<;>first|(exact absurd rfl (hb _))|(simp only[Tree.run,Option.some.injEq] at h ⊢;subst h;rw[←hu])
  ·simp only[Tree.run,Option.some.injEq] at h ⊢;subst h;rw[←hu]
 ·rename_i hg
  rw[if_neg hg]
  simp only[Tree.run,Option.some.injEq] at h ⊢;subst h;rw[←hu]
theorem qdL{E:Env}{callH:q1Q}{all:Array Oper}{st0:St}:∀(l:List Oper) (k:Nat) (t t':List AV),(qic E st0.h all k l t).run=some t'→(q9d E callH all k l { st0 with t:=t }).run=some { st0 with t:=t' }
 | [],k,t,t',h=>by simp only[qic,Tree.run,Option.some.injEq] at h;subst h;rfl
 | o::rest,k,t,t',h=>by
  simp only[qic] at h
  simp only[q9d]
  cases hw:vU all o t with
  | none=>rw[hw] at h;cases h
  | some b=>
   rw[hw] at h
   cases b with
   | false=>
    simp only at h ⊢
    exact qdL rest (k+1) _ t' h
   | true=>
    simp only at h ⊢
    cases hst:q5m E o.op with
    | false=>rw[hst] at h;cases h
    | true=>
     rw[hst] at h
     obtain⟨r,h1,h2⟩:=bind_some h
     obtain⟨s,h3,h4⟩:=bind_some h2
     have hr:=qib hst h1
     have hstep:(qgZ E callH o { st0 with t:=t }).run=some { st0 with t:=q90 t o.dst r.1 }:=by
      unfold qgZ
      split
      ·rename_i x args tys hop;rw[hop] at hst;cases hst
      ·rw[Tree.run_bind,h1]
       obtain⟨r1,r2⟩:=r
       simp only at hr
       subst hr
       rfl
     rw[Tree.run_bind,hstep]
     simp only[Option.bind_some]
     rw[Tree.run_bind,qtT h3 { st0 with t:=q90 t o.dst r.1 } rfl]
     exact qdL rest (k+1) _ t' h4
theorem qkI{E:Env}{callH:q1Q}{callS:List Blk→ki}{rangeH:q79}{f:FuncId}{st0:St}:∀(c:Code) (k:Nat) (t:List AV) (r:Ex×List AV),(uM E st0.h f c k t).run=some r →
  (vK E callH callS rangeH f c k { st0 with t:=t }).run=some (r.1,{ st0 with t:=r.2 }):=by
 intro c
 induction c with
 | skip=>intro k t r h;simp only[uM,Tree.run,Option.some.injEq] at h;subst h;rfl
 | label _=>intro k t r h;simp only[uM,Tree.run,Option.some.injEq] at h;subst h;rfl
 | region id ops draw=>
  intro k t r h
  simp only[uM] at h
  cases draw with
  | true=>cases h
  | false=>
   obtain⟨s,h1,h2⟩:=bind_some h
   simp only[Tree.run,Option.some.injEq] at h2
   subst h2
   simp only[vK]
   rw[Tree.run_bind,qdL (callH:=callH) _ _ _ _ h1]
   rfl
 | seq c d ihc ihd=>
  intro k t r h
  simp only[uM] at h
  simp only[vK]
  cases hfn:q4i E.loops f k with
  | some L=>rw[hfn] at h;cases h
  | none=>
   rw[hfn] at h
   simp only at h ⊢
   obtain⟨s,h1,h2⟩:=bind_some h
   rw[Tree.run_bind,ihc _ _ _ h1]
   simp only[Option.bind_some]
   obtain⟨e,s2⟩:=s
   cases e with
   | normal=>exact ihd _ _ _ h2
   | ret=>simp only[Tree.run,Option.some.injEq] at h2 ⊢;subst h2;rfl
   | exit i=>simp only[Tree.run,Option.some.injEq] at h2 ⊢;subst h2;rfl
 | cond x c d ihc ihd=>
  intro k t r h
  simp only[uM] at h
  simp only[vK]
  split at h
  ·exact ihc _ _ _ h
  ·exact ihd _ _ _ h
  ·rename_i b hx
   cases x with
   | tmp d'=>
    simp only[Tree.run] at h ⊢
    cases b with
    | true=>exact ihc _ _ _ h
    | false=>exact ihd _ _ _ h
   | _=>cases h
  ·cases h
 | block id c ihc=>
  intro k t r h
  simp only[uM] at h
  simp only[vK]
  obtain⟨s,h1,h2⟩:=bind_some h
  rw[Tree.run_bind,ihc _ _ _ h1]
  simp only[Option.bind_some]
  obtain⟨e,s2⟩:=s
  cases e with
  | normal=>simp only[Tree.run,Option.some.injEq] at h2 ⊢;subst h2;rfl
  | ret=>simp only[Tree.run,Option.some.injEq] at h2 ⊢;subst h2;rfl
  | exit i=>
   simp only at h2 ⊢
   split at h2
   ·rename_i hi;rw[if_pos hi];simp only[Tree.run,Option.some.injEq] at h2 ⊢;subst h2;rfl
   ·rename_i hi;rw[if_neg hi];simp only[Tree.run,Option.some.injEq] at h2 ⊢;subst h2;rfl
 | exit id=>intro k t r h;simp only[uM,Tree.run,Option.some.injEq] at h;subst h;rfl
 | ret=>intro k t r h;simp only[uM,Tree.run,Option.some.injEq] at h;subst h;rfl
 | _=>intro k t r h;simp only[uM] at h;cases h
theorem qkn{E:Env}{callH:q1Q}{rangeH:q79}{f:FuncId}{fn:Func}{args:List AV}{st:St}{v:AV}(h:(qmX E st.h f fn args).run=some v):(qjq E qkh callH rangeH f fn args st).run=some (v,st):=by
 unfold qmX at h
 unfold qjq
 cases hb:fn.body with
 | none=>rw[hb] at h;cases h
 | some c=>
  rw[hb] at h
  simp only at h ⊢
  obtain⟨r,h1,h2⟩:=bind_some h
  rw[Tree.run_bind,qkI (callH:=callH) (callS:=qkh) (rangeH:=rangeH) (st0:={ t:=[],fs:=st.t::st.fs,h:=st.h,pend:=st.pend }) c 0 _ r h1]
  simp only[Option.bind_some]
  obtain⟨e,t'⟩:=r
  unfold qsd
  cases e with
  | exit i=>cases h2
  | normal=>
   simp only at h2 ⊢
   cases hr:qfe E st.h t' fn.results.toList with
   | none=>rw[hr] at h2;cases h2
   | some vs=>rw[hr] at h2;cases h2;rfl
  | ret=>
   simp only at h2 ⊢
   cases hr:qfe E st.h t' fn.results.toList with
   | none=>rw[hr] at h2;cases h2
   | some vs=>rw[hr] at h2;cases h2;rfl
theorem qbT{P:Program}{it:List (FuncId×FuncId×Nat)}{f:FuncId}(h:q3c it f=true){B:Base}(hB:B.ro.isSome=true→2≤B.fs.length):qQ P it f B:=by
 refine⟨hB,?_⟩
 unfold q3c at h
 split at h
 ·cases h
 ·rename_i hn;rw[hn];trivial
theorem qdG(E:Env)(P:Program):qbS E P qjZ:=fun _ _ _ _ _ _ _ _ _ _ _ _ _ h=>by cases h
theorem qqP{E:Env}{P:Program}(B:Base):CallOK E P (fun _ _ _=>.fail) B:=⟨(fun f args st r X a vargs _ _ h=>by cases h),(fun args st r X a vargs _ _ h=>by cases h)⟩
theorem q6e{E:Env}{P:Program}(hm:P.follows .mixedOrders=true)(hE:E.tok P)(hS:E.specs P)(hL:E.loopsOK P)(hb:E.bodies P):q6C E P (q3a E):=by
 intro f args st v B X a vargs hs ha h
 unfold q3a at h
 cases hsp:E.spec.find? fun x=>x.1==f with
 | some G=>rw[hsp] at h;exact qjo hS f args st v B X a vargs hs ha h
 | none=>
  rw[hsp] at h
  simp only at h
  cases hbd:E.body.find? fun x=>x.1==f with
  | none=>rw[hbd] at h;cases h
  | some fn=>
   rw[hbd] at h
   simp only at h
   cases hni:q3c E.iter f with
   | false=>rw[hni] at h;cases h
   | true=>
   rw[hni] at h
   simp only at h
   have hx:=hb fn (List.mem_of_find?_eq_some hbd)
   have hfe:fn.1=f:=by simpa using List.find?_some hbd
   rw[hfe] at hx
   let B':Base:={ B with fs:=a.tmps.toList::B.fs,ro:=none,pin:=fun _=>X.kept }
   have hF:SimF E B' X st:=⟨hs.hs.base rfl rfl rfl,hs.h,.cons hs.t hs.fs,hs.glob,hs.ni,hs.y,fun p hp=>hp⟩
   have h1:=qkn (callH:=fun _ _ _=>.fail) (rangeH:=qjZ) h
   obtain⟨g1,g2⟩:=qcE hm hE hS hL hx.1 (fun B _=>qqP B) (callS:=qkh) (fun _ _ _ _ _ _ _ _ _ _ h=>by cases h) (qlD E) (qdG E P) (B:=B') rfl (qbT hni (fun h=>by cases h)) hF ha h1
   refine⟨yV hx.1 hx.2 g1 _,g2.mono fun e w' ⟨u,X',e1,e2,e3,e4⟩=>⟨u,X',e1,e2,e3,?_⟩⟩
   have hpin:∀p,p∈X.kept→p∈X'.kept:=e4.pin
   have hfs:RepLL X' (st.t::st.fs) (a.tmps.toList::B.fs):=e4.fs
   obtain⟨Ds,d1,d2,d3⟩:=hs.df
   refine⟨e4.hs.base rfl rfl rfl,e4.h,?_,?_,e4.glob,⟨Ds,d1,d2,fun D hD=>⟨hpin _ (d3 D hD).1,(d3 D hD).2⟩⟩,hs.ni,e4.y,fun p hp=>hpin p (hs.pin p hp)⟩
   ·cases hfs with|cons k1 k2=>exact k1
   ·cases hfs with|cons k1 k2=>exact k2
theorem q9n{E:Env}{P:Program}(hm:P.follows .mixedOrders=true)(hE:E.tok P)(hS:E.specs P)(hL:E.loopsOK P)(hbs:E.bodies P){f:FuncId}{fn:Func}(hf:P.funcs[f]?=some fn)
  {callH:q1Q} (hcH:∀B,qQ P E.iter f B→CallOK E P callH B) {rangeH:q79} (hrg:qbS E P rangeH)
  {args:List AV} {st:St} {r:AV×St} {B:Base} {X:Ctx} {vargs:List Value} (hro:B.ro=none) (hbo:qQ P E.iter f B) (hs:SimF E B X st) (ha:RepL X args vargs) (h:(qox E callH rangeH f fn args st).run=some r) :
  fn.body.isNone=false∧Calls P f vargs.toArray X.w fun e w'=>∃v X',e=.returned v∧X'.w=w'∧Rep X' r.1 v∧SimF E B X' r.2:=
 qcE hm hE hS hL hf hcH (q6e hm hE hS hL hbs) (q2M E) hrg hro hbo hs ha h
theorem q6X{E:Env}{P:Program}(hm:P.follows .mixedOrders=true)(hE:E.tok P)(hS:E.specs P)(hL:E.loopsOK P)(hb:E.bodies P){callH:q1Q}(hcH:∀B,CallOK E P callH B):qbS E P (qbK E callH):=by
 intro g y args st r B X vargs hs hbo hy hro ha h
 unfold qbK at h
 cases hbd:E.body.find? fun x=>x.1==g with
 | none=>rw[hbd] at h;cases h
 | some fn=>
  rw[hbd] at h
  have hx:=hb fn (List.mem_of_find?_eq_some hbd)
  have hfe:fn.1=g:=by simpa using List.find?_some hbd
  rw[hfe] at hx
  obtain⟨g1,g2⟩:=q9n hm hE hS hL hb hx.1 (callH:=qs3 y callH) (fun B' hB'=>⟨(hcH B').fn,hy B' hB'⟩) (qdG E P) hro hbo hs ha h
  exact⟨yV hx.1 hx.2 g1 _,g2⟩
theorem q9u{E:Env}{P:Program}(hm:P.follows .mixedOrders=true)(hE:E.tok P)(hS:E.specs P)(hL:E.loopsOK P)(hb:E.bodies P):∀n B,CallOK E P (q3Q E n) B
 | 0,_=>⟨(fun f args st r X a vargs _ _ h=>by simp only[q3Q] at h;cases h),(fun args st r X a vargs _ _ h=>by simp only[q3Q] at h;cases h)⟩
 | n+1,B=>⟨(fun f args st r X a vargs hs ha h=>by
  simp only[q3Q] at h
  cases hdl:quw E f with
  | some e=>
   rw[hdl] at h
   have hD:=qkR hS hdl
   exact⟨hD.1 _,qlW hE hD hs ha h⟩
  | none=>
  rw[hdl] at h
  simp only at h
  cases hsp:E.spec.find? fun x=>x.1==f with
  | some G=>
   rw[hsp] at h
   have hG:=hS.sp G (List.mem_of_find?_eq_some hsp)
   have hfe:G.1=f:=by simpa using List.find?_some hsp
   rw[hfe] at hG
   exact⟨hG.1 _,q2X hG hs ha h⟩
  | none=>
   rw[hsp] at h
   cases hbd:E.body.find? fun x=>x.1==f with
   | none=>rw[hbd] at h;cases h
   | some fn=>
    rw[hbd] at h
    simp only at h
    cases hni:q3c E.iter f with
    | false=>rw[hni] at h;cases h
    | true=>
    rw[hni] at h
    simp only at h
    obtain⟨r1,h1,h2⟩:=bind_some h
    simp only[Tree.run,Option.some.injEq] at h2
    subst h2
    have hx:=hb fn (List.mem_of_find?_eq_some hbd)
    have hfe:fn.1=f:=by simpa using List.find?_some hbd
    rw[hfe] at hx
    let B':Base:={ B with fs:=a.tmps.toList::B.fs,ro:=none,pin:=fun _=>X.kept }
    have hF:SimF E B' X st:=⟨hs.hs.base rfl rfl rfl,hs.h,.cons hs.t hs.fs,hs.glob,hs.ni,hs.y,fun p hp=>hp⟩
    obtain⟨g1,g2⟩:=q9n hm hE hS hL hb hx.1 (fun B _=>q9u hm hE hS hL hb n B) (q6X hm hE hS hL hb (q9u hm hE hS hL hb n)) (B:=B') rfl (qbT hni (fun h=>by cases h)) hF ha h1
    refine⟨yV hx.1 hx.2 g1 _,g2.mono fun e w' ⟨v,X',e1,e2,e3,e4⟩=>⟨v,X',e1,e2,e3,?_⟩⟩
    have hpin:∀p,p∈X.kept→p∈X'.kept:=e4.pin
    have hfs:RepLL X' (r1.2.t::r1.2.fs) (a.tmps.toList::B.fs):=e4.fs
    obtain⟨Ds,d1,d2,d3⟩:=hs.df
    refine⟨e4.hs.base rfl rfl rfl,e4.h,?_,?_,e4.glob,⟨Ds,d1,d2,fun D hD=>⟨hpin _ (d3 D hD).1,(d3 D hD).2⟩⟩,hs.ni,e4.y,fun p hp=>hpin p (hs.pin p hp)⟩
    ·cases hfs with|cons k1 k2=>exact k1
    ·cases hfs with|cons k1 k2=>exact k2),
  (fun args st r X a vargs _ _ h=>by simp only[q3Q] at h;cases h)⟩
theorem qlZ{E:Env}{P:Program}(hm:P.follows .mixedOrders=true)(hE:E.tok P)(hS:E.specs P)(hL:E.loopsOK P)(hb:E.bodies P){f:FuncId}{fn:Func}(hf:P.funcs[f]?=some fn)
  {n:Nat} {B:Base} {X:Ctx} {args:List AV} {vargs:List Value} {r:AV×List Blk} (hs:HSim B X) (h0:B.imps.length≤E.nimp) (hgl:q7y E.glob X) (ha:RepL X args vargs)
  (h:(qnx E n f fn args X.h).run=some r) :
  Calls P f vargs.toArray X.w fun e w'=>∃v X',e=.returned v∧X'.w=w'∧Rep X' r.1 v∧X'.h=r.2∧HSim B X'∧X'.y=X.y:=by
 unfold qnx at h
 cases hni:q3c E.iter f with
 | false=>rw[hni] at h;cases h
 | true=>
 rw[hni] at h
 simp only at h
 obtain⟨r1,h1,h2⟩:=bind_some h
 simp only[Tree.run,Option.some.injEq] at h2
 subst h2
 let B0:Base:={ B with fs:=[[]],ro:=none,y:=X.y,pin:=fun _=>[] }
 have hF:SimF E B0 X { t:=[],fs:=[],h:=X.h,pend:=none }:=⟨hs.base rfl rfl rfl,rfl,.cons .nil .nil,hgl,h0,rfl,fun p hp=>by cases hp⟩
 obtain⟨_,g2⟩:=q9n hm hE hS hL hb hf (fun B _=>q9u hm hE hS hL hb n B) (q6X hm hE hS hL hb (q9u hm hE hS hL hb n)) (B:=B0) rfl (qbT hni (fun h=>by cases h)) hF ha h1
 refine g2.mono fun e w' ⟨v,X',e1,e2,e3,e4⟩=>⟨v,X',e1,e2,e3,e4.h,e4.hs.base rfl rfl rfl,e4.y⟩
end Go.Eng

namespace Go.Eng
inductive PK where
 | i|b|s|r
inductive PV where
 | i (n:Int)|b (x:Bool)|s (l:List UInt8)|r (l:R)
def PV.kind:PV→PK|.i _=>.i|.b _=>.b|.s _=>.s|.r _=>.r
def PV.toI:PV→Int|.i n=>n|_=>0
def PV.toB:PV→Bool|.b x=>x|_=>false
def PV.toS:PV→List UInt8|.s x=>x|_=>[]
def PV.toR:PV→R|.r x=>x|_=>[]
inductive AP where
 | any|yld
 | int (k:IntKind)|bool|str|blit (b:Bool)
 | nilp|ptr (b off:Nat)|eptr (sh:List Sh) (off:Nat)|mptr (sh:List Sh) (off:Nat)|vptr (b off:Nat)
 | nils|imm (sh:List Sh)|vec (b:Nat)
 | nilf|fn (f:FuncId) (first caps:List AP)
 | agg (l:List AP)|tuple (l:List AP)
def zV:Nat→List AP→List AP
 | 0,l=>l
 | n+1,l=>.any::zV n l
def qqG:Option (List PV)→Option (List PV)→Option (List PV)
 | some a,some b=>some (a++b)
 | _,_=>none
mutual
def AP.take:AP→AV→Option (List PV)
 | .any,_=>some []
 | .yld,.yld=>some []
 | .int k,.int k' n=>if k=k' then some [.i n] else none
 | .int k,.ilit k' n=>if k=k' then some [.i n] else none
 | .bool,.bool b=>some [.b b]
 | .bool,.blit b=>some [.b b]
 | .str,.str s=>some [.s s]
 | .blit b,.blit b'=>if b=b' then some [] else none
 | .nilp,.nilp=>some []
 | .ptr b off,.ptr b' off'=>if b=b'∧off=off' then some [] else none
 | .eptr sh off,.eptr sh' l i off'=>if Sh.beqL sh sh'=true∧off=off' then some [.r l,.i i] else none
 | .mptr _ _,.nilp=>some [.b false,.r [],.i 0]
 | .mptr sh off,.eptr sh' l i off'=>if Sh.beqL sh sh'=true∧off=off' then some [.b true,.r l,.i i] else none
 | .mptr sh off,.mptr c sh' l i off'=>if Sh.beqL sh sh'=true∧off=off' then some [.b c,.r l,.i i] else none
 | .vptr b off,.vptr b' i off'=>if b=b'∧off=off' then some [.i i] else none
 | .nils,.nils=>some []
 | .imm sh,.imm sh' l=>if Sh.beqL sh sh'=true then some [.r l] else none
 | .imm _,.nils=>some [.r []]
 | .vec b,.vec b'=>if b=b' then some [] else none
 | .nilf,.nilf=>some []
 | .fn f p q,.fn g a c=>if f=g then qqG (AP.takeL p a) (AP.takeL q c) else none
 | .agg l,.agg a=>AP.takeL l a
 | .tuple l,.tuple a=>AP.takeL l a
 | _,_=>none
def AP.takeL:List AP→List AV→Option (List PV)
 | [],[]=>some []
 | p::l,a::azz=>qqG (p.take a) (AP.takeL l azz)
 | _,_=>none
end
mutual
def AP.make:AP→List PV→AV×List PV
 | .any,ps=>(.undef,ps)
 | .yld,ps=>(.yld,ps)
 | .int k,.i n::ps=>(.int k n,ps)
 | .bool,.b x::ps=>(.bool x,ps)
 | .str,.s x::ps=>(.str x,ps)
 | .blit b,ps=>(.blit b,ps)
 | .nilp,ps=>(.nilp,ps)
 | .ptr b off,ps=>(.ptr b off,ps)
 | .eptr sh off,.r l::.i i::ps=>(.eptr sh l i off,ps)
 | .mptr sh off,.b c::.r l::.i i::ps=>(.mptr c sh l i off,ps)
 | .vptr b off,.i i::ps=>(.vptr b i off,ps)
 | .nils,ps=>(.nils,ps)
 | .imm sh,.r l::ps=>(.imm sh l,ps)
 | .vec b,ps=>(.vec b,ps)
 | .nilf,ps=>(.nilf,ps)
 | .fn f p q,ps=>let x:=AP.makeL p ps;let y:=AP.makeL q x.2;(.fn f x.1 y.1,y.2)
 | .agg l,ps=>let x:=AP.makeL l ps;(.agg x.1,x.2)
 | .tuple l,ps=>let x:=AP.makeL l ps;(.tuple x.1,x.2)
 | _,ps=>(.undef,ps)
def AP.makeL:List AP→List PV→List AV×List PV
 | [],ps=>([],ps)
 | p::l,ps=>let x:=p.make ps;let y:=AP.makeL l x.2;(x.1::y.1,y.2)
end
mutual
def AP.kinds:AP→List PK
 | .int _=>[.i]|.bool=>[.b]|.str=>[.s]
 | .eptr _ _=>[.r,.i]|.mptr _ _=>[.b,.r,.i]|.vptr _ _=>[.i]|.imm _=>[.r]
 | .fn _ p q=>AP.kindsL p++AP.kindsL q
 | .agg l=>AP.kindsL l
 | .tuple l=>AP.kindsL l
 | _=>[]
def AP.kindsL:List AP→List PK
 | []=>[]
 | p::l=>p.kinds++AP.kindsL l
end
theorem q0M{a b:Option (List PV)}{c:List PV}(h:qqG a b=some c):∃x y,a=some x∧b=some y∧c=x++y:=by
 cases a<;>cases b<;>simp[qqG] at h
 exact⟨_,_,rfl,rfl,h.symm⟩
mutual
theorem AP.take_ok{X:Ctx}:∀(p:AP) (a:AV) (ps rest:List PV),p.take a=some ps→(p.make (ps++rest)).2=rest∧ps.map PV.kind=p.kinds∧∀v,Rep X a v→Rep X (p.make (ps++rest)).1 v
 | .any,a,ps,rest,h=>by simp only[AP.take,Option.some.injEq] at h;subst h;exact⟨rfl,rfl,fun v _=>.undef v⟩
 | .yld,a,ps,rest,h=>by
  cases a<;>simp only[AP.take] at h<;>first|(cases h;done)|skip
  cases h;exact⟨rfl,rfl,fun v hv=>hv⟩
 | .int k,a,ps,rest,h=>by
  cases a<;>simp only[AP.take] at h<;>first|(cases h;done)|skip
  all_goals
   split at h
   ·rename_i hk;cases h;subst hk
    refine⟨rfl,rfl,fun v hv=>?_⟩
    cases hv
    exact .int _ _
   ·cases h
 | .bool,a,ps,rest,h=>by
  cases a<;>simp only[AP.take] at h<;>first|(cases h;done)|skip
  all_goals
   cases h
   refine⟨rfl,rfl,fun v hv=>?_⟩
   cases hv
   exact .bool _
 | .str,a,ps,rest,h=>by
  cases a<;>simp only[AP.take] at h<;>first|(cases h;done)|skip
  cases h
  exact⟨rfl,rfl,fun v hv=>hv⟩
 | .blit b,a,ps,rest,h=>by
  cases a<;>simp only[AP.take] at h<;>first|(cases h;done)|skip
  split at h
  ·rename_i hb;cases h;subst hb;exact⟨rfl,rfl,fun v hv=>hv⟩
  ·cases h
 | .nilp,a,ps,rest,h=>by
  cases a<;>simp only[AP.take] at h<;>first|(cases h;done)|skip
  cases h;exact⟨rfl,rfl,fun v hv=>hv⟩
 | .ptr b off,a,ps,rest,h=>by
  cases a<;>simp only[AP.take] at h<;>first|(cases h;done)|skip
  split at h
  ·rename_i hb;cases h;obtain⟨rfl,rfl⟩:=hb;exact⟨rfl,rfl,fun v hv=>hv⟩
  ·cases h
 | .eptr sh off,a,ps,rest,h=>by
  cases a<;>simp only[AP.take] at h<;>first|(cases h;done)|skip
  split at h
  ·rename_i hb;cases h;obtain⟨hb,rfl⟩:=hb;have:=Sh.beqL_eq _ _ hb;subst this;exact⟨rfl,rfl,fun v hv=>hv⟩
  ·cases h
 | .mptr sh off,a,ps,rest,h=>by
  cases a<;>simp only[AP.take] at h<;>first|(cases h;done)|skip
  ·cases h
   refine⟨rfl,rfl,fun v hv=>?_⟩
   cases hv
   exact .mnil _ _ _ _
  ·split at h
   ·rename_i hb;cases h;obtain⟨hb,rfl⟩:=hb;have:=Sh.beqL_eq _ _ hb;subst this
    refine⟨rfl,rfl,fun v hv=>?_⟩
    cases hv with
    | eptr _ _ _ _ a h1 h2 h3 h4=>exact .mptr _ _ _ _ a h1 h2 h3 h4
   ·cases h
  ·split at h
   ·rename_i hb;cases h;obtain⟨hb,rfl⟩:=hb;have:=Sh.beqL_eq _ _ hb;subst this;exact⟨rfl,rfl,fun v hv=>hv⟩
   ·cases h
 | .vptr b off,a,ps,rest,h=>by
  cases a<;>simp only[AP.take] at h<;>first|(cases h;done)|skip
  split at h
  ·rename_i hb;cases h;obtain⟨rfl,rfl⟩:=hb;exact⟨rfl,rfl,fun v hv=>hv⟩
  ·cases h
 | .nils,a,ps,rest,h=>by
  cases a<;>simp only[AP.take] at h<;>first|(cases h;done)|skip
  cases h;exact⟨rfl,rfl,fun v hv=>hv⟩
 | .imm sh,a,ps,rest,h=>by
  cases a<;>simp only[AP.take] at h<;>first|(cases h;done)|skip
  ·cases h
   refine⟨rfl,rfl,fun v hv=>?_⟩
   cases hv
   exact .imm _ _ _ (.inl ⟨rfl,rfl⟩)
  ·split at h
   ·rename_i hb;cases h;have:=Sh.beqL_eq _ _ hb;subst this;exact⟨rfl,rfl,fun v hv=>hv⟩
   ·cases h
 | .vec b,a,ps,rest,h=>by
  cases a<;>simp only[AP.take] at h<;>first|(cases h;done)|skip
  split at h
  ·rename_i hb;cases h;subst hb;exact⟨rfl,rfl,fun v hv=>hv⟩
  ·cases h
 | .nilf,a,ps,rest,h=>by
  cases a<;>simp only[AP.take] at h<;>first|(cases h;done)|skip
  cases h;exact⟨rfl,rfl,fun v hv=>hv⟩
 | .fn f p q,a,ps,rest,h=>by
  cases a<;>simp only[AP.take] at h<;>first|(cases h;done)|skip
  rename_i g a c
  split at h
  ·rename_i hf;subst hf
   obtain⟨x,y,h1,h2,rfl⟩:=q0M h
   obtain⟨a1,a2,a3⟩:=AP.takeL_ok (X:=X) p a x (y++rest) h1
   obtain⟨b1,b2,b3⟩:=AP.takeL_ok (X:=X) q c y rest h2
   simp only[AP.make,List.append_assoc,a1,b1,AP.kinds,List.map_append,a2,b2,true_and]
   intro v hv
   cases hv with
   | fn _ _ _ vf vc g1 g2=>exact .fn _ _ _ vf vc (a3 _ g1) (b3 _ g2)
  ·cases h
 | .agg l,a,ps,rest,h=>by
  cases a<;>simp only[AP.take] at h<;>first|(cases h;done)|skip
  obtain⟨a1,a2,a3⟩:=AP.takeL_ok (X:=X) l _ ps rest h
  simp only[AP.make,a1,AP.kinds,a2,true_and]
  intro v hv
  cases hv with
  | agg _ vs g=>exact .agg _ vs (a3 _ g)
 | .tuple l,a,ps,rest,h=>by
  cases a<;>simp only[AP.take] at h<;>first|(cases h;done)|skip
  obtain⟨a1,a2,a3⟩:=AP.takeL_ok (X:=X) l _ ps rest h
  simp only[AP.make,a1,AP.kinds,a2,true_and]
  intro v hv
  cases hv with
  | tuple _ vs g=>exact .tuple _ vs (a3 _ g)
theorem AP.takeL_ok{X:Ctx}:∀(p:List AP) (a:List AV) (ps rest:List PV),AP.takeL p a=some ps→(AP.makeL p (ps++rest)).2=rest∧ps.map PV.kind=AP.kindsL p∧∀v,RepL X a v→RepL X (AP.makeL p (ps++rest)).1 v
 | [],a,ps,rest,h=>by
  cases a<;>simp only[AP.takeL] at h<;>cases h
  exact⟨rfl,rfl,fun v hv=>hv⟩
 | p::l,a,ps,rest,h=>by
  cases a with
  | nil=>simp only[AP.takeL] at h;cases h
  | cons a azz=>
   simp only[AP.takeL] at h
   obtain⟨x,y,h1,h2,rfl⟩:=q0M h
   obtain⟨a1,a2,a3⟩:=AP.take_ok (X:=X) p a x (y++rest) h1
   obtain⟨b1,b2,b3⟩:=AP.takeL_ok (X:=X) l azz y rest h2
   simp only[AP.makeL,List.append_assoc,a1,b1,AP.kindsL,List.map_append,a2,b2,true_and]
   intro v hv
   cases hv with
   | cons g1 g2=>exact .cons (a3 _ g1) (b3 _ g2)
end
def AP.takeLL:List (List AP)→List (List AV)→Option (List PV)
 | [],[]=>some []
 | p::l,a::azz=>qqG (AP.takeL p a) (AP.takeLL l azz)
 | _,_=>none
def AP.makeLL:List (List AP)→List PV→List (List AV)×List PV
 | [],ps=>([],ps)
 | p::l,ps=>let x:=AP.makeL p ps;let y:=AP.makeLL l x.2;(x.1::y.1,y.2)
def AP.kindsLL:List (List AP)→List PK
 | []=>[]
 | p::l=>AP.kindsL p++AP.kindsLL l
theorem AP.takeLL_ok{X:Ctx}:∀(p:List (List AP)) (a:List (List AV)) (ps rest:List PV),AP.takeLL p a=some ps→(AP.makeLL p (ps++rest)).2=rest∧ps.map PV.kind=AP.kindsLL p∧∀v,RepLL X a v→RepLL X (AP.makeLL p (ps++rest)).1 v
 | [],a,ps,rest,h=>by
  cases a<;>simp only[AP.takeLL] at h<;>cases h
  exact⟨rfl,rfl,fun v hv=>hv⟩
 | p::l,a,ps,rest,h=>by
  cases a with
  | nil=>simp only[AP.takeLL] at h;cases h
  | cons a azz=>
   simp only[AP.takeLL] at h
   obtain⟨x,y,h1,h2,rfl⟩:=q0M h
   obtain⟨a1,a2,a3⟩:=AP.takeL_ok (X:=X) p a x (y++rest) h1
   obtain⟨b1,b2,b3⟩:=AP.takeLL_ok (X:=X) l azz y rest h2
   simp only[AP.makeLL,List.append_assoc,a1,b1,AP.kindsLL,List.map_append,a2,b2,true_and]
   intro v hv
   cases hv with
   | cons g1 g2=>exact .cons (a3 _ g1) (b3 _ g2)
inductive BP where
 | cells (l:List AP)|big (l:List AP) (k:IntKind) (n:Nat)|vec (e:TypeId) (sh:List Sh)|frz (e:TypeId) (sh:List Sh)|dead
def BP.take:BP→Blk→Option (List PV)
 | .cells l,.cells cs=>AP.takeL l cs
 | .big l k n,.big cs k' n' r=>if k=k'∧n=n' then qqG (AP.takeL l cs) (some [.r r]) else none
 | .vec e sh,.vec e' sh' l=>if e=e'∧Sh.beqL sh sh'=true then some [.r l] else none
 | .frz e sh,.frz e' sh' l=>if e=e'∧Sh.beqL sh sh'=true then some [.r l] else none
 | .dead,_=>some []
 | _,_=>none
def BP.make:BP→List PV→Blk×List PV
 | .cells l,ps=>let x:=AP.makeL l ps;(.cells x.1,x.2)
 | .big l k n,ps=>let x:=AP.makeL l ps;match x.2 with
  | .r r::qs=>(.big x.1 k n r,qs)
  | qs=>(.dead,qs)
 | .vec e sh,.r l::ps=>(.vec e sh l,ps)
 | .frz e sh,.r l::ps=>(.frz e sh l,ps)
 | _,ps=>(.dead,ps)
def BP.kinds:BP→List PK
 | .cells l=>AP.kindsL l
 | .big l _ _=>AP.kindsL l++[.r]
 | .vec _ _=>[.r]
 | .frz _ _=>[.r]
 | .dead=>[]
def BP.takeL:List BP→List Blk→Option (List PV)
 | [],[]=>some []
 | p::l,b::bs=>qqG (p.take b) (BP.takeL l bs)
 | _,_=>none
def BP.makeL:List BP→List PV→List Blk×List PV
 | [],ps=>([],ps)
 | p::l,ps=>let x:=p.make ps;let y:=BP.makeL l x.2;(x.1::y.1,y.2)
def BP.kindsL:List BP→List PK
 | []=>[]
 | p::l=>p.kinds++BP.kindsL l
def BP.isCells:BP→Bool
 | .cells _|.big _ _ _=>true
 | _=>false
theorem BP.take_ok{X:Ctx}(p:BP)(k:Blk)(ps rest:List PV)(h:p.take k=some ps):(p.make (ps++rest)).2=rest∧ps.map PV.kind=p.kinds∧Wk X k (p.make (ps++rest)).1 ∧
  (p.isCells=true→(p.make (ps++rest)).1.solid=true):=by
 cases p with
 | cells l=>
  cases k<;>simp only[BP.take] at h<;>first|(cases h;done)|skip
  obtain⟨a1,a2,a3⟩:=AP.takeL_ok (X:=X) l _ ps rest h
  simp only[BP.make,a1,BP.kinds,a2,true_and]
  exact⟨.inr (.inr (.inl ⟨_,_,rfl,rfl,a3⟩)),fun _=>rfl⟩
 | big l kk n=>
  cases k<;>simp only[BP.take] at h<;>first|(cases h;done)|skip
  split at h
  ·rename_i hb;obtain⟨rfl,rfl⟩:=hb
   obtain⟨x,y,h1,h2,rfl⟩:=q0M h
   cases h2
   rename_i cs r
   obtain⟨a1,a2,a3⟩:=AP.takeL_ok (X:=X) l _ x ([.r r]++rest) h1
   simp only[List.cons_append,List.nil_append] at a1 a3
   simp only[BP.make,List.append_assoc,a1,List.cons_append,List.nil_append,BP.kinds,List.map_append,a2,List.map_cons,List.map_nil,PV.kind,true_and]
   exact⟨.inr (.inr (.inr ⟨_,_,_,_,_,rfl,rfl,a3⟩)),fun _=>rfl⟩
  ·cases h
 | vec e sh=>
  cases k<;>simp only[BP.take] at h<;>first|(cases h;done)|skip
  split at h
  ·rename_i hb;cases h;obtain⟨rfl,hb⟩:=hb;have:=Sh.beqL_eq _ _ hb;subst this;exact⟨rfl,rfl,.inr (.inl rfl),fun h=>by cases h⟩
  ·cases h
 | frz e sh=>
  cases k<;>simp only[BP.take] at h<;>first|(cases h;done)|skip
  split at h
  ·rename_i hb;cases h;obtain⟨rfl,hb⟩:=hb;have:=Sh.beqL_eq _ _ hb;subst this;exact⟨rfl,rfl,.inr (.inl rfl),fun h=>by cases h⟩
  ·cases h
 | dead=>
  have:ps=[]:=by cases k<;>simp[BP.take] at h<;>exact h
  subst this
  exact⟨rfl,rfl,.inl rfl,fun h=>by cases h⟩
theorem BP.takeL_ok{X:Ctx}:∀(p:List BP) (k:List Blk) (ps rest:List PV),BP.takeL p k=some ps→(BP.makeL p (ps++rest)).2=rest∧ps.map PV.kind=BP.kindsL p ∧
  (BP.makeL p (ps++rest)).1.length=k.length∧p.length=k.length∧∀(b:Nat) (k':Blk),(BP.makeL p (ps++rest)).1[b]?=some k'→∃k0,k[b]?=some k0∧Wk X k0 k'∧∀q:BP,p[b]?=some q→q.isCells=true→k'.solid=true
 | [],k,ps,rest,h=>by
  cases k<;>simp only[BP.takeL] at h<;>cases h
  exact⟨rfl,rfl,rfl,rfl,fun b k' hb=>by simp[BP.makeL] at hb⟩
 | p::l,k,ps,rest,h=>by
  cases k with
  | nil=>simp only[BP.takeL] at h;cases h
  | cons k ks=>
   simp only[BP.takeL] at h
   obtain⟨x,y,h1,h2,rfl⟩:=q0M h
   obtain⟨a1,a2,a3,a4⟩:=BP.take_ok (X:=X) p k x (y++rest) h1
   obtain⟨b1,b2,b3,b4,b5⟩:=BP.takeL_ok (X:=X) l ks y rest h2
   simp only[BP.makeL,List.append_assoc,a1,b1,BP.kindsL,List.map_append,a2,b2,List.length_cons,b3,b4,true_and]
   intro b k' hb
   cases b with
   | zero=>
    simp only[List.getElem?_cons_zero,Option.some.injEq] at hb
    subst hb
    exact⟨k,rfl,a3,fun q hq hc=>by simp only[List.getElem?_cons_zero,Option.some.injEq] at hq;subst hq;exact a4 hc⟩
   | succ b=>
    simp only[List.getElem?_cons_succ] at hb ⊢
    exact b5 b k' hb
def qm1(n:Nat):Nat→Option Nat:=fun b=>if Nat.blt b n then some b else none
theorem qr5{n b b':Nat}(h:qm1 n b=some b'):b'=b∧b<n:=by
 unfold qm1 at h
 split at h
 ·rename_i hb;cases h;exact⟨rfl,by simpa[Nat.blt_eq] using hb⟩
 ·cases h
def Ctx.cut(X:Ctx)(n:Nat):Ctx:={ X with h:=(X.h.take n).map (Blk.ren (qm1 n)) }
theorem Ctx.cut_get{X:Ctx}{n b:Nat}{k:Blk}(h:(X.cut n).h[b]?=some k):b<n∧∃k0,X.h[b]?=some k0∧k=k0.ren (qm1 n):=by
 have h':((X.h.take n).map (Blk.ren (qm1 n)))[b]?=some k:=h
 rw[List.getElem?_map,List.getElem?_take] at h'
 split at h'
 ·rename_i hb
  refine⟨hb,?_⟩
  cases hk:X.h[b]? with
  | none=>rw[hk] at h';cases h'
  | some k0=>rw[hk] at h';exact⟨k0,rfl,(Option.some.inj h').symm⟩
 ·cases h'
theorem qon{B:Base}{X:Ctx}(hs:HSim B X){n:Nat}(hn:B.imps.length≤n):HSim B (X.cut n)∧Move X (X.cut n) (qm1 n):=by
 have hvec:∀b sh m,(X.cut n).isVec b sh m→X.isVec b sh m:=by
  intro b sh m ⟨e,l,h1,h2⟩
  refine⟨e,l,?_,h2⟩
  rcases h1 with h1|h1
  ·obtain⟨_,k0,h3,h4⟩:=Ctx.cut_get h1
   cases k0<;>simp[Blk.ren] at h4
   obtain⟨rfl,rfl,rfl⟩:=h4;exact .inl h3
  ·obtain⟨_,k0,h3,h4⟩:=Ctx.cut_get h1
   cases k0<;>simp[Blk.ren] at h4
   obtain⟨rfl,rfl,rfl⟩:=h4;exact .inr h3
 have hm:Move X (X.cut n) (qm1 n):=by
  refine Move.of (fun _ h=>h) (fun _ _=>rfl) (fun b b' hb hf=>?_)
  obtain⟨rfl,hlt⟩:=qr5 hf
  exact⟨by simp[Ctx.cut];omega,rfl,hvec b',fun sh m _ k hk c T fr hc=>⟨c,T,fr,hc,rfl⟩⟩
 have hown:∀b m,(X.cut n).own b m→X.own b m:=by
  intro b m ⟨h1,k,h2,h3⟩
  obtain⟨_,k0,h4,h5⟩:=Ctx.cut_get h2
  exact⟨h1,k0,h4,by rw[h5,Blk.mut_ren] at h3;exact h3⟩
 refine⟨⟨?_,fun b b' m h h'=>hs.inj b b' m (hown _ _ h) (hown _ _ h'),fun b m h=>hs.notM b m (hown _ _ h),hs.ltM,hs.M0,hs.newM,hs.os,hs.tape,hs.output,hs.size,hs.frame,hs.imps,?_,fun b m h=>hs.fresh b m (hown _ _ h),hs.kept⟩,hm⟩
 ·intro b k hk
  obtain⟨_,k0,h1,h2⟩:=Ctx.cut_get hk
  rw[h2]
  exact vM.move hm.toMove0 rfl (fun _ _=>rfl) (hs.blk b k0 h1)
 ·intro b hb
  obtain⟨cs,h1,h2⟩:=hs.impc b hb
  refine⟨cs.ren (qm1 n),?_,by rw[Blk.solid_ren];exact h2⟩
  show ((X.h.take n).map (Blk.ren (qm1 n)))[b]?=_
  rw[List.getElem?_map,List.getElem?_take,if_pos (by omega),h1]
  rfl
end Go.Eng

namespace Go.Eng
def Ex.beq:Ex→Ex→Bool
 | .normal,.normal=>true
 | .ret,.ret=>true
 | .exit i,.exit j=>Nat.beq i j
 | _,_=>false
theorem Ex.beq_eq{x y:Ex}(h:x.beq y=true):x=y:=by
 cases x<;>cases y<;>simp[Ex.beq] at h ⊢
 exact h
def peq:Option Ex→Option Ex→Bool
 | none,none=>true
 | some x,some y=>x.beq y
 | _,_=>false
theorem qvi{x y:Option Ex}(h:peq x y=true):x=y:=by
 cases x<;>cases y<;>simp[peq] at h ⊢
 exact Ex.beq_eq h
structure Tmpl where
 t:List AP
 h:List BP
 pro:List (Nat×TypeId×List Sh):=[]
 fs:List (List AP):=[[]]
 pend:Option Ex:=none
 sw:List (Nat×Nat):=[]
 swn:Nat:=0
 prc:List (Nat×Nat×TypeId×List Sh):=[]
def qpA:List (Nat×TypeId×List Sh)→St→St
 | [],st=>st
 | (i,e,sh)::l,st=>match st.t[i]? with
  | some .nils=>qpA l { st with t:=st.t.set i (.vec st.h.length),h:=st.h++[.vec e sh []] }
  | _=>qpA l st
def qeC:List (Nat×Nat×TypeId×List Sh)→St→St
 | [],st=>st
 | (i,off,e,sh)::l,st=>match st.t[i]? with
  | some (.ptr b _)=>(match st.h[b]? with
   | some (.cells cs)=>(match cs[off]? with
    | some .nils=>qeC l { st with h:=(st.h++[Blk.vec e sh []]).set b (.cells (cs.set off (.vec st.h.length))) }
    | _=>qeC l st)
   | _=>qeC l st)
  | _=>qeC l st
def q6i(n:Nat)(h:List BP):Bool:=Nat.ble n h.length&&(h.take n).all BP.isCells
def swp(b c x:Nat):Nat:=if Nat.beq x b then c else if Nat.beq x c then b else x
def swB(b c:Nat):Nat→Option Nat:=fun x=>some (swp b c x)
def qn4(b c:Nat)(h:List Blk):List Blk:=(h.set b (h.getD c .dead)).set c (h.getD b .dead)
def St.swap(b c:Nat)(st:St):St:={ t:=AV.renL (swB b c) st.t,fs:=st.fs.map (AV.renL (swB b c)),h:=(qn4 b c st.h).map (Blk.ren (swB b c)),pend:=st.pend }
def qvw:AV→Option Nat
 | .ptr b _=>some b
 | .vec b=>some b
 | _=>none
def qvR(st:St)(i:Nat):Option Nat:=match Nat.blt i 1000000 with
 | true=>(st.t[i]?).bind qvw
 | false=>match st.t[i%1000000]? with
  | some (.ptr b _)=>(match st.h[b]? with
   | some (.cells cs)=>(cs[i/1000000-1]?).bind qvw
   | _=>none)
  | _=>none
def qfG(n:Nat):List (Nat×Nat)→St→St
 | [],st=>st
 | (i,b)::l,st=>match qvR st i with
  | some c=>(match Nat.ble n b&&Nat.ble n c&&Nat.blt b st.h.length&&Nat.blt c st.h.length&&!(Nat.beq b c) with
   | true=>qfG n l (st.swap b c)
   | false=>qfG n l st)
  | none=>qfG n l st
def Tmpl.take1(tm:Tmpl)(st:St):Option (List PV):=match peq tm.pend st.pend with
 | true=>qqG (AP.takeL tm.t (AV.renL (qm1 tm.h.length) st.t)) (qqG (AP.takeLL tm.fs (st.fs.map (AV.renL (qm1 tm.h.length)))) (BP.takeL tm.h ((st.h.take tm.h.length).map (Blk.ren (qm1 tm.h.length)))))
 | false=>none
def Tmpl.take(tm:Tmpl)(st:St):Option (List PV):=tm.take1 (qfG tm.swn tm.sw (qeC tm.prc (qpA tm.pro st)))
def Tmpl.ok(n:Nat)(tm:Tmpl):Bool:=q6i n tm.h&&(tm.sw.isEmpty||Nat.ble n tm.swn)
def Tmpl.make(tm:Tmpl)(ps:List PV):St:=let x:=AP.makeL tm.t ps;let y:=AP.makeLL tm.fs x.2;{ t:=x.1,fs:=y.1,h:=(BP.makeL tm.h y.2).1,pend:=tm.pend }
def Tmpl.kinds(tm:Tmpl):List PK:=AP.kindsL tm.t++(AP.kindsLL tm.fs++BP.kindsL tm.h)
theorem qga{n:Nat}{h:List BP}(hc:q6i n h=true):n≤h.length∧∀b,b<n→∃q,h[b]?=some q∧q.isCells=true:=by
 simp only[q6i,Bool.and_eq_true,Nat.ble_eq,List.all_eq_true] at hc
 refine⟨hc.1,fun b hb=>?_⟩
 have hlt:b<h.length:=by omega
 refine⟨h[b],List.getElem?_eq_getElem hlt,hc.2 _ ?_⟩
 rw[List.mem_take_iff_getElem]
 exact⟨b,by omega,rfl⟩
theorem qgT{E:Env}{X X':Ctx}(hM:∀n,X.M n→X'.M n)(hw:X'.w=X.w)(hy:X'.y=X.y)
  (h:∀x,x∈E.glob→(∃sh l i off,x.2=.eptr sh l i off)∧qsL X x) :
  ∀x,x∈E.glob→(∃sh l i off,x.2=.eptr sh l i off)∧qsL X' x:=by
 intro x hx
 obtain⟨⟨sh,l,i,off,he⟩,hr⟩:=h x hx
 refine⟨⟨sh,l,i,off,he⟩,hr.move hM (fun _ _=>by rw[hw]) ?_⟩
 have hr:=hr.1
 rw[he] at hr ⊢
 exact hr.noMen rfl hM (fun _ _=>by rw[hw]) hy
theorem qed{E:Env}{B:Base}{a:Act}:∀(l:List (Nat×TypeId×List Sh)) {X:Ctx} {st:St},Sim E B X st a→∃X',X'.w=X.w∧Sim E B X' (qpA l st) a
 | [],X,st,hs=>⟨X,rfl,hs⟩
 | (i,e,sh)::l,X,st,hs=>by
  simp only[qpA]
  split
  ·rename_i hi
   have hw:=PushW.same X
   have hk:vM (X.pushW (.vec e sh []) none X.w) X.h.length (.vec e sh []):=.inl ⟨by simp[Ctx.pushW],rfl⟩
   have hs1:=HSim.push hs.hs hw hk
   have hx:=Ctx.push_ext hs.hs (.vec e sh []) hw
   have hsim:=hs.ext hx hs1
   obtain⟨v,g1,g2⟩:=hs.t.get i _ hi
   have hv:v=.slice none 0 0:=by cases g2;rfl
   subst hv
   have hrep:Rep (X.pushW (.vec e sh []) none X.w) (.vec st.h.length) (.slice none 0 0):=by
    rw[←hs.h]
    refine .vec _ _ _ _ (by simp[Ctx.pushW]) fun sh' m hv=>?_
    unfold ql2
    simp[Ctx.pushW]
   have hset:=RepL.set hrep hsim.t i
   have he:a.tmps.toList.set i (.slice none 0 0)=a.tmps.toList:=by
    apply List.ext_getElem?
    intro j
    by_cases hj:j=i
    ·subst hj;rw[List.getElem?_set_self (qk g1),g1]
    ·rw[List.getElem?_set_ne (Ne.symm hj)]
   rw[he] at hset
   obtain⟨X2,q1,q2⟩:=qed l (X:=X.pushW (.vec e sh []) none X.w) (st:={ st with t:=st.t.set i (.vec st.h.length),h:=st.h++[.vec e sh []] })
    ⟨hs1,by simp[Ctx.pushW,hs.h],hset,hsim.fs,hsim.glob,hsim.df,hsim.ni,hsim.y,hsim.pin⟩
   exact⟨X2,q1,q2⟩
  ·exact qed l hs
theorem q4U{E:Env}{B:Base}{a:Act}:∀(l:List (Nat×Nat×TypeId×List Sh)) {X:Ctx} {st:St},Sim E B X st a→∃X',X'.w=X.w∧Sim E B X' (qeC l st) a
 | [],X,st,hs=>⟨X,rfl,hs⟩
 | (i,off,e,sh)::l,X,st,hs=>by
  simp only[qeC]
  split
  ·rename_i b o hi
   split
   ·rename_i cs hb
    split
    ·rename_i hc
     have hw:=PushW.same X
     have hk:vM (X.pushW (.vec e sh []) none X.w) X.h.length (.vec e sh []):=.inl ⟨by simp[Ctx.pushW],rfl⟩
     have hs1:=HSim.push hs.hs hw hk
     have hx:=Ctx.push_ext hs.hs (.vec e sh []) hw
     have hsim:=hs.ext hx hs1
     have hbX:X.h[b]?=some (.cells cs):=by rw[hs.h];exact hb
     have hbl:=qk hbX
     obtain⟨n,c,T,g1,g2,g3⟩:=hs.hs.blk b _ hbX
     have hb1:(X.pushW (.vec e sh []) none X.w).h[b]?=some (.cells cs):=by
      show (X.h++[Blk.vec e sh []])[b]?=_
      rw[List.getElem?_append_left hbl];exact hbX
     have g1':(X.pushW (.vec e sh []) none X.w).σ b=some n:=by
      show (if b=X.h.length then none else X.σ b)=_
      rw[if_neg (by omega)];exact g1
     have g3':=g3.ext hx
     have hrep:Rep (X.pushW (.vec e sh []) none X.w) (.vec st.h.length) (.slice none 0 0):=by
      rw[←hs.h]
      refine .vec _ _ _ _ (by simp[Ctx.pushW]) fun sh' m hv=>?_
      unfold ql2
      simp[Ctx.pushW]
     obtain⟨v,k1,k2⟩:=g3'.get off _ hc
     have hv:v=.slice none 0 0:=by cases k2;rfl
     subst hv
     have hset:=RepL.set hrep g3' off
     have he:c.toList.set off (.slice none 0 0)=c.toList:=by
      apply List.ext_getElem?
      intro j
      by_cases hj:j=off
      ·subst hj;rw[List.getElem?_set_self (qk k1),k1]
      ·rw[List.getElem?_set_ne (Ne.symm hj)]
     rw[he] at hset
     have hup:UpdW (X.pushW (.vec e sh []) none X.w) n c c T X.w:=⟨g2,g2,rfl,fun _ _=>rfl,rfl,rfl,rfl,rfl⟩
     have hown:(X.pushW (.vec e sh []) none X.w).own b n:=⟨g1',_,hb1,rfl⟩
     have hx2:=Ctx.upd_ext (k':=.cells (cs.set off (.vec st.h.length))) hs1 hb1 hown hup trivial
     have hs2:=hs1.upd (k':=.cells (cs.set off (.vec st.h.length))) hb1 hown hup trivial ⟨n,c,T,g1',g2,hset.ext hx2⟩
     have hsim2:=hsim.ext hx2 hs2
     have hh:((X.pushW (.vec e sh []) none X.w).upd b (.cells (cs.set off (.vec st.h.length))) X.w).h=(st.h++[Blk.vec e sh []]).set b (.cells (cs.set off (.vec st.h.length))):=by
      show (X.h++[Blk.vec e sh []]).set b _=_
      rw[hs.h]
     obtain⟨X3,q1,q2⟩:=q4U l hsim2
     refine⟨X3,q1,?_⟩
     rw[hh] at q2
     exact q2
    ·exact q4U l hs
   ·exact q4U l hs
  ·exact q4U l hs
theorem qgW(b c x:Nat):swp b c (swp b c x)=x:=by
 unfold swp
 simp only[Nat.beq_eq]
 by_cases h1:x=b
 ·subst h1
  by_cases h2:c=x
  ·simp[h2]
  ·simp[h2]
 ·by_cases h2:x=c
  ·subst h2;simp[h1]
  ·simp[h1,h2]
theorem qva{b c x n:Nat}(hb:n≤b)(hc:n≤c):n≤swp b c x↔n≤x:=by
 unfold swp
 simp only[Nat.beq_eq]
 split
 ·rename_i h;subst h;exact⟨fun _=>hb,fun _=>hc⟩
 ·split
  ·rename_i h;subst h;exact⟨fun _=>hc,fun _=>hb⟩
  ·exact Iff.rfl
theorem qvo{b c x n:Nat}(hb:b<n)(hc:c<n):swp b c x<n↔x<n:=by
 unfold swp
 simp only[Nat.beq_eq]
 split
 ·rename_i h;subst h;exact⟨fun _=>hb,fun _=>hc⟩
 ·split
  ·rename_i h;subst h;exact⟨fun _=>hc,fun _=>hb⟩
  ·exact Iff.rfl
theorem qto{b c x n:Nat}(hb:n≤b)(hc:n≤c)(hx:x<n):swp b c x=x:=by
 unfold swp
 simp only[Nat.beq_eq]
 rw[if_neg (by omega),if_neg (by omega)]
theorem qrX{b c:Nat}{h:List Blk}(hb:b<h.length)(hc:c<h.length)(hbc:b≠c)(i:Nat):(qn4 b c h)[i]?=h[swp b c i]?:=by
 have e1:h.getD c .dead=h[c]:=by simp[List.getD_eq_getElem?_getD,hc]
 have e2:h.getD b .dead=h[b]:=by simp[List.getD_eq_getElem?_getD,hb]
 unfold qn4 swp
 simp only[Nat.beq_eq]
 rw[e1,e2]
 by_cases h1:i=b
 ·subst h1
  rw[if_pos rfl,List.getElem?_set_ne (Ne.symm hbc),List.getElem?_set_self hb,List.getElem?_eq_getElem hc]
 ·by_cases h2:i=c
  ·subst h2
   rw[if_neg h1,if_pos rfl,List.getElem?_set_self (by simpa using hc),List.getElem?_eq_getElem hb]
  ·rw[if_neg h1,if_neg h2,List.getElem?_set_ne (Ne.symm h2),List.getElem?_set_ne (Ne.symm h1)]
def Ctx.swap(X:Ctx)(b c:Nat):Ctx:={ X with σ:=fun x=>X.σ (swp b c x),h:=(qn4 b c X.h).map (Blk.ren (swB b c)) }
theorem qr9{B:Base}{X:Ctx}(hs:HSim B X){b c:Nat}(hb:B.imps.length≤b)(hc:B.imps.length≤c)(hbl:b<X.h.length)(hcl:c<X.h.length)(hbc:b≠c) :
  HSim B (X.swap b c)∧Move X (X.swap b c) (swB b c):=by
 have hget:∀i,(X.swap b c).h[i]?=(X.h[swp b c i]?).map (Blk.ren (swB b c)):=fun i=>by
  show ((qn4 b c X.h).map _)[i]?=_
  rw[List.getElem?_map,qrX hbl hcl hbc]
 have hget':∀i k,(X.swap b c).h[i]?=some k→∃k0,X.h[swp b c i]?=some k0∧k=k0.ren (swB b c):=by
  intro i k h
  rw[hget] at h
  cases hk:X.h[swp b c i]? with
  | none=>rw[hk] at h;cases h
  | some k0=>rw[hk] at h;exact⟨k0,rfl,(Option.some.inj h).symm⟩
 have hσ:∀i,(X.swap b c).σ i=X.σ (swp b c i):=fun _=>rfl
 have hm:Move X (X.swap b c) (swB b c):=by
  refine Move.of (fun _ h=>h) (fun _ _=>rfl) (fun b1 b2 hb1 hf=>?_)
  have hf':b2=swp b c b1:=(Option.some.inj hf).symm
  subst hf'
  refine⟨?_,by rw[hσ,qgW],fun sh m ⟨e,l,h1,h2⟩=>⟨e,l,?_,h2⟩,fun sh m _ n hn c T fr hc=>⟨c,T,fr,hc,rfl⟩⟩
  ·show _<((qn4 b c X.h).map _).length
   simp only[qn4,List.length_map,List.length_set]
   exact(qvo hbl hcl).2 hb1
  ·rcases h1 with h1|h1
   ·obtain⟨k0,h3,h4⟩:=hget' _ _ h1
    rw[qgW] at h3
    rcases qeo (.inl h4) with rfl|rfl
    ·exact .inl h3
    ·exact .inr h3
   ·obtain⟨k0,h3,h4⟩:=hget' _ _ h1
    rw[qgW] at h3
    rcases qeo (.inr h4) with rfl|rfl
    ·exact .inl h3
    ·exact .inr h3
 have hown:∀i n,(X.swap b c).own i n→X.own (swp b c i) n:=by
  intro i n ⟨h1,k,h2,h3⟩
  obtain⟨k0,h4,h5⟩:=hget' i k h2
  exact⟨h1,k0,h4,by rw[h5,Blk.mut_ren] at h3;exact h3⟩
 refine⟨⟨?_,?_,fun i n h=>hs.notM _ n (hown _ _ h),hs.ltM,hs.M0,hs.newM,hs.os,hs.tape,hs.output,hs.size,hs.frame,?_,?_,?_,hs.kept⟩,hm⟩
 ·intro i k hk
  obtain⟨k0,h1,h2⟩:=hget' i k hk
  rw[h2]
  exact vM.move hm.toMove0 (hσ i) (fun _ _=>rfl) (hs.blk _ k0 h1)
 ·intro i j n h1 h2
  have:=hs.inj _ _ n (hown _ _ h1) (hown _ _ h2)
  rw[←qgW b c i,this,qgW]
 ·intro i hi
  rw[hσ,qto hb hc hi];exact hs.imps i hi
 ·intro i hi
  obtain⟨k,h1,h2⟩:=hs.impc i hi
  exact⟨k.ren (swB b c),by rw[hget,qto hb hc hi,h1];rfl,by rw[Blk.solid_ren];exact h2⟩
 ·intro i n h1 h2
  exact hs.fresh _ n (hown _ _ h1) ((qva hb hc).2 h2)
theorem q7K{E:Env}{B:Base}{a:Act}{n:Nat}(hn:B.imps.length≤n):∀(l:List (Nat×Nat)) {X:Ctx} {st:St},Sim E B X st a→∃X',X'.w=X.w∧Sim E B X' (qfG n l st) a
 | [],X,st,hs=>⟨X,rfl,hs⟩
 | (i,b)::l,X,st,hs=>by
  simp only[qfG]
  split
  ·rename_i c hc
   split
   ·rename_i hcond
    simp only[Bool.and_eq_true,Nat.ble_eq,Nat.blt_eq,Bool.not_eq_true'] at hcond
    obtain⟨⟨⟨⟨c1,c2⟩,c3⟩,c4⟩,c5⟩:=hcond
    have hne:b≠c:=fun e=>by subst e;simp at c5
    obtain⟨g1,g2⟩:=qr9 hs.hs (b:=b) (c:=c) (by omega) (by omega) (by rw[hs.h];exact c3) (by rw[hs.h];exact c4) hne
    obtain⟨X2,q1,q2⟩:=q7K hn l (X:=X.swap b c) (st:=st.swap b c) ⟨g1,by simp[Ctx.swap,St.swap,hs.h],hs.t.ren g2.toMove0,hs.fs.ren g2.toMove0,qgT (X:=X) (fun _ h=>h) rfl rfl hs.glob,hs.df,hs.ni,hs.y,hs.pin⟩
    exact⟨X2,q1,q2⟩
   ·exact q7K hn l hs
  ·exact q7K hn l hs
theorem Tmpl.weaken1{tm:Tmpl}{E:Env}{B:Base}{X:Ctx}{st:St}{a:Act}{ps:List PV}(hk:q6i E.nimp tm.h=true)(h:tm.take1 st=some ps)(hs:Sim E B X st a) :
  ps.map PV.kind=tm.kinds∧∃X',X'.w=X.w∧Sim E B X' (tm.make ps) a:=by
 unfold Tmpl.take1 at h
 split at h
 ·rename_i hpe
  have hpe':=qvi hpe
  obtain⟨x,yz,h1,h0,rfl⟩:=q0M h
  obtain⟨y,z,h2,h3,rfl⟩:=q0M h0
  obtain⟨hc1,hc2⟩:=qga hk
  obtain⟨c1,c2⟩:=qon hs.hs (n:=tm.h.length) (Nat.le_trans hs.ni hc1)
  obtain⟨a1,a2,a3⟩:=AP.takeL_ok (X:=X.cut tm.h.length) _ _ x (y++z) h1
  obtain⟨d1,d2,d3⟩:=AP.takeLL_ok (X:=X.cut tm.h.length) _ _ y z h2
  obtain⟨b1,b2,b3,b4,b5⟩:=BP.takeL_ok (X:=X.cut tm.h.length) _ _ z [] h3
  have hch:(X.cut tm.h.length).h=(st.h.take tm.h.length).map (Blk.ren (qm1 tm.h.length)):=by rw[←hs.h];rfl
  rw[←hch] at b3 b5
  rw[List.append_nil] at b3 b5
  obtain⟨e1,e2⟩:=q6Y c1 (h':=(BP.makeL tm.h z).1) b3 (fun b k' hb=>by obtain⟨k0,e1,e2,_⟩:=b5 b k' hb;exact⟨k0,e1,e2⟩)
   (fun b hb k' hk'=>by
    obtain⟨q,q1,q2⟩:=hc2 b (by have:=hs.ni;omega)
    obtain⟨k0,_,_,e3⟩:=b5 b k' hk'
    exact e3 q q1 q2)
  refine⟨by simp[Tmpl.kinds,a2,d2,b2],{ X.cut tm.h.length with h:=(BP.makeL tm.h z).1 },rfl,⟨e1,?_,?_,?_,?_,?_,hs.ni,hs.y,?_⟩⟩
  ·simp only[Tmpl.make,a1,d1]
  ·simp only[Tmpl.make]
   exact(a3 _ (hs.t.ren c2.toMove0)).ext e2
  ·simp only[Tmpl.make,a1]
   exact(d3 _ (hs.fs.ren c2.toMove0)).ext e2
  ·exact qgT (X:=X) (fun _ h=>h) rfl rfl hs.glob
  ·show qmb X.kept (B.pin tm.pend) a.defers
   rw[hpe'];exact hs.df
  ·show ∀p,p∈B.pin tm.pend→p∈X.kept
   rw[hpe'];exact hs.pin
 ·cases h
theorem Tmpl.weaken{tm:Tmpl}{E:Env}{B:Base}{X:Ctx}{st:St}{a:Act}{ps:List PV}(hk:tm.ok E.nimp=true)(h:tm.take st=some ps)(hs:Sim E B X st a) :
  ps.map PV.kind=tm.kinds∧∃X',X'.w=X.w∧Sim E B X' (tm.make ps) a:=by
 unfold Tmpl.ok at hk
 simp only[Bool.and_eq_true,Bool.or_eq_true,List.isEmpty_iff,Nat.ble_eq] at hk
 obtain⟨X0,h0,h2'⟩:=qed tm.pro hs
 obtain⟨X1,h1',h2⟩:=q4U tm.prc h2'
 have h1:=h1'.trans h0
 have:∃X',X'.w=X1.w∧Sim E B X' (qfG tm.swn tm.sw (qeC tm.prc (qpA tm.pro st))) a:=by
  rcases hk.2 with h0|h0
  ·rw[h0];exact⟨X1,rfl,h2⟩
  ·exact q7K (Nat.le_trans hs.ni h0) tm.sw h2
 obtain⟨X1',h1',h2'⟩:=this
 obtain⟨g1,X2,g2,g3⟩:=Tmpl.weaken1 hk.1 h h2'
 exact⟨g1,X2,(g2.trans h1').trans h1,g3⟩
structure Out where
 x:Ex
 tm:Tmpl
abbrev TR:=Tree (Nat×List PV)
def quz:List Out→Nat→Ex×St→TR
 | [],_,_=>.fail
 | o::l,j,r=>match Ex.beq o.x r.1,o.tm.take r.2 with
  | true,some ps=>.leaf (j,ps)
  | _,_=>quz l (j+1) r
def okR(R:TR):Bool:=R.run.isSome
def jR(R:TR):Nat:=match R.run with|some r=>r.1|none=>0
def pR(R:TR)(i:Nat):PV:=match R.run with|some r=>r.2.getD i (.i 0)|none=>.i 0
def gI(R:TR)(i:Nat):Int:=(pR R i).toI
def gB(R:TR)(i:Nat):Bool:=(pR R i).toB
def gS(R:TR)(i:Nat):List UInt8:=(pR R i).toS
def gR(R:TR)(i:Nat):Go.Eng.R:=(pR R i).toR
def jIs(R:TR)(j:Nat):Bool:=Nat.beq (jR R) j
def qfj(R:TR):List PK→Nat→List PV
 | [],_=>[]
 | .i::l,n=>.i (gI R n)::qfj R l (n+1)
 | .b::l,n=>.b (gB R n)::qfj R l (n+1)
 | .s::l,n=>.s (gS R n)::qfj R l (n+1)
 | .r::l,n=>.r (gR R n)::qfj R l (n+1)
theorem qcF{R:TR}{j:Nat}{ps:List PV}(hR:R.run=some (j,ps)):∀(ks:List PK) (n:Nat),(ps.drop n).map PV.kind=ks→qfj R ks n=ps.drop n
 | [],n,h=>by simp at h;simp[qfj];exact h
 | k::ks,n,h=>by
  cases hd:ps.drop n with
  | nil=>rw[hd] at h;cases h
  | cons v rest=>
   rw[hd] at h
   simp only[List.map_cons,List.cons.injEq] at h
   have hn:ps[n]?=some v:=by
    have:(ps.drop n)[0]?=some v:=by rw[hd];rfl
    rwa [List.getElem?_drop,Nat.add_zero] at this
   have hr:ps.drop (n+1)=rest:=by rw[←List.drop_drop,hd];rfl
   have ih:=qcF hR ks (n+1) (by rw[hr];exact h.2)
   have hp:pR R n=v:=by simp[pR,hR,List.getD_eq_getElem?_getD,hn]
   rw[hr] at ih
   cases v<;>simp only[PV.kind] at h<;>obtain⟨rfl,_⟩:=h<;>simp only[qfj,ih,gI,gB,gS,gR,hp,PV.toI,PV.toB,PV.toS,PV.toR]
def quJ(R:TR):List Out→Nat→Tree (Ex×St)
 | [],_=>.fail
 | o::l,j=>match l with
  | []=>.leaf (o.x,o.tm.make (qfj R o.tm.kinds 0))
  | _::_=>.br (jIs R j) (.leaf (o.x,o.tm.make (qfj R o.tm.kinds 0))) (quJ R l (j+1))
theorem qnH{R:TR}{j:Nat}{ps:List PV}(hR:R.run=some (j,ps)):∀(outs:List Out) (k:Nat) (o:Out) (r:Ex×St),k≤j→outs[j-k]?=some o→ps.map PV.kind=o.tm.kinds →
  (quJ R outs k).run=some r→r=(o.x,o.tm.make ps)
 | [],k,o,r,_,h,_,_=>by simp at h
 | o'::l,k,o,r,hk,h,hp,hr=>by
  have hj:jR R=j:=by simp[jR,hR]
  simp only[quJ] at hr
  cases l with
  | nil=>
   have:j-k=0:=by
    rcases Nat.eq_zero_or_pos (j-k) with h0|h0
    ·exact h0
    ·rw[List.getElem?_eq_none (by simp;omega)] at h;cases h
   rw[this] at h
   simp only[List.getElem?_cons_zero,Option.some.injEq] at h
   subst h
   simp only[Tree.run,Option.some.injEq] at hr
   rw[←hr,qcF hR _ 0 (by simpa using hp)];rfl
  | cons o2 l=>
   simp only[Tree.run] at hr
   by_cases hjk:j=k
   ·have hb:jIs R k=true:=by simp[jIs,hj,hjk]
    rw[hb] at hr
    simp only[Option.some.injEq] at hr
    subst hjk
    simp only[Nat.sub_self,List.getElem?_cons_zero,Option.some.injEq] at h
    subst h
    rw[←hr,qcF hR _ 0 (by simpa using hp)];rfl
   ·have hb:jIs R k=false:=by
     simp only[jIs,hj]
     cases hq:Nat.beq j k with
     | false=>rfl
     | true=>exact absurd (Nat.eq_of_beq_eq_true hq) hjk
    rw[hb] at hr
    simp only at hr
    refine qnH hR (o2::l) (k+1) o r (by omega) ?_ hp hr
    rw[show j-k=(j-(k+1))+1 by omega,List.getElem?_cons_succ] at h
    exact h
theorem qnV:∀(outs:List Out) (k:Nat) (r:Ex×St) (j:Nat) (ps:List PV),(quz outs k r).run=some (j,ps)→k≤j∧∃o,outs[j-k]?=some o∧o.x=r.1∧o.tm.take r.2=some ps
 | [],k,r,j,ps,h=>by simp only[quz] at h;cases h
 | o::l,k,r,j,ps,h=>by
  simp only[quz] at h
  split at h
  ·rename_i ps' hb ht
   simp only[Tree.run,Option.some.injEq,Prod.mk.injEq] at h
   obtain⟨rfl,rfl⟩:=h
   exact⟨Nat.le_refl _,o,by simp,Ex.beq_eq hb,ht⟩
  ·obtain⟨h1,o',h2,h3,h4⟩:=qnV l (k+1) r j ps h
   refine⟨by omega,o',?_,h3,h4⟩
   rw[show j-k=(j-(k+1))+1 by omega,List.getElem?_cons_succ]
   exact h2
def qB(tin:Tmpl)(outs:List Out)(T:List PV→TR):St→Tree (Ex×St):=fun st=>match tin.take st with
 | none=>.fail
 | some ps=>.br (okR (T ps)) (quJ (T ps) outs 0) .fail
theorem qpP{tin:Tmpl}{outs:List Out}{T:List PV→TR}{st:St}{r:Ex×St}(h:(qB tin outs T st).run=some r) :
  ∃ps j qs,tin.take st=some ps∧(T ps).run=some (j,qs)∧(quJ (T ps) outs 0).run=some r:=by
 unfold qB at h
 cases ht:tin.take st with
 | none=>rw[ht] at h;cases h
 | some ps=>
  rw[ht] at h
  simp only[Tree.run] at h
  cases hr:(T ps).run with
  | none=>simp[okR,hr] at h
  | some q=>
   obtain⟨j,qs⟩:=q
   simp only[okR,hr,Option.isSome_some] at h
   exact⟨ps,j,qs,rfl,hr,h⟩
theorem qms.env{E E':Env}(he:E.glob=E'.glob)(hn:E.nimp=E'.nimp){B:Base}{r:Ex×St}{e:Exit}{a:Act}{w:World}(h:qms E B r e a w):qms E' B r e a w:=by
 obtain⟨h1,X',h2,h3⟩:=h
 exact⟨h1,X',h2,h3.env he hn⟩
theorem quf{ni:Nat}{outs:List Out}(h:(outs.all fun o=>o.tm.ok ni)=true){j:Nat}{o:Out}(ho:outs[j]?=some o):o.tm.ok ni=true:=
 List.all_eq_true.1 h o (List.mem_of_getElem? ho)
theorem qk5{p:Nat→Prop}(h:∃n,p n):∃n,p n∧∀m,p m→n≤m:=by
 obtain⟨n,hn⟩:=h
 induction n using Nat.strongRecOn with
 | _ n ih=>
  by_cases hlt:∃m,m<n∧p m
  ·obtain⟨m,h1,h2⟩:=hlt;exact ih m h1 h2
  ·exact⟨n,hn,fun m hm=>Nat.le_of_not_lt fun h=>hlt ⟨m,h,hm⟩⟩
open Classical in
noncomputable def qjE(p:Nat→Prop):Nat:=if h:∃n,p n then Classical.choose (qk5 h) else 0
theorem qeP{p:Nat→Prop}(h:∃n,p n):p (qjE p)∧∀m,p m→qjE p≤m:=by
 unfold qjE
 rw[dif_pos h]
 exact Classical.choose_spec (qk5 h)
def qsv(tin:Tmpl)(outs:List Out)(r:Ex×St):TR:=match r.1 with
 | .normal=>match tin.take r.2 with
  | some ps=>.leaf (0,ps)
  | none=>.fail
 | _=>quz outs 1 r
def qcK(S:List PV→TR):Nat→List PV→TR
 | 0,_=>.fail
 | n+1,ps=>(S ps).bind fun r=>match r.1 with
  | 0=>qcK S n r.2
  | j+1=>.leaf (j,r.2)
theorem qqy{E:Env}{P:Program}{c:Code}{BO:Base→Prop}{ev:St→Tree (Ex×St)}(hev:∀(n0:Nat) B X st a r,BO B→Sim E B X st a→(ev st).run=some r→c.wpIn (ux B.ro) n0 P (qms E B r) a X.w)
  {tin:Tmpl} {outs:List Out} {S T:List PV→TR} (hk:tin.ok E.nimp=true) (hko:(outs.all fun o=>o.tm.ok E.nimp)=true)
  (hS:∀ps r,ps.map PV.kind=tin.kinds→(S ps).run=some r→((ev (tin.make ps)).bind (qsv tin outs)).run=some r) (hT:∀ps,∃n,T ps=qcK S n ps) :
  qC P E.glob E.nimp BO (.loop c) (qB tin outs T):=by
 intro E' B X st a r he hn hbo hs h nf
 obtain⟨ps,j,qs,h1,h2,h3⟩:=qpP h
 obtain⟨hkd,X',hw,hs'⟩:=Tmpl.weaken hk h1 (hs.env he hn)
 obtain⟨n0,hn0⟩:=hT ps
 have hend:∀(o:Out) (X3:Ctx) (a':Act),outs[j]?=some o→qs.map PV.kind=o.tm.kinds→Sim E B X3 (o.tm.make qs) a'→qms E' B r o.x.out a' X3.w:=by
  intro o X3 a' q1 hkd2 hs3
  have hr:=qnH h2 outs 0 o r (Nat.zero_le _) q1 hkd2 h3
  subst hr
  exact qms.env he.symm hn.symm ⟨rfl,X3,rfl,hs3⟩
 rw[hn0] at h2
 let I:Nat→Act→World→Prop:=fun n a' w'=>∃X1 ps1,X1.w=w'∧ps1.map PV.kind=tin.kinds∧Sim E B X1 (tin.make ps1) a'∧(qcK S n ps1).run=some (j,qs)
 have key:∀a' w',(∃n,I n a' w')→c.wpIn (ux B.ro) nf P (Exit.then (fun a'' w''=>∃n,I n a'' w''∧∀m,I m a' w'→n<m) (qms E' B r)) a' w':=by
  intro a' w' hex
  have hmin:=qk5 hex
  obtain⟨n,⟨X1,ps1,rfl,hk1,hs1,hit⟩,hleast⟩:=hmin
  cases n with
  | zero=>simp only[qcK] at hit;cases hit
  | succ n=>
   simp only[qcK] at hit
   obtain⟨s,g1,g2⟩:=bind_some hit
   obtain⟨r1,g3,g4⟩:=bind_some (hS ps1 s hk1 g1)
   refine wpIn_mono (hev nf B X1 _ a' r1 hbo hs1 g3) fun e a'' w'' ⟨p1,X2,p2,p3⟩=>?_
   subst p1 p2
   obtain⟨x1,s1⟩:=r1
   have other:∀(_:(quz outs 1 (x1,s1)).run=some s),qms E' B r x1.out a'' X2.w:=by
    intro hf
    obtain⟨sj,sps⟩:=s
    obtain⟨f1,o,f2,f3,f4⟩:=qnV _ _ _ _ _ hf
    cases sj with
    | zero=>omega
    | succ sj=>
     simp only[Tree.run,Option.some.injEq,Prod.mk.injEq] at g2
     obtain⟨rfl,rfl⟩:=g2
     simp only[Nat.add_sub_cancel] at f2
     obtain⟨hkd2,X3,hw3,hs3⟩:=Tmpl.weaken (quf hko f2) f4 p3
     have f3':o.x=x1:=f3
     rw[←f3',←hw3]
     exact hend o X3 a'' f2 hkd2 hs3
   cases x1 with
   | normal=>
    simp only[qsv] at g4
    cases htk:tin.take s1 with
    | none=>rw[htk] at g4;cases g4
    | some ps2=>
     rw[htk] at g4
     simp only[Tree.run,Option.some.injEq] at g4
     subst g4
     obtain⟨hkd2,X3,hw3,hs3⟩:=Tmpl.weaken hk htk p3
     refine⟨n,⟨X3,ps2,hw3,hkd2,hs3,g2⟩,fun m hm=>?_⟩
     have:=hleast m hm
     omega
   | exit i=>exact other g4
   | ret=>exact other g4
 rw[←hw]
 have hI0:∃n,I n a X'.w:=⟨n0,X',ps,rfl,hkd,hs',h2⟩
 refine wpIn_loop (fun a' w'=>∃n,I n a' w') (fun a' w'=>qjE fun n=>I n a' w') hI0 fun a' w' hex=>?_
 refine wpIn_mono (key a' w' hex) fun e a'' w'' hq=>?_
 cases e with
 | normal=>
  obtain⟨n,hn1,hn2⟩:=hq
  exact⟨⟨n,hn1⟩,Nat.lt_of_le_of_lt ((qeP ⟨n,hn1⟩).2 n hn1) (hn2 _ (qeP hex).1)⟩
 | exit i=>exact hq
 | goto i=>exact hq
 | ret=>exact hq
 | panic ch=>exact hq
 | outgrown=>exact hq
end Go.Eng

namespace Go.Eng
structure FOut where
 res:AP
 h:List BP
 pro:Option (Nat×TypeId×List Sh):=none
def quj:Nat→AV→Bool
 | i,.tuple vs=>match vs[i]? with|some .nils=>true|_=>false
 | 0,.nils=>true
 | _,_=>false
def qvP(i:Nat)(v:AV):AV→AV
 | .tuple vs=>.tuple (vs.set i v)
 | .nils=>v
 | x=>x
def qvG(p:Option (Nat×TypeId×List Sh))(r:AV×List Blk):AV×List Blk:=match p with
 | none=>r
 | some (i,e,sh)=>match quj i r.1 with
  | true=>(qvP i (.vec r.2.length) r.1,r.2++[.vec e sh []])
  | false=>r
def qnu(h:List Blk):Blk→Blk
 | .cells cs=>.cells (AV.lendL h cs)
 | k=>k
def q7a(fz:Bool)(r:AV×List Blk):AV×List Blk:=match fz with
 | false=>r
 | true=>let h1:=qW r.2 (List.range r.2.length);(r.1.lend h1,h1.map (qnu h1))
def FOut.take1(o:FOut)(r:AV×List Blk):Option (List PV):=
 qqG (o.res.take (r.1.ren (qm1 o.h.length))) (BP.takeL o.h ((r.2.take o.h.length).map (Blk.ren (qm1 o.h.length))))
def FOut.take(o:FOut)(r:AV×List Blk):Option (List PV):=o.take1 (qvG o.pro r)
def FOut.make(o:FOut)(ps:List PV):AV×List Blk:=let x:=o.res.make ps;(x.1,(BP.makeL o.h x.2).1)
def FOut.kinds(o:FOut):List PK:=o.res.kinds++BP.kindsL o.h
def quA:List FOut→Nat→AV×List Blk→TR
 | [],_,_=>.fail
 | o::l,j,r=>match o.take r with
  | some ps=>.leaf (j,ps)
  | none=>quA l (j+1) r
def quB(R:TR):List FOut→Nat→Tree (AV×List Blk)
 | [],_=>.fail
 | o::l,j=>match l with
  | []=>.leaf (o.make (qfj R o.kinds 0))
  | _::_=>.br (jIs R j) (.leaf (o.make (qfj R o.kinds 0))) (quB R l (j+1))
structure FIn where
 args:List AP
 h:List BP
def FIn.take(i:FIn)(args:List AV)(h:List Blk):Option (List PV):=qqG (AP.takeL i.args args) (BP.takeL i.h h)
def FIn.make(i:FIn)(ps:List PV):List AV×List Blk:=let x:=AP.makeL i.args ps;(x.1,(BP.makeL i.h x.2).1)
def FIn.kinds(i:FIn):List PK:=AP.kindsL i.args++BP.kindsL i.h
def qa(i:FIn)(outs:List FOut)(T:List PV→TR):u4:=fun args h=>match i.take args h with
 | none=>.fail
 | some ps=>.br (okR (T ps)) (quB (T ps) outs 0) .fail
theorem qiW{R:TR}{j:Nat}{ps:List PV}(hR:R.run=some (j,ps)):∀(outs:List FOut) (k:Nat) (o:FOut) (r:AV×List Blk),k≤j→outs[j-k]?=some o→ps.map PV.kind=o.kinds →
  (quB R outs k).run=some r→r=o.make ps
 | [],k,o,r,_,h,_,_=>by simp at h
 | o'::l,k,o,r,hk,h,hp,hr=>by
  have hj:jR R=j:=by simp[jR,hR]
  simp only[quB] at hr
  cases l with
  | nil=>
   have:j-k=0:=by
    rcases Nat.eq_zero_or_pos (j-k) with h0|h0
    ·exact h0
    ·rw[List.getElem?_eq_none (by simp;omega)] at h;cases h
   rw[this] at h
   simp only[List.getElem?_cons_zero,Option.some.injEq] at h
   subst h
   simp only[Tree.run,Option.some.injEq] at hr
   rw[←hr,qcF hR _ 0 (by simpa using hp)];rfl
  | cons o2 l=>
   simp only[Tree.run] at hr
   by_cases hjk:j=k
   ·have hb:jIs R k=true:=by simp[jIs,hj,hjk]
    rw[hb] at hr
    simp only[Option.some.injEq] at hr
    subst hjk
    simp only[Nat.sub_self,List.getElem?_cons_zero,Option.some.injEq] at h
    subst h
    rw[←hr,qcF hR _ 0 (by simpa using hp)];rfl
   ·have hb:jIs R k=false:=by
     simp only[jIs,hj]
     cases hq:Nat.beq j k with
     | false=>rfl
     | true=>exact absurd (Nat.eq_of_beq_eq_true hq) hjk
    rw[hb] at hr
    simp only at hr
    refine qiW hR (o2::l) (k+1) o r (by omega) ?_ hp hr
    rw[show j-k=(j-(k+1))+1 by omega,List.getElem?_cons_succ] at h
    exact h
theorem qom:∀(outs:List FOut) (k:Nat) (r:AV×List Blk) (j:Nat) (ps:List PV),(quA outs k r).run=some (j,ps)→k≤j∧∃o,outs[j-k]?=some o∧o.take r=some ps
 | [],k,r,j,ps,h=>by simp only[quA] at h;cases h
 | o::l,k,r,j,ps,h=>by
  simp only[quA] at h
  split at h
  ·rename_i ps' ht
   simp only[Tree.run,Option.some.injEq,Prod.mk.injEq] at h
   obtain⟨rfl,rfl⟩:=h
   exact⟨Nat.le_refl _,o,by simp,ht⟩
  ·obtain⟨h1,o',h2,h4⟩:=qom l (k+1) r j ps h
   refine⟨by omega,o',?_,h4⟩
   rw[show j-k=(j-(k+1))+1 by omega,List.getElem?_cons_succ]
   exact h2
theorem qkS{i:FIn}{outs:List FOut}{T:List PV→TR}{args:List AV}{h:List Blk}{r:AV×List Blk}(hr:(qa i outs T args h).run=some r) :
  ∃ps j qs,i.take args h=some ps∧(T ps).run=some (j,qs)∧(quB (T ps) outs 0).run=some r:=by
 unfold qa at hr
 cases ht:i.take args h with
 | none=>rw[ht] at hr;cases hr
 | some ps=>
  rw[ht] at hr
  simp only[Tree.run] at hr
  cases hq:(T ps).run with
  | none=>simp[okR,hq] at hr
  | some q=>
   obtain⟨j,qs⟩:=q
   simp only[okR,hq,Option.isSome_some] at hr
   exact⟨ps,j,qs,rfl,hq,hr⟩
theorem qhG{B:Base}{X:Ctx}(hs:HSim B X)(fz:Bool){r:AV×List Blk}{v:Value}(hr:Rep X r.1 v)(hh:X.h=r.2) :
  ∃X',X'.w=X.w∧X'.h=(q7a fz r).2∧HSim B X'∧Rep X' (q7a fz r).1 v∧X'.y=X.y:=by
 cases fz with
 | false=>exact⟨X,rfl,hh,hs,hr,rfl⟩
 | true=>
  obtain⟨X1,f⟩:=q3m (List.range r.2.length) hs
  have hf:X1.h=qW r.2 (List.range r.2.length):=by rw[f.h,hh]
  obtain⟨d1,d2⟩:=q6Y f.hs (h':=X1.h.map (qnu X1.h)) (by simp) (fun b k' hb=>by
   rw[List.getElem?_map] at hb
   cases hk:X1.h[b]? with
   | none=>rw[hk] at hb;cases hb
   | some k0=>
    rw[hk] at hb
    simp only[Option.map_some,Option.some.injEq] at hb
    refine⟨k0,rfl,?_⟩
    cases k0 with
    | cells cs=>exact .inr (.inr (.inl ⟨cs,_,rfl,hb.symm,fun vs hv=>q7n f.hs hv⟩))
    | _=>exact .inr (.inl hb.symm)) (fun b hb k' hk'=>by
   obtain⟨cs,hc,hc2⟩:=f.hs.impc b hb
   rw[List.getElem?_map,hc] at hk'
   simp only[Option.map_some,Option.some.injEq] at hk'
   subst hk'
   cases cs<;>first|(cases hc2;done)|rfl)
  refine⟨{ X1 with h:=X1.h.map (qnu X1.h) },f.w,?_,d1,?_,f.ext.y⟩
  ·simp only[q7a,hf]
  ·have:=(qnv f.hs (hr.ext f.ext)).ext d2
   simp only[q7a]
   rw[←hf]
   exact this
theorem qry{B:Base}{X:Ctx}(hs:HSim B X)(p:Option (Nat×TypeId×List Sh)){r:AV×List Blk}{v:Value}(hr:Rep X r.1 v)(hh:X.h=r.2) :
  ∃X',X'.w=X.w∧X'.h=(qvG p r).2∧HSim B X'∧Rep X' (qvG p r).1 v∧X'.y=X.y:=by
 cases p with
 | none=>exact⟨X,rfl,hh,hs,hr,rfl⟩
 | some p=>
  obtain⟨i,e,sh⟩:=p
  obtain⟨a,h⟩:=r
  simp only at hr hh
  subst hh
  simp only[qvG]
  cases hn:quj i a with
  | false=>exact⟨X,rfl,rfl,hs,hr,rfl⟩
  | true=>
   simp only
   have hw:=PushW.same X
   have hk:vM (X.pushW (.vec e sh []) none X.w) X.h.length (.vec e sh []):=.inl ⟨by simp[Ctx.pushW],rfl⟩
   have hs1:=HSim.push hs hw hk
   have hx:=Ctx.push_ext hs (.vec e sh []) hw
   have hrep:Rep (X.pushW (.vec e sh []) none X.w) (.vec X.h.length) (.slice none 0 0):=by
    refine .vec _ _ _ _ (by simp[Ctx.pushW]) fun sh' m hv=>?_
    unfold ql2
    simp[Ctx.pushW]
   refine⟨X.pushW (.vec e sh []) none X.w,rfl,by simp[Ctx.pushW],hs1,?_,rfl⟩
   cases a with
   | nils=>
    cases hr
    exact hrep
   | tuple vs=>
    cases hr with
    | tuple _ us hu=>
     simp only[quj] at hn
     cases hg:vs[i]? with
     | none=>rw[hg] at hn;cases hn
     | some x=>
      rw[hg] at hn
      cases x<;>first|(cases hn;done)|skip
      obtain⟨u,g1,g2⟩:=hu.get i _ hg
      have hue:u=.slice none 0 0:=by cases g2;rfl
      subst hue
      have hset:=RepL.set hrep (hu.ext hx) i
      have he:us.set i (.slice none 0 0)=us:=by
       apply List.ext_getElem?
       intro j
       by_cases hj:j=i
       ·subst hj;rw[List.getElem?_set_self (qk g1),g1]
       ·rw[List.getElem?_set_ne (Ne.symm hj)]
      rw[he] at hset
      exact .tuple _ _ hset
   | _=>cases i<;>cases hn
theorem FOut.weaken1{o:FOut}{B:Base}{X:Ctx}{r:AV×List Blk}{ps:List PV}{v:Value}(hk:q6i B.imps.length o.h=true)(h:o.take1 r=some ps)(hs:HSim B X)(hr:Rep X r.1 v)(hh:X.h=r.2) :
  ps.map PV.kind=o.kinds∧∃X',X'.w=X.w∧X'.h=(o.make ps).2∧HSim B X'∧Rep X' (o.make ps).1 v∧X'.y=X.y:=by
 unfold FOut.take1 at h
 obtain⟨x,y,h1,h2,rfl⟩:=q0M h
 obtain⟨hc1,hc2⟩:=qga hk
 obtain⟨c1,c2⟩:=qon hs (n:=o.h.length) hc1
 obtain⟨a1,a2,a3⟩:=AP.take_ok (X:=X.cut o.h.length) _ _ x y h1
 obtain⟨b1,b2,b3,b4,b5⟩:=BP.takeL_ok (X:=X.cut o.h.length) _ _ y [] h2
 have hch:(X.cut o.h.length).h=(r.2.take o.h.length).map (Blk.ren (qm1 o.h.length)):=by rw[←hh];rfl
 rw[←hch] at b3 b5
 rw[List.append_nil] at b3 b5
 obtain⟨d1,d2⟩:=q6Y c1 (h':=(BP.makeL o.h y).1) b3 (fun b k' hb=>by obtain⟨k0,e1,e2,_⟩:=b5 b k' hb;exact⟨k0,e1,e2⟩)
  (fun b hb k' hk'=>by
   obtain⟨q,q1,q2⟩:=hc2 b hb
   obtain⟨k0,_,_,e3⟩:=b5 b k' hk'
   exact e3 q q1 q2)
 refine⟨by simp[FOut.kinds,a2,b2],{ X.cut o.h.length with h:=(BP.makeL o.h y).1 },rfl,?_,d1,?_,rfl⟩
 ·simp only[FOut.make,a1]
 ·simp only[FOut.make]
  exact(a3 _ (hr.ren c2.toMove0)).ext d2
theorem FOut.weaken{o:FOut}{B:Base}{X:Ctx}{r:AV×List Blk}{ps:List PV}{v:Value}(hk:q6i B.imps.length o.h=true)(h:o.take r=some ps)(hs:HSim B X)(hr:Rep X r.1 v)(hh:X.h=r.2) :
  ps.map PV.kind=o.kinds∧∃X',X'.w=X.w∧X'.h=(o.make ps).2∧HSim B X'∧Rep X' (o.make ps).1 v∧X'.y=X.y:=by
 obtain⟨X1,h1,h2,h3,h4,h5⟩:=qry hs o.pro hr hh
 obtain⟨g1,X2,g2,g3,g4,g5,g6⟩:=FOut.weaken1 hk h h3 h4 h2
 exact⟨g1,X2,g2.trans h1,g3,g4,g5,g6.trans h5⟩
theorem qqa{E:Env}{P:Program}(hm:P.follows .mixedOrders=true)(hE:E.tok P)(hS:E.specs P)(hL:E.loopsOK P)(hb:E.bodies P){f:FuncId}{fn:Func}(hf:P.funcs[f]?=some fn)
  (hn:(fn.name == "runtime.NumGoroutine")=false) (hbd:fn.body.isNone=false) {n:Nat} {fz:Bool} {i:FIn} {outs:List FOut} {T:List PV→TR}
  (hi:i.h.length=E.nimp∧i.h.all BP.isCells=true) (ho:(outs.all fun o=>q6i E.nimp o.h)=true)
  (hT:∀ps r,ps.map PV.kind=i.kinds→(T ps).run=some r→((qnx E n f fn (i.make ps).1 (i.make ps).2).bind fun q=>quA outs 0 (q7a fz q)).run=some r) :
  zk P E.glob f (qa i outs T):=by
 refine⟨yV hf hn hbd,fun B X args vargs r hs hen hgl ha h=>?_⟩
 obtain⟨ps,j,qs,h1,h2,h3⟩:=qkS h
 unfold FIn.take at h1
 obtain⟨x,y,g1,g2,rfl⟩:=q0M h1
 obtain⟨a1,a2,a3⟩:=AP.takeL_ok (X:=X) _ _ x y g1
 obtain⟨b1,b2,b3,b4,b5⟩:=BP.takeL_ok (X:=X) _ _ y [] g2
 rw[List.append_nil] at b3 b5
 have himp:B.imps.length=X.h.length:=by rw[hen.imps];simp
 obtain⟨d1,d2⟩:=q6Y hs (h':=(BP.makeL i.h y).1) b3 (fun b k' hb=>by obtain⟨k0,e1,e2,_⟩:=b5 b k' hb;exact⟨k0,e1,e2⟩)
  (fun b hb k' hk'=>by
   obtain⟨k0,_,_,e3⟩:=b5 b k' hk'
   have hlt:b<i.h.length:=by omega
   exact e3 i.h[b] (List.getElem?_eq_getElem hlt) (List.all_eq_true.1 hi.2 _ (List.getElem_mem hlt)))
 have hkd:(x++y).map PV.kind=i.kinds:=by simp[FIn.kinds,a2,b2]
 have hgl1:q7y E.glob ({ X with h:=(BP.makeL i.h y).1 }:Ctx):=qgT (X:=X) (fun _ h=>h) rfl rfl hgl
 obtain⟨q,k1,k2⟩:=bind_some (hT _ _ hkd h2)
 have hmk:i.make (x++y)=((AP.makeL i.args (x++y)).1,(BP.makeL i.h y).1):=by simp only[FIn.make,a1]
 rw[hmk] at k1
 have hcalls:=qlZ hm hE hS hL hb hf (n:=n) d1 (by omega) hgl1 ((a3 _ ha).ext d2) k1
 refine hcalls.mono fun e w' ⟨v,X',e1,e2,e3,e4,e5,e6⟩=>?_
 obtain⟨X2,p1,p2,p3,p4,p5⟩:=qhG e5 fz e3 e4
 obtain⟨_,o,q1,q2⟩:=qom _ _ _ _ _ k2
 have hco:q6i B.imps.length o.h=true:=by
  rw[himp,←b4,hi.1]
  exact List.all_eq_true.1 ho o (List.mem_of_getElem? q1)
 obtain⟨m1,X3,m2,m3,m4,m5,m6⟩:=FOut.weaken hco q2 p3 p4 p2
 have hre:=qiW h2 outs 0 o r (Nat.zero_le _) q1 m1 h3
 subst hre
 exact⟨v,X3,e1,by rw[m2,p1,e2],m5,m3,m4,(m6.trans p5).trans e6⟩
def qvT(l:List (FIn×u4)):u4:=fun args h=>match l.find? fun c=>(c.1.take args h).isSome with
 | some c=>c.2 args h
 | none=>.fail
theorem qt1{P:Program}{gl:List (Nat×AV)}{f:FuncId}{l:List (FIn×u4)}(he:qcN P f)(hl:∀c,c∈l→zk P gl f c.2):zk P gl f (qvT l):=by
 refine⟨he,fun B X args vargs r hs hen hg ha h=>?_⟩
 unfold qvT at h
 cases hc:l.find? fun c=>(c.1.take args X.h).isSome with
 | none=>rw[hc] at h;cases h
 | some c=>
  rw[hc] at h
  exact(hl c (List.mem_of_find?_eq_some hc)).2 B X args vargs r hs hen hg ha h
theorem qtI{P:Program}{gl:List (Nat×AV)}{f:FuncId}:∀c,c∈([]:List (FIn×u4))→zk P gl f c.2:=fun _ h=>by cases h
theorem qnL{P:Program}{gl:List (Nat×AV)}{f:FuncId}{i:FIn}{G:u4}{l:List (FIn×u4)}(h:zk P gl f G)(t:∀c,c∈l→zk P gl f c.2):∀c,c∈(i,G)::l→zk P gl f c.2:=fun c hc=>by
 rcases List.mem_cons.1 hc with rfl|hc
 ·exact h
 ·exact t c hc
end Go.Eng

namespace Go.Eng
def q1F(fn:Func):Code:=fn.body.getD .skip
def vg(fn:Func)(k:Nat):Code:=((qN (q1F fn))[k]?).getD .skip
def qcW:Code→Code
 | .loop c=>c
 | c=>c
def qw5(E:Env)(f:FuncId)(fn:Func)(k:Nat):qpp:=match vg fn k with
 | .rangeFunc _ ps a b=>qlG (vK E (q3Q E 9) (q3a E) (qbK E (q3Q E 9)) f a (k+1)) (vK E (q3Q E 9) (q3a E) (qbK E (q3Q E 9)) f b (k+1+zj a)) ps.toList
 | _=>fun _ _=>.fail
def hdl(E:Env):Option (FuncId×Func×Nat)→q1Q
 | none=>q3Q E 9
 | some (fc,fnc,kc)=>qs3 (qw5 E fc fnc kc) (q3Q E 9)
def rgh(E:Env):Option (FuncId×Func×Nat)→q79
 | none=>qbK E (q3Q E 9)
 | some _=>qjZ
def qdV(E:Env)(y:Option (FuncId×Func×Nat))(f:FuncId)(fn:Func)(k:Nat)(st:St):Tree (Ex×St):=vK E (hdl E y) (q3a E) (rgh E y) f (qcW (vg fn k)) (k+1) st
def q1D(E:Env)(f:FuncId)(fn:Func)(k:Nat)(tin:Tmpl)(outs:List Out)(ps:List PV):TR:=(qdV E none f fn k (tin.make ps)).bind (qsv tin outs)
def qko(E:Env)(y:Option (FuncId×Func×Nat))(f:FuncId)(fn:Func)(k:Nat)(tin:Tmpl)(outs:List Out)(ps:List PV):TR:=(qdV E y f fn k (tin.make ps)).bind (qsv tin outs)
def qo(E:Env)(f:FuncId)(fn:Func)(fz:Bool)(i:FIn)(outs:List FOut)(ps:List PV):TR:=(qnx E 9 f fn (i.make ps).1 (i.make ps).2).bind fun q=>quA outs 0 (q7a fz q)
def q9j:Nat:=2^70
def qw(S:List PV→TR)(ps:List PV):TR:=qcK S q9j ps
structure EnvOK (E:Env) (P:Program):Prop where
 tok:E.tok P
 specs:E.specs P
 loops:E.loopsOK P
 bodies:E.bodies P
theorem q3l{P:Program}{E:Env}(h:E.tt.map (fun x=>qkj P x.1)=E.tt.map (·.2)):E.tok P:=by
 intro x hx
 have:∀(l:List (TypeId×TI)),l.map (fun x=>qkj P x.1)=l.map (·.2)→∀x,x∈l→qkj P x.1=x.2:=by
  intro l
  induction l with
  | nil=>intro _ x hx;cases hx
  | cons y l ih=>
   intro h x hx
   simp only[List.map_cons,List.cons.injEq] at h
   rcases List.mem_cons.1 hx with rfl|hx
   ·exact h.1
   ·exact ih h.2 x hx
 exact this _ h x hx
theorem aln{α:Type}{p:α→Prop}:∀x,x∈([]:List α)→p x:=fun _ h=>by cases h
theorem alc{α:Type}{p:α→Prop}{a:α}{l:List α}(h:p a)(t:∀x,x∈l→p x):∀x,x∈a::l→p x:=fun x hx=>by
 rcases List.mem_cons.1 hx with rfl|hx
 ·exact h
 ·exact t x hx
theorem qrp {P:Program} {f:FuncId} {fn:Func} (h:P.funcs[f]?=some fn) (hn:(fn.name == "runtime.NumGoroutine")=false):P.funcs[(f,fn).1]?=some (f,fn).2∧((f,fn).2.name == "runtime.NumGoroutine")=false:=⟨h,hn⟩
theorem qtU{P:Program}{gl:List (Nat×AV)}{ni:Nat}{f k:Nat}{fn:Func}{L:St→Tree (Ex×St)}(hf:P.funcs[f]?=some fn)(hb:fn.body.isSome=true)
  (hn:((qN (q1F fn))[k]?).isSome=true) {it:List (FuncId×FuncId×Nat)} (hg:qC P gl ni (qQ P it f) (vg fn k) L) :
  ∃fn' c c',P.funcs[((f,k),L).1.1]?=some fn'∧fn'.body=some c∧(qN c)[((f,k),L).1.2]?=some c'∧qC P gl ni (qQ P it ((f,k),L).1.1) c' ((f,k),L).2:=by
 refine⟨fn,q1F fn,vg fn k,hf,?_,?_,hg⟩
 ·unfold q1F
  cases h:fn.body with
  | none=>rw[h] at hb;cases hb
  | some c=>rfl
 ·show (qN (q1F fn))[k]?=some (vg fn k)
  unfold vg
  cases h:(qN (q1F fn))[k]? with
  | none=>rw[h] at hn;cases hn
  | some c=>rfl
def qlP:Code→Bool
 | .loop _=>true
 | _=>false
theorem qn1{A C:List Code}(hA:∀(k:Nat) (d:Code),A[k]?=some d→∀(j:Nat) (c':Code),(qN d)[j]?=some c'→A[k+j]?=some c')(hC:∀(k:Nat) (d:Code),C[k]?=some d→∀(j:Nat) (c':Code),(qN d)[j]?=some c'→C[k+j]?=some c') :
  ∀(k:Nat) (d:Code),(A++C)[k]?=some d→∀(j:Nat) (c':Code),(qN d)[j]?=some c'→(A++C)[k+j]?=some c':=by
 intro k d hd j c' hc
 rcases Nat.lt_or_ge k A.length with h|h
 ·rw[List.getElem?_append_left h] at hd
  have:=hA k d hd j c' hc
  rw[List.getElem?_append_left (qk this)];exact this
 ·rw[List.getElem?_append_right h] at hd
  have:=hC _ d hd j c' hc
  rw[List.getElem?_append_right (by omega),show k+j-A.length=k-A.length+j by omega];exact this
theorem qja{c:Code}{l:List Code}(hc:qN c=c::l)(hl:∀(k:Nat) (d:Code),l[k]?=some d→∀(j:Nat) (c':Code),(qN d)[j]?=some c'→l[k+j]?=some c') :
  ∀(k:Nat) (d:Code),(c::l)[k]?=some d→∀(j:Nat) (c':Code),(qN d)[j]?=some c'→(c::l)[k+j]?=some c':=by
 intro k d hd j c' hj
 cases k with
 | zero=>
  simp only[List.getElem?_cons_zero,Option.some.injEq] at hd
  subst hd
  rw[hc] at hj
  simpa using hj
 | succ k=>
  simp only[List.getElem?_cons_succ] at hd
  have:=hl k d hd j c' hj
  rw[show k+1+j=(k+j)+1 by omega,List.getElem?_cons_succ];exact this
theorem qlk:∀(c:Code) (k:Nat) (d:Code),(qN c)[k]?=some d→∀(j:Nat) (c':Code),(qN d)[j]?=some c'→(qN c)[k+j]?=some c':=by
 intro c
 induction c with
 | seq a b iha ihb=>exact qja rfl (qn1 iha ihb)
 | cond x a b iha ihb=>exact qn1 iha ihb
 | block id c ih=>exact ih
 | scope c ih=>exact ih
 | loop c ih=>exact qja rfl ih
 | rangeFunc x ps a b iha ihb=>exact qja rfl (qn1 iha ihb)
 | _=>intro k d hd;simp[qN] at hd
theorem qqi{fn:Func}{k:Nat}(h:((qN (q1F fn))[k]?).isSome=true):(qN (q1F fn))[k]?=some (vg fn k):=by
 unfold vg
 cases h':(qN (q1F fn))[k]? with
 | none=>rw[h'] at h;cases h
 | some c=>rfl
def qvf(E:Env)(P:Program)(f:FuncId):Option (FuncId×Func×Nat)→Prop
 | none=>q3c E.iter f=true
 | some (fc,fnc,kc)=>P.funcs[fc]?=some fnc∧(qi7 E.iter f fc kc&&(q3c E.iter fc&&(fnc.body.isSome&&((qN (q1F fnc))[kc]?).isSome)))=true
theorem qk4{fn:Func}(h:fn.body.isSome=true):fn.body=some (q1F fn):=by
 unfold q1F
 cases hb:fn.body with
 | none=>rw[hb] at h;cases h
 | some c=>rfl
theorem qtS{E:Env}{P:Program}(hm:P.follows .mixedOrders=true)(h:EnvOK E P){f:FuncId}{y:Option (FuncId×Func×Nat)}(hy:qvf E P f y):(∀B,qQ P E.iter f B→CallOK E P (hdl E y) B)∧qbS E P (rgh E y):=by
 have hcall:=q9u hm h.tok h.specs h.loops h.bodies 9
 cases y with
 | none=>exact⟨fun B _=>hcall B,q6X hm h.tok h.specs h.loops h.bodies hcall⟩
 | some y=>
  obtain⟨fc,fnc,kc⟩:=y
  obtain⟨hf,hc⟩:=hy
  simp only[Bool.and_eq_true] at hc
  obtain⟨c1,c2,c3,c4⟩:=hc
  refine⟨fun B hB=>⟨(hcall B).fn,?_⟩,qdG E P⟩
  have hfi:qaj E.iter f=some (fc,kc):=by
   unfold qi7 at c1
   split at c1
   ·rename_i z hz
    simp only[Bool.and_eq_true] at c1
    rw[hz]
    obtain⟨z1,z2⟩:=z
    have e1:z1=fc:=Nat.eq_of_beq_eq_true c1.1
    have e2:z2=kc:=Nat.eq_of_beq_eq_true c1.2
    rw[e1,e2]
   ·cases c1
  obtain⟨_,hI⟩:=hB
  rw[hfi] at hI
  have hnode:=qqi c4
  have hsub:=qlk (q1F fnc) kc _ hnode
  intro args st r X a vargs hs ha hr
  simp only[hdl,qs3,qw5] at hr
  cases hn:vg fnc kc with
  | rangeFunc x ps c d=>
   rw[hn] at hr hnode hsub
   refine qnX hf (qk4 c3) hnode c2 (fun B X st act r hbo hs hr n=>?_) (fun B X st act r hbo hs hr n=>?_) hI args st r X a vargs hs ha hr
   ·refine q5K hm h.tok h.specs h.loops hf (qk4 c3) (fun B _=>hcall B) (q6e hm h.tok h.specs h.loops h.bodies) (q2M E) (q6X hm h.tok h.specs h.loops h.bodies hcall) c (kc+1) (fun j c' hj=>?_) hbo hs hr
    have:=hsub (1+j) c' (by simp only[qN];rw[Nat.add_comm,List.getElem?_cons_succ,List.getElem?_append_left (qk hj)];exact hj)
    rw[show kc+1+j=kc+(1+j) by omega];exact this
   ·refine q5K hm h.tok h.specs h.loops hf (qk4 c3) (fun B _=>hcall B) (q6e hm h.tok h.specs h.loops h.bodies) (q2M E) (q6X hm h.tok h.specs h.loops h.bodies hcall) d (kc+1+zj c) (fun j c' hj=>?_) hbo hs hr
    have:=hsub (1+zj c+j) c' (by
     simp only[qN]
     rw[show 1+zj c+j=(zj c+j)+1 by omega,List.getElem?_cons_succ,List.getElem?_append_right (by rw[jD];omega),jD]
     rw[show zj c+j-zj c=j by omega];exact hj)
    rw[show kc+1+zj c+j=kc+(1+zj c+j) by omega];exact this
  | _=>rw[hn] at hr;cases hr
theorem q38{E:Env}{P:Program}(hm:P.follows .mixedOrders=true)(h:EnvOK E P){f k:Nat}{fn:Func}(hf:P.funcs[f]?=some fn)
  (hlp:qlP (vg fn k)=true) {tin:Tmpl} {outs:List Out} {S:List PV→TR} {y:Option (FuncId×Func×Nat)} (hy:qvf E P f y)
  (hk:(tin.ok E.nimp&&outs.all fun o=>o.tm.ok E.nimp)=true)
  (hnk:(fn.body.isSome&&((qN (q1F fn))[k]?).isSome)=true)
  (hS:∀ps,S ps=qko E y f fn k tin outs ps):qC P E.glob E.nimp (qQ P E.iter f) (vg fn k) (qB tin outs (qw S)):=by
 simp only[Bool.and_eq_true] at hk hnk
 have hnode:=qqi hnk.2
 have hsub:∀j c',(qN (qcW (vg fn k)))[j]?=some c'→(qN (q1F fn))[k+1+j]?=some c':=by
  intro j c' hj
  have:=qlk (q1F fn) k _ hnode (1+j) c' (by
   cases hn:vg fn k<;>simp[hn,qlP] at hlp
   rw[hn] at hj
   simp only[qN,qcW] at hj ⊢
   rw[Nat.add_comm,List.getElem?_cons_succ];exact hj)
  rw[show k+1+j=k+(1+j) by omega];exact this
 have hc:vg fn k=.loop (qcW (vg fn k)):=by
  cases hn:vg fn k<;>simp[hn,qlP] at hlp
  rfl
 rw[hc]
 refine qqy (ev:=qdV E y f fn k) (S:=S) ?_ hk.1 hk.2 (fun ps r _ hr=>by rw[hS] at hr;exact hr) (fun ps=>⟨q9j,rfl⟩)
 intro n0 B X st a r hbo hs hr
 obtain⟨w1,w2⟩:=qtS hm h hy
 exact q5K hm h.tok h.specs h.loops hf (qk4 hnk.1) w1 (q6e hm h.tok h.specs h.loops h.bodies) (q2M E) w2 (qcW (vg fn k)) (k+1) hsub hbo hs hr
theorem qn2{E:Env}{P:Program}(hm:P.follows .mixedOrders=true)(h:EnvOK E P){f k:Nat}{fn:Func}(hf:P.funcs[f]?=some fn)
  (hlp:qlP (vg fn k)=true) {tin:Tmpl} {outs:List Out} {S:List PV→TR} (hni:q3c E.iter f=true)
  (hk:(tin.ok E.nimp&&outs.all fun o=>o.tm.ok E.nimp)=true)
  (hnk:(fn.body.isSome&&((qN (q1F fn))[k]?).isSome)=true)
  (hS:∀ps,S ps=q1D E f fn k tin outs ps):qC P E.glob E.nimp (qQ P E.iter f) (vg fn k) (qB tin outs (qw S)):=
 q38 hm h hf hlp (y:=none) hni hk hnk hS
theorem qbP{E:Env}{P:Program}(hm:P.follows .mixedOrders=true)(h:EnvOK E P){f:FuncId}{fn:Func}(hf:P.funcs[f]?=some fn)
  (hn:((fn.name == "runtime.NumGoroutine")||fn.body.isNone)=false) {fz:Bool} {i:FIn} {outs:List FOut} {T:List PV→TR}
  (hk:(Nat.beq i.h.length E.nimp&&i.h.all BP.isCells&&outs.all fun o=>q6i E.nimp o.h)=true)
  (hT:∀ps,T ps=qo E f fn fz i outs ps):zk P E.glob f (qa i outs T):=by
 simp only[Bool.or_eq_false_iff] at hn
 simp only[Bool.and_eq_true] at hk
 exact qqa hm h.tok h.specs h.loops h.bodies hf hn.1 hn.2 (n:=9) (fz:=fz) ⟨Nat.eq_of_beq_eq_true hk.1.1,hk.1.2⟩ hk.2 (fun ps r _ hr=>by rw[hT] at hr;exact hr)
theorem b1 {P:Program} {f:FuncId} {fn:Func} (h:P.funcs[f]?=some fn) (hn:(fn.name == "runtime.NumGoroutine")=false:=by kernel_rfl):∀x,x∈[(f,fn)]→P.funcs[x.1]?=some x.2∧(x.2.name == "runtime.NumGoroutine")=false:=alc (qrp h hn) aln
theorem bk {P:Program} {f:FuncId} {fn:Func} (h:P.funcs[f]?=some fn) (hn:(fn.name == "runtime.NumGoroutine")=false:=by kernel_rfl):P.funcs[(f,fn).1]?=some (f,fn).2∧((f,fn).2.name == "runtime.NumGoroutine")=false:=qrp h hn
theorem lk{P:Program}{gl:List (Nat×AV)}{ni:Nat}{f k:Nat}{fn:Func}{L:St→Tree (Ex×St)}(hf:P.funcs[f]?=some fn)
  {it:List (FuncId×FuncId×Nat)} (hg:qC P gl ni (qQ P it f) (vg fn k) L) (hb:fn.body.isSome=true:=by kernel_rfl) (hn:((qN (q1F fn))[k]?).isSome=true:=by kernel_rfl) :
  ∃fn' c c',P.funcs[((f,k),L).1.1]?=some fn'∧fn'.body=some c∧(qN c)[((f,k),L).1.2]?=some c'∧qC P gl ni (qQ P it ((f,k),L).1.1) c' ((f,k),L).2:=qtU hf hb hn hg
theorem sk(E:Env){P:Program}(hm:P.follows .mixedOrders=true)(ht:E.tt.map (fun x=>qkj P x.1)=E.tt.map (·.2))(hs:∀x,x∈E.spec→zk P E.glob x.1 x.2)(hl:E.loopsOK P)(hb:E.bodies P){f:FuncId}{fn:Func}(hf:P.funcs[f]?=some fn)
  {i:FIn} {outs:List FOut} {T:List PV→TR} (hT:∀ps,T ps=qo E f fn true i outs ps:=by exact fun _=>rfl) (hn:((fn.name == "runtime.NumGoroutine")||fn.body.isNone)=false:=by kernel_rfl)
  (hk:(Nat.beq i.h.length E.nimp&&i.h.all BP.isCells&&outs.all fun o=>q6i E.nimp o.h)=true:=by kernel_rfl) (hd:∀x,x∈E.dels→q6R P x.1 x.2:=by exact aln):zk P E.glob f (qa i outs T):=
 qbP hm ⟨q3l ht,⟨hs,hd⟩,hl,hb⟩ hf hn hk hT
theorem gk(E:Env){P:Program}(hm:P.follows .mixedOrders=true)(ht:E.tt.map (fun x=>qkj P x.1)=E.tt.map (·.2))(hs:∀x,x∈E.spec→zk P E.glob x.1 x.2)(hl:E.loopsOK P)(hb:E.bodies P){f k:Nat}{fn:Func}(hf:P.funcs[f]?=some fn)
  {tin:Tmpl} {outs:List Out} {S:List PV→TR} (hS:∀ps,S ps=q1D E f fn k tin outs ps:=by exact fun _=>rfl) (hlp:qlP (vg fn k)=true:=by kernel_rfl) (hni:q3c E.iter f=true:=by kernel_rfl)
  (hk:(tin.ok E.nimp&&outs.all fun o=>o.tm.ok E.nimp)=true:=by kernel_rfl) (hnk:(fn.body.isSome&&((qN (q1F fn))[k]?).isSome)=true:=by kernel_rfl) (hd:∀x,x∈E.dels→q6R P x.1 x.2:=by exact aln) :
  qC P E.glob E.nimp (qQ P E.iter f) (vg fn k) (qB tin outs (qw S)):=
 qn2 hm ⟨q3l ht,⟨hs,hd⟩,hl,hb⟩ hf hlp hni hk hnk hS
end Go.Eng

namespace Go.Eng
open Go.Shelf Go.RowKit Go.Proofs Go.Sort
theorem qeF(w:World)(q:Nat)(os:Array Obj):Below w.heap.size w (grow (w.drewN q) os):=
 ⟨rfl,rfl,rfl,by simp[grow],fun i hi=>by
  show ((w.drewN q).heap++os)[i]?=_
  rw[Array.getElem?_append_left (by show i<w.heap.size;omega)]
  rfl⟩
theorem qkN(w:World)(e:TypeId)(s:ByteArray):Below w.heap.size w (Lib.bytesWorld w e s):=
 ⟨rfl,rfl,rfl,by rw[Lib.bytesWorld_size];omega,fun k hk=>Lib.bytesWorld_at_old w e s k (by omega)⟩
theorem HSim.grow{B:Base}{X:Ctx}(hs:HSim B X){w':World}(hb:Below X.w.heap.size X.w w'):HSim B { X with w:=w' }∧Ext X { X with w:=w' }:=by
 have hold:∀n (o:Obj),X.w.heap[n]?=some o→w'.heap[n]?=some o:=fun n o h=>(hb.block n (Array.getElem?_eq_some_iff.1 h).1).trans h
 have hx:Ext X { X with w:=w' }:=Move.of (fun _ h=>h) (fun a ha=>World.cell?_of_block (hb.block _ (hs.ltM _ ha))) (fun b b' hb' h=>by
  cases h
  exact⟨hb',rfl,fun _ _ h=>h,fun _ _ _ n _ c T fr h=>⟨c,T,fr,hold n _ h,rfl⟩⟩)
 refine⟨⟨fun b k hk=>?_,hs.inj,hs.notM,fun n hn=>Nat.lt_of_lt_of_le (hs.ltM n hn) hb.size,hs.M0,hs.newM,hb.os.trans hs.os,hb.tape.trans hs.tape,hb.output.trans hs.output,Nat.le_trans hs.size hb.size,
  fun n hn hni=>?_,hs.imps,hs.impc,hs.fresh,fun p hp=>?_⟩,hx⟩
 ·by_cases hd:k=.dead
  ·subst hd;trivial
  ·exact vM.ext hx rfl (fun n hn=>hb.block n (hs.lt hk hd hn)) (hs.blk b k hk)
 ·show w'.heap[n]?=_
  rw[hb.block n (Nat.lt_of_lt_of_le hn hs.size)]
  exact hs.frame n hn hni
 ·obtain⟨q1,q2,q3⟩:=hs.kept p hp
  exact⟨hold _ _ q1,q2,q3⟩
theorem qaE{P:Program}{gl:List (Nat×AV)}{f:FuncId}{i:FIn}{o:FOut}{T:List PV→TR}(he:qcN P f)(hi:i.h.all BP.isCells=true)
  (h:∀(B:Base) (X:Ctx) (ps:List PV) (j:Nat) (qs:List PV) (vargs:List Value),HSim B X→q7y gl X→X.h=(i.make ps).2→RepL X (i.make ps).1 vargs→ps.map PV.kind=i.kinds→(T ps).run=some (j,qs) →
   j=0∧qs.map PV.kind=o.kinds∧(o.make qs).2=(i.make ps).2∧Calls P f vargs.toArray X.w fun e w'=>∃v,e=.returned v∧Below X.w.heap.size X.w w'∧Rep X (o.make qs).1 v) :
  zk P gl f (qa i [o] T):=by
 refine⟨he,fun B X args vargs r hs hen hgl ha hr=>?_⟩
 obtain⟨ps,j,qs,h1,h2,h3⟩:=qkS hr
 unfold FIn.take at h1
 obtain⟨x,y,g1,g2,rfl⟩:=q0M h1
 obtain⟨a1,a2,a3⟩:=AP.takeL_ok (X:=X) _ _ x y g1
 obtain⟨b1,b2,b3,b4,b5⟩:=BP.takeL_ok (X:=X) _ _ y [] g2
 rw[List.append_nil] at b3 b5
 have himp:B.imps.length=X.h.length:=by rw[hen.imps];simp
 obtain⟨d1,d2⟩:=q6Y hs (h':=(BP.makeL i.h y).1) b3 (fun b k' hb=>by obtain⟨k0,e1,e2,_⟩:=b5 b k' hb;exact⟨k0,e1,e2⟩)
  (fun b hb k' hk'=>by
   obtain⟨k0,_,_,e3⟩:=b5 b k' hk'
   have hlt:b<i.h.length:=by omega
   exact e3 i.h[b] (List.getElem?_eq_getElem hlt) (List.all_eq_true.1 hi _ (List.getElem_mem hlt)))
 have hkd:(x++y).map PV.kind=i.kinds:=by simp[FIn.kinds,a2,b2]
 have hgl1:q7y gl ({ X with h:=(BP.makeL i.h y).1 }:Ctx):=fun z hz=>⟨(hgl z hz).1,(hgl z hz).2.move d2.M d2.w ((hgl z hz).2.1.ext d2)⟩
 have hmk:i.make (x++y)=((AP.makeL i.args (x++y)).1,(BP.makeL i.h y).1):=by simp only[FIn.make,a1]
 obtain⟨k1,k2,k3,k4⟩:=h B _ (x++y) j qs vargs d1 hgl1 (by rw[hmk]) (by rw[hmk];exact(a3 _ ha).ext d2) hkd h2
 subst k1
 refine k4.mono fun e w' ⟨v,e1,e2,e3⟩=>?_
 obtain⟨m1,m2⟩:=d1.grow e2
 have hre:=qiW h2 [o] 0 o r (Nat.zero_le _) rfl k2 h3
 subst hre
 exact⟨v,_,e1,rfl,e3.ext m2,by rw[k3,hmk],m1,rfl⟩
theorem qo5{X:Ctx}{s:List UInt8}{vs:List Value}(h:RepL X [.str s] vs):vs=[.string ⟨s.toArray⟩]:=by
 cases h with
 | cons h t=>cases h;cases t;rfl
theorem qo1{X:Ctx}{k:IntKind}{n:Int}{vs:List Value}(h:RepL X [.int k n] vs):vs=[.int k n]:=by
 cases h with
 | cons h t=>cases h;cases t;rfl
theorem qgQ{X:Ctx}{s t:List UInt8}{vs:List Value}(h:RepL X [.str s,.str t] vs):vs=[.string ⟨s.toArray⟩,.string ⟨t.toArray⟩]:=by
 cases h with
 | cons h t=>cases h;rw[qo5 t]
theorem qus{ps:List PV}(h:ps.map PV.kind=[.s]):∃s,ps=[.s s]:=by
 match ps,h with
 | [.s s],_=>exact⟨s,rfl⟩
theorem qtZ{ps:List PV}(h:ps.map PV.kind=[.i]):∃s,ps=[.i s]:=by
 match ps,h with
 | [.i s],_=>exact⟨s,rfl⟩
theorem qj2{ps:List PV}(h:ps.map PV.kind=[.s,.s]):∃s t,ps=[.s s,.s t]:=by
 match ps,h with
 | [.s s,.s t],_=>exact⟨s,t,rfl⟩
def qkq:List PV→TR
 | [.s s,.s [c]]=>.leaf (0,[.i (Lib.indexByte s c)])
 | _=>.fail
theorem qmt{P:Program}{ρ:Ren}(L:Lays.n219 P ρ)(he:qcN P (ρ.f 219)){gl:List (Nat×AV)} :
  zk P gl (ρ.f 219) (qa { args:=[.str,.str],h:=[] } [{ res:=.int .i64,h:=[] }] qkq):=
 qaE he rfl fun B X ps j qs vargs hs hg hh ha hk hT=>by
  obtain⟨s,t,rfl⟩:=qj2 hk
  unfold qkq at hT
  split at hT
  ·rename_i s' c hps
   simp only[List.cons.injEq,PV.s.injEq,and_true] at hps
   obtain⟨rfl,rfl⟩:=hps
   cases hT
   have:=qgQ ha
   subst this
   refine⟨rfl,rfl,rfl,(Any.stringslite_Index_one L ⟨s.toArray⟩ c X.w).mono fun e w' ⟨h1,h2⟩=>?_⟩
   subst h2
   exact⟨_,h1,Below.refl _ _,.int _ _⟩
  ·cases hT
def qfy:List PV→TR
 | [.s s,.s t]=>.leaf (0,[.i (Lib.compareBytes s t)])
 | _=>.fail
theorem qjL{P:Program}{ρ:Ren}(L:Lays.n106 P ρ)(he:qcN P (ρ.f 106)){gl:List (Nat×AV)} :
  zk P gl (ρ.f 106) (qa { args:=[.str,.str],h:=[] } [{ res:=.int .i64,h:=[] }] qfy):=
 qaE he rfl fun B X ps j qs vargs hs hg hh ha hk hT=>by
  obtain⟨s,t,rfl⟩:=qj2 hk
  cases hT
  have:=qgQ ha
  subst this
  refine⟨rfl,rfl,rfl,(Any.strings_Compare L ⟨s.toArray⟩ ⟨t.toArray⟩ X.w).mono fun e w' ⟨h1,h2⟩=>?_⟩
  subst h2
  exact⟨_,h1,Below.refl _ _,.int _ _⟩
def qqo:List PV→TR
 | [.s s,.s t]=>if s.length≤9223372036854775807∧t.length<4294967281∧t.all (fun b=>decide (b.toNat<128))=true then .leaf (0,[.s (Lib.trimS s t)]) else .fail
 | _=>.fail
theorem qoV{P:Program}{ρ:Ren}(L:Lays.n160 P ρ)(he:qcN P (ρ.f 160))(h116:(P.info? (ρ.t 116)).map (fun i=>(i.zero,i.size))=some (some (.agg (Array.replicate 256 (.bool false))),256)){gl:List (Nat×AV)} :
  zk P gl (ρ.f 160) (qa { args:=[.str,.str],h:=[] } [{ res:=.str,h:=[] }] qqo):=
 qaE he rfl fun B X ps j qs vargs hs hg hh ha hk hT=>by
  obtain⟨s,t,rfl⟩:=qj2 hk
  simp only[qqo] at hT
  split at hT
  ·rename_i hc
   cases hT
   have:=qgQ ha
   subst this
   refine⟨rfl,rfl,rfl,(Any.strings_Trim_laid L h116 ⟨s.toArray⟩ ⟨t.toArray⟩ X.w (by simpa[ByteArray.size] using hc.1) (by simpa[ByteArray.size] using hc.2.1) (fun j b hj=>?_)).mono fun e w' ⟨h1,h2⟩=>⟨_,h1,h2,.str _⟩⟩
   have h3:=hc.2.2
   rw[List.all_eq_true] at h3
   simpa using h3 b (List.mem_of_getElem? hj)
  ·cases hT
def qtu:R:=[Lib.pow10Tab.map U.i]
def qqJ:List PV→TR
 | [.i n]=>if -9223372036854775808≤n∧n≤9223372036854775807 then .leaf (0,[.s (Lib.itoa n)]) else .fail
 | _=>.fail
theorem qh9{P:Program}{X:Ctx}{g:Nat}{k:IntKind}{zs:List Int}{name:String}(hn:P.globalNamed name=some g)(hz:zs≠[])
  (h:qsL X (g,.eptr (zs.map fun _=>.int k) [zs.map U.i] 0 0)):Lib.TabIs P X.w name k zs:=by
 obtain⟨h1,h2,h3⟩:=h
 simp only at h1 h2 h3
 have hcell:∀j (hj:j<zs.length),X.w.cell? ⟨g,j,none⟩=some (.int k zs[j]):=by
  intro j hj
  generalize hv:(Value.pointer (some ⟨g,0,none⟩))=vv at h1
  cases h1 with
  | eptr _ _ _ _ a hsp h0 hl hr=>
   simp only[Value.pointer.injEq,Option.some.injEq,Addr.mk.injEq] at hv
   obtain⟨v1,v2,_⟩:=hv
   obtain⟨hM,v,e1,e2⟩:=hr 0 j (by simpa using hj) (by simp)
   have ho:a.off=0:=by omega
   have e1':X.w.cell? ⟨g,j,none⟩=some v:=by
    rw[Nat.zero_mul,Nat.add_zero,ho,Nat.zero_add,←v1] at e1
    exact e1
   rw[e1']
   have e2':RepU X.w X.M (.int k) (U.i zs[j]) v:=by
    simpa[zZ,List.getD_eq_getElem?_getD,hj] using e2
   cases e2'
   rfl
 unfold Lib.TabIs World.var?
 rw[hn]
 simp only[Option.bind_some]
 have h0:=hcell 0 (List.length_pos_iff.2 hz)
 unfold World.cell? at h0
 simp only at h0
 split at h0
 ·rename_i cs T fr hheap
  rw[hheap]
  simp only
  congr 1
  have hsz:cs.size≤zs.length:=by
   have h4:X.w.cell? ⟨g,zs.length,none⟩=none:=by
    simpa[AV.span] using h3
   unfold World.cell? at h4
   simp only[hheap] at h4
   simpa using h4
  apply Array.ext
  ·simp
   rcases Nat.lt_or_ge cs.size zs.length with hlt|hge
   ·have:=hcell cs.size hlt
    unfold World.cell? at this
    simp[hheap] at this
   ·omega
  ·intro j hj hj2
   have hjz:j<zs.length:=by omega
   have:=hcell j hjz
   unfold World.cell? at this
   simp only[hheap] at this
   simp[hj] at this
   simp[this]
 ·cases h0
theorem qpn {P:Program} {ρ:Ren} (L:LaysM.n171 P ρ) (he:qcN P (ρ.f 171)) {gl:List (Nat×AV)} {g:Nat} (hn:P.globalNamed "internal/strconv.uint64pow10" = some g)
  (hg:(g,AV.eptr (Lib.pow10Tab.map fun _=>.int .u64) qtu 0 0)∈gl) :
  zk P gl (ρ.f 171) (qa { args:=[.int .i64],h:=[] } [{ res:=.str,h:=[] }] qqJ):=
 qaE he rfl fun B X ps j qs vargs hs hgl hh ha hk hT=>by
  obtain⟨n,rfl⟩:=qtZ hk
  simp only[qqJ] at hT
  split at hT
  ·rename_i hc
   cases hT
   have:=qo1 ha
   subst this
   refine⟨rfl,rfl,rfl,(Any.strconv_Itoa L n hc.1 hc.2 X.w (qh9 hn (by decide) (hgl _ hg).2)).mono fun e w' ⟨h1,k,os,h2⟩=>⟨_,h1,?_,.str _⟩⟩
   subst h2
   exact qeF _ _ _
  ·cases hT
def qqB:List PV→TR
 | [.s s]=>if s.length≤18 then (match Lib.atoi s with|some n=>.leaf (0,[.i n])|none=>.fail) else .fail
 | _=>.fail
theorem qpL{P:Program}{ρ:Ren}(L:Lays.n172 P ρ)(he:qcN P (ρ.f 172)){gl:List (Nat×AV)} :
  zk P gl (ρ.f 172) (qa { args:=[.str],h:=[] } [{ res:=.tuple [.int .i64,.any],h:=[] }] qqB):=
 qaE he rfl fun B X ps j qs vargs hs hg hh ha hk hT=>by
  obtain⟨s,rfl⟩:=qus hk
  simp only[qqB] at hT
  split at hT
  ·rename_i hc
   split at hT
   ·rename_i n hn
    cases hT
    have:=qo5 ha
    subst this
    refine⟨rfl,rfl,rfl,(Any.strconv_Atoi L ⟨s.toArray⟩ n (by simpa[ByteArray.size] using hc) (by simpa using hn) X.w).mono fun e w' ⟨h1,t,h2⟩=>⟨_,h1,?_,.tuple _ _ (.cons (.int _ _) (.cons (.undef _) .nil))⟩⟩
    subst h2
    exact qkN _ _ _
   ·cases hT
  ·cases hT
def qrg(s:List UInt8):List UInt8:=qlH (qdF [48,48,48,48,48,48,48,48,48] (zt s) 9) s
def qcL(w:R):Nat→List UInt8
 | 0=>[]
 | i+1=>qrg (Lib.itoa (cI w i 0))++qcL w i
def qru(b:Bool)(n:Int)(w:R):List UInt8:=if n=0 then [48] else (if b then [45] else [])++Lib.itoa (cI w (n-1) 0)++qcL w (n-1).toNat
def qk1(n:Int)(w:R):Bool:=decide (0≤n)&&decide (n≤232)&&(List.range n.toNat).all fun i=>decide (0≤cI w i 0∧cI w i 0<1000000000)
def qqR:List PV→TR
 | [.b b,.i n,.r w]=>if qk1 n w then .leaf (0,[.s (qru b n w),.b b,.i n,.r w]) else .fail
 | _=>.fail
end Go.Eng

namespace Go.Proofs
open Go.Shelf
def Tryz.lays219_ren:Go.Shelf.Ren:=⟨fun|219=>199|217=>221|225=>222|224=>223|267=>224|266=>242|314=>243|n=>n,fun|9=>9|3=>3|4=>4|5=>5|46=>268|146=>286|51=>280|n=>n,fun|1=>1|n=>n⟩
theorem Tryz.lays219:Go.Proofs.Lays.n219 Tryz.prog Tryz.lays219_ren:={
 mixed:=by kernel_rfl
 f217:=Tryz.func221.trans (congrArg some (by kernel_rfl))
 f219:=Tryz.func199.trans (congrArg some (by kernel_rfl))
 f224:=Tryz.func223.trans (congrArg some (by kernel_rfl))
 f225:=Tryz.func222.trans (congrArg some (by kernel_rfl))
 f266:=Tryz.func242.trans (congrArg some (by kernel_rfl))
 f267:=Tryz.func224.trans (congrArg some (by kernel_rfl))
 f314:=Tryz.func243.trans (congrArg some (by kernel_rfl))
 t3:=Tryz.underlying3
 a3:=Tryz.isAgg3
 z3:=Tryz.sizeOf3
 v3:=Tryz.zeroValue3
 t4:=Tryz.underlying4
 a4:=Tryz.isAgg4
 z4:=Tryz.sizeOf4
 v4:=Tryz.zeroValue4
 t5:=Tryz.underlying5
 a5:=Tryz.isAgg5
 z5:=Tryz.sizeOf5
 v5:=Tryz.zeroValue5
 t9:=Tryz.underlying9
 a9:=Tryz.isAgg9
 z9:=Tryz.sizeOf9
 v9:=Tryz.zeroValue9
 t46:=Tryz.underlying268
 a46:=Tryz.isAgg268
 z46:=Tryz.sizeOf268
 v46:=Tryz.zeroValue268
 t51:=Tryz.underlying280
 a51:=Tryz.isAgg280
 z51:=Tryz.sizeOf280
 v51:=Tryz.zeroValue280
 t146:=Tryz.underlying286
 a146:=Tryz.isAgg286
 z146:=Tryz.sizeOf286
 v146:=Tryz.zeroValue286
 g1:=by kernel_rfl }
def Tryz.lays106_ren:Go.Shelf.Ren:=⟨fun|106=>176|213=>204|265=>228|n=>n,fun|9=>9|3=>3|n=>n,fun|n=>n⟩
theorem Tryz.lays106:Go.Proofs.Lays.n106 Tryz.prog Tryz.lays106_ren:={
 mixed:=by kernel_rfl
 f106:=Tryz.func176.trans (congrArg some (by kernel_rfl))
 f213:=Tryz.func204.trans (congrArg some (by kernel_rfl))
 f265:=Tryz.func228.trans (congrArg some (by kernel_rfl))
 t3:=Tryz.underlying3
 a3:=Tryz.isAgg3
 z3:=Tryz.sizeOf3
 v3:=Tryz.zeroValue3
 t9:=Tryz.underlying9
 a9:=Tryz.isAgg9
 z9:=Tryz.sizeOf9
 v9:=Tryz.zeroValue9 }
def Tryz.lays160_ren:Go.Shelf.Ren:=⟨fun|160=>139|232=>170|231=>169|227=>171|234=>173|233=>172|236=>175|235=>174|228=>200|271=>203|151=>202|197=>201|120=>227|152=>226|260=>225|137=>244|119=>245|224=>223|225=>222|217=>221|266=>242|n=>n,fun|9=>9|4=>4|3=>3|5=>5|117=>225|116=>224|0=>0|124=>228|21=>21|105=>251|46=>268|119=>288|139=>291|138=>290|n=>n,fun|3=>3|4=>4|n=>n⟩
theorem Tryz.lays160:Go.Proofs.Lays.n160 Tryz.prog Tryz.lays160_ren:={
 mixed:=by kernel_rfl
 f119:=Tryz.func245.trans (congrArg some (by kernel_rfl))
 f120:=Tryz.func227.trans (congrArg some (by kernel_rfl))
 f137:=Tryz.func244.trans (congrArg some (by kernel_rfl))
 f151:=Tryz.func202.trans (congrArg some (by kernel_rfl))
 f152:=Tryz.func226.trans (congrArg some (by kernel_rfl))
 f160:=Tryz.func139.trans (congrArg some (by kernel_rfl))
 f197:=Tryz.func201.trans (congrArg some (by kernel_rfl))
 f217:=Tryz.func221.trans (congrArg some (by kernel_rfl))
 f224:=Tryz.func223.trans (congrArg some (by kernel_rfl))
 f225:=Tryz.func222.trans (congrArg some (by kernel_rfl))
 f227:=Tryz.func171.trans (congrArg some (by kernel_rfl))
 f228:=Tryz.func200.trans (congrArg some (by kernel_rfl))
 f231:=Tryz.func169.trans (congrArg some (by kernel_rfl))
 f232:=Tryz.func170.trans (congrArg some (by kernel_rfl))
 f233:=Tryz.func172.trans (congrArg some (by kernel_rfl))
 f234:=Tryz.func173.trans (congrArg some (by kernel_rfl))
 f235:=Tryz.func174.trans (congrArg some (by kernel_rfl))
 f236:=Tryz.func175.trans (congrArg some (by kernel_rfl))
 f260:=Tryz.func225.trans (congrArg some (by kernel_rfl))
 f266:=Tryz.func242.trans (congrArg some (by kernel_rfl))
 f271:=Tryz.func203.trans (congrArg some (by kernel_rfl))
 t0:=Tryz.underlying0
 a0:=Tryz.isAgg0
 z0:=Tryz.sizeOf0
 v0:=Tryz.zeroValue0
 t3:=Tryz.underlying3
 a3:=Tryz.isAgg3
 z3:=Tryz.sizeOf3
 v3:=Tryz.zeroValue3
 t4:=Tryz.underlying4
 a4:=Tryz.isAgg4
 z4:=Tryz.sizeOf4
 v4:=Tryz.zeroValue4
 t5:=Tryz.underlying5
 a5:=Tryz.isAgg5
 z5:=Tryz.sizeOf5
 v5:=Tryz.zeroValue5
 t9:=Tryz.underlying9
 a9:=Tryz.isAgg9
 z9:=Tryz.sizeOf9
 v9:=Tryz.zeroValue9
 t21:=Tryz.underlying21
 a21:=Tryz.isAgg21
 z21:=Tryz.sizeOf21
 v21:=Tryz.zeroValue21
 t46:=Tryz.underlying268
 a46:=Tryz.isAgg268
 z46:=Tryz.sizeOf268
 v46:=Tryz.zeroValue268
 t105:=Tryz.underlying251
 a105:=Tryz.isAgg251
 z105:=Tryz.sizeOf251
 v105:=Tryz.zeroValue251
 t116:=Tryz.underlying224
 a116:=Tryz.isAgg224
 z116:=Tryz.sizeOf224
 t117:=Tryz.underlying225
 a117:=Tryz.isAgg225
 z117:=Tryz.sizeOf225
 v117:=Tryz.zeroValue225
 t119:=Tryz.underlying288
 a119:=Tryz.isAgg288
 z119:=Tryz.sizeOf288
 t124:=Tryz.underlying228
 a124:=Tryz.isAgg228
 z124:=Tryz.sizeOf228
 v124:=Tryz.zeroValue228
 t138:=Tryz.underlying290
 a138:=Tryz.isAgg290
 z138:=Tryz.sizeOf290
 v138:=Tryz.zeroValue290
 t139:=Tryz.underlying291
 a139:=Tryz.isAgg291
 z139:=Tryz.sizeOf291
 v139:=Tryz.zeroValue291
 g3:=by kernel_rfl
 g4:=by kernel_rfl }
def Tryz.lays172_ren:Go.Shelf.Ren:=⟨fun|172=>177|244=>205|245=>206|247=>229|279=>230|280=>231|281=>232|282=>233|287=>246|316=>247|171=>122|205=>248|321=>251|322=>252|243=>151|246=>190|283=>211|284=>212|285=>213|286=>214|129=>236|317=>235|318=>237|319=>238|320=>239|337=>249|338=>250|n=>n,fun|9=>9|3=>3|75=>230|76=>231|4=>4|5=>5|167=>270|37=>238|0=>0|85=>271|2=>2|168=>273|53=>259|175=>293|46=>268|210=>296|127=>256|145=>303|143=>301|21=>21|171=>258|173=>262|212=>279|51=>280|20=>20|213=>281|232=>304|233=>305|80=>242|n=>n,fun|15=>5|16=>6|17=>2|18=>7|19=>8|n=>n⟩
theorem Tryz.lays172:Go.Proofs.Lays.n172 Tryz.prog Tryz.lays172_ren:={
 mixed:=by kernel_rfl
 f129:=Tryz.func236.trans (congrArg some (by kernel_rfl))
 f171:=Tryz.func122.trans (congrArg some (by kernel_rfl))
 f172:=Tryz.func177.trans (congrArg some (by kernel_rfl))
 f205:=Tryz.func248.trans (congrArg some (by kernel_rfl))
 f243:=Tryz.func151.trans (congrArg some (by kernel_rfl))
 f244:=Tryz.func205.trans (congrArg some (by kernel_rfl))
 f245:=Tryz.func206.trans (congrArg some (by kernel_rfl))
 f246:=Tryz.func190.trans (congrArg some (by kernel_rfl))
 f247:=Tryz.func229.trans (congrArg some (by kernel_rfl))
 f279:=Tryz.func230.trans (congrArg some (by kernel_rfl))
 f280:=Tryz.func231.trans (congrArg some (by kernel_rfl))
 f281:=Tryz.func232.trans (congrArg some (by kernel_rfl))
 f282:=Tryz.func233.trans (congrArg some (by kernel_rfl))
 f283:=Tryz.func211.trans (congrArg some (by kernel_rfl))
 f284:=Tryz.func212.trans (congrArg some (by kernel_rfl))
 f285:=Tryz.func213.trans (congrArg some (by kernel_rfl))
 f286:=Tryz.func214.trans (congrArg some (by kernel_rfl))
 f287:=Tryz.func246.trans (congrArg some (by kernel_rfl))
 f316:=Tryz.func247.trans (congrArg some (by kernel_rfl))
 f317:=Tryz.func235.trans (congrArg some (by kernel_rfl))
 f318:=Tryz.func237.trans (congrArg some (by kernel_rfl))
 f319:=Tryz.func238.trans (congrArg some (by kernel_rfl))
 f320:=Tryz.func239.trans (congrArg some (by kernel_rfl))
 f321:=Tryz.func251.trans (congrArg some (by kernel_rfl))
 f322:=Tryz.func252.trans (congrArg some (by kernel_rfl))
 f337:=Tryz.func249.trans (congrArg some (by kernel_rfl))
 f338:=Tryz.func250.trans (congrArg some (by kernel_rfl))
 t0:=Tryz.underlying0
 a0:=Tryz.isAgg0
 z0:=Tryz.sizeOf0
 v0:=Tryz.zeroValue0
 t2:=Tryz.underlying2
 a2:=Tryz.isAgg2
 z2:=Tryz.sizeOf2
 v2:=Tryz.zeroValue2
 t3:=Tryz.underlying3
 a3:=Tryz.isAgg3
 z3:=Tryz.sizeOf3
 v3:=Tryz.zeroValue3
 t4:=Tryz.underlying4
 a4:=Tryz.isAgg4
 z4:=Tryz.sizeOf4
 v4:=Tryz.zeroValue4
 t5:=Tryz.underlying5
 a5:=Tryz.isAgg5
 z5:=Tryz.sizeOf5
 v5:=Tryz.zeroValue5
 t9:=Tryz.underlying9
 a9:=Tryz.isAgg9
 z9:=Tryz.sizeOf9
 v9:=Tryz.zeroValue9
 t20:=Tryz.underlying20
 a20:=Tryz.isAgg20
 z20:=Tryz.sizeOf20
 v20:=Tryz.zeroValue20
 t21:=Tryz.underlying21
 a21:=Tryz.isAgg21
 z21:=Tryz.sizeOf21
 v21:=Tryz.zeroValue21
 t37:=Tryz.underlying238
 a37:=Tryz.isAgg238
 z37:=Tryz.sizeOf238
 v37:=Tryz.zeroValue238
 t46:=Tryz.underlying268
 a46:=Tryz.isAgg268
 z46:=Tryz.sizeOf268
 v46:=Tryz.zeroValue268
 t51:=Tryz.underlying280
 a51:=Tryz.isAgg280
 z51:=Tryz.sizeOf280
 v51:=Tryz.zeroValue280
 t53:=Tryz.underlying259
 a53:=Tryz.isAgg259
 z53:=Tryz.sizeOf259
 v53:=Tryz.zeroValue259
 t75:=Tryz.underlying230
 a75:=Tryz.isAgg230
 z75:=Tryz.sizeOf230
 v75:=Tryz.zeroValue230
 t76:=Tryz.underlying231
 a76:=Tryz.isAgg231
 z76:=Tryz.sizeOf231
 v76:=Tryz.zeroValue231
 t85:=Tryz.underlying271
 a85:=Tryz.isAgg271
 z85:=Tryz.sizeOf271
 v85:=Tryz.zeroValue271
 t127:=Tryz.underlying256
 a127:=Tryz.isAgg256
 z127:=Tryz.sizeOf256
 v127:=Tryz.zeroValue256
 t143:=Tryz.underlying301
 a143:=Tryz.isAgg301
 z143:=Tryz.sizeOf301
 v143:=Tryz.zeroValue301
 t145:=Tryz.underlying303
 a145:=Tryz.isAgg303
 z145:=Tryz.sizeOf303
 v145:=Tryz.zeroValue303
 t167:=Tryz.underlying270
 a167:=Tryz.isAgg270
 z167:=Tryz.sizeOf270
 v167:=Tryz.zeroValue270
 t168:=Tryz.underlying273
 a168:=Tryz.isAgg273
 z168:=Tryz.sizeOf273
 v168:=Tryz.zeroValue273
 t171:=Tryz.underlying258
 a171:=Tryz.isAgg258
 z171:=Tryz.sizeOf258
 v171:=Tryz.zeroValue258
 t173:=Tryz.underlying262
 a173:=Tryz.isAgg262
 z173:=Tryz.sizeOf262
 v173:=Tryz.zeroValue262
 t175:=Tryz.underlying293
 a175:=Tryz.isAgg293
 z175:=Tryz.sizeOf293
 v175:=Tryz.zeroValue293
 t210:=Tryz.underlying296
 a210:=Tryz.isAgg296
 z210:=Tryz.sizeOf296
 v210:=Tryz.zeroValue296
 t212:=Tryz.underlying279
 a212:=Tryz.isAgg279
 z212:=Tryz.sizeOf279
 v212:=Tryz.zeroValue279
 t213:=Tryz.underlying281
 a213:=Tryz.isAgg281
 z213:=Tryz.sizeOf281
 t232:=Tryz.underlying304
 a232:=Tryz.isAgg304
 z232:=Tryz.sizeOf304
 v232:=Tryz.zeroValue304
 t233:=Tryz.underlying305
 a233:=Tryz.isAgg305
 z233:=Tryz.sizeOf305
 v233:=Tryz.zeroValue305
 g15:=by kernel_rfl
 g16:=by kernel_rfl
 g17:=by kernel_rfl
 g18:=by kernel_rfl
 g19:=by kernel_rfl }
def Tryz.lays169_ren:Go.Shelf.Ren:=⟨fun|169=>184|n=>n,fun|70=>237|9=>9|0=>0|72=>240|37=>238|127=>256|3=>3|5=>5|n=>n,fun|n=>n⟩
theorem Tryz.lays169:Go.Proofs.Lays.n169 Tryz.prog Tryz.lays169_ren:={
 mixed:=by kernel_rfl
 f169:=Tryz.func184.trans (congrArg some (by kernel_rfl))
 t0:=Tryz.underlying0
 a0:=Tryz.isAgg0
 z0:=Tryz.sizeOf0
 v0:=Tryz.zeroValue0
 t3:=Tryz.underlying3
 a3:=Tryz.isAgg3
 z3:=Tryz.sizeOf3
 v3:=Tryz.zeroValue3
 t9:=Tryz.underlying9
 a9:=Tryz.isAgg9
 z9:=Tryz.sizeOf9
 v9:=Tryz.zeroValue9
 t37:=Tryz.underlying238
 a37:=Tryz.isAgg238
 z37:=Tryz.sizeOf238
 v37:=Tryz.zeroValue238
 t70:=Tryz.underlying237
 a70:=Tryz.isAgg237
 z70:=Tryz.sizeOf237
 v70:=Tryz.zeroValue237
 t72:=Tryz.underlying240
 a72:=Tryz.isAgg240
 z72:=Tryz.sizeOf240
 v72:=Tryz.zeroValue240
 t127:=Tryz.underlying256
 a127:=Tryz.isAgg256
 z127:=Tryz.sizeOf256
 v127:=Tryz.zeroValue256 }
def Tryz.laysM171_ren:Go.Shelf.Ren:=⟨fun|171=>122|243=>151|246=>190|283=>211|284=>212|285=>213|286=>214|129=>236|317=>235|318=>237|319=>238|320=>239|337=>249|338=>250|n=>n,fun|3=>3|9=>9|2=>2|4=>4|171=>258|0=>0|53=>259|37=>238|5=>5|173=>262|212=>279|51=>280|20=>20|213=>281|46=>268|232=>304|233=>305|n=>n,fun|17=>2|18=>7|19=>8|n=>n⟩
theorem Tryz.laysM171:Go.Proofs.LaysM.n171 Tryz.prog Tryz.laysM171_ren:={
 mixed:=by kernel_rfl
 f129:=Tryz.func236.trans (congrArg some (by kernel_rfl))
 f171:=Tryz.func122.trans (congrArg some (by kernel_rfl))
 f243:=Tryz.func151.trans (congrArg some (by kernel_rfl))
 f246:=Tryz.func190.trans (congrArg some (by kernel_rfl))
 f283:=Tryz.func211.trans (congrArg some (by kernel_rfl))
 f284:=Tryz.func212.trans (congrArg some (by kernel_rfl))
 f285:=Tryz.func213.trans (congrArg some (by kernel_rfl))
 f286:=Tryz.func214.trans (congrArg some (by kernel_rfl))
 f317:=Tryz.func235.trans (congrArg some (by kernel_rfl))
 f318:=Tryz.func237.trans (congrArg some (by kernel_rfl))
 f319:=Tryz.func238.trans (congrArg some (by kernel_rfl))
 f320:=Tryz.func239.trans (congrArg some (by kernel_rfl))
 f337:=Tryz.func249.trans (congrArg some (by kernel_rfl))
 f338:=Tryz.func250.trans (congrArg some (by kernel_rfl))
 t0:=Tryz.underlying0
 a0:=Tryz.isAgg0
 z0:=Tryz.sizeOf0
 v0:=Tryz.zeroValue0
 t2:=Tryz.underlying2
 a2:=Tryz.isAgg2
 z2:=Tryz.sizeOf2
 v2:=Tryz.zeroValue2
 t3:=Tryz.underlying3
 a3:=Tryz.isAgg3
 z3:=Tryz.sizeOf3
 v3:=Tryz.zeroValue3
 t4:=Tryz.underlying4
 a4:=Tryz.isAgg4
 z4:=Tryz.sizeOf4
 v4:=Tryz.zeroValue4
 t5:=Tryz.underlying5
 a5:=Tryz.isAgg5
 z5:=Tryz.sizeOf5
 v5:=Tryz.zeroValue5
 t9:=Tryz.underlying9
 a9:=Tryz.isAgg9
 z9:=Tryz.sizeOf9
 v9:=Tryz.zeroValue9
 t20:=Tryz.underlying20
 a20:=Tryz.isAgg20
 z20:=Tryz.sizeOf20
 v20:=Tryz.zeroValue20
 t37:=Tryz.underlying238
 a37:=Tryz.isAgg238
 z37:=Tryz.sizeOf238
 v37:=Tryz.zeroValue238
 t46:=Tryz.underlying268
 a46:=Tryz.isAgg268
 z46:=Tryz.sizeOf268
 v46:=Tryz.zeroValue268
 t51:=Tryz.underlying280
 a51:=Tryz.isAgg280
 z51:=Tryz.sizeOf280
 v51:=Tryz.zeroValue280
 t53:=Tryz.underlying259
 a53:=Tryz.isAgg259
 z53:=Tryz.sizeOf259
 v53:=Tryz.zeroValue259
 t171:=Tryz.underlying258
 a171:=Tryz.isAgg258
 z171:=Tryz.sizeOf258
 v171:=Tryz.zeroValue258
 t173:=Tryz.underlying262
 a173:=Tryz.isAgg262
 z173:=Tryz.sizeOf262
 v173:=Tryz.zeroValue262
 t212:=Tryz.underlying279
 a212:=Tryz.isAgg279
 z212:=Tryz.sizeOf279
 v212:=Tryz.zeroValue279
 t213:=Tryz.underlying281
 a213:=Tryz.isAgg281
 z213:=Tryz.sizeOf281
 t232:=Tryz.underlying304
 a232:=Tryz.isAgg304
 z232:=Tryz.sizeOf304
 v232:=Tryz.zeroValue304
 t233:=Tryz.underlying305
 a233:=Tryz.isAgg305
 z233:=Tryz.sizeOf305
 v233:=Tryz.zeroValue305
 g17:=by kernel_rfl
 g18:=by kernel_rfl
 g19:=by kernel_rfl
 i0:=by kernel_rfl
 i2:=by kernel_rfl
 i3:=by kernel_rfl
 i4:=by kernel_rfl
 i5:=by kernel_rfl
 i9:=by kernel_rfl
 i20:=by kernel_rfl
 i37:=by kernel_rfl
 i46:=by kernel_rfl
 i51:=by kernel_rfl
 i53:=by kernel_rfl
 i171:=by kernel_rfl
 i173:=by kernel_rfl
 i212:=by kernel_rfl
 i232:=by kernel_rfl
 i233:=by kernel_rfl
 m17:=by kernel_rfl
 m18:=by kernel_rfl
 m19:=by kernel_rfl }
end Go.Proofs

namespace Go.Eng
open Go.Shelf Go.RowKit Go.Proofs
set_option maxHeartbeats 2000000 in
set_option maxRecDepth 100000 in
theorem qsm(b:Nat)(w:World)(h0:w.cell? ⟨b,0,none⟩=some (.pointer (some ⟨b,0,none⟩))) :
  Calls Tryz.prog 208 #[.pointer (some ⟨b,0,none⟩)] w fun e w'=>e=.returned (.tuple #[])∧w'=w:=by
 obtain⟨j,hj,_⟩:=Option.map_eq_some_iff.1 (show (Tryz.prog.info? 240).map (·.size)=some 2 by kernel_rfl)
 go_enter Tryz.func208,Tryz.ntmps208
 go_wp2
 rw[Lib.run_neq_ptr_same w ⟨b,0,none⟩ Tryz.underlying237 hj]
 go_wp2
 go_end0
 exact⟨rfl,rfl⟩
set_option maxHeartbeats 2000000 in
set_option maxRecDepth 100000 in
theorem qre(b:Nat)(w:World)(h0:w.cell? ⟨b,0,none⟩=some (.pointer none))(hsh:w.shape? b=some (240,2))(hfz:w.frozen? ⟨b,0,none⟩=false) :
  Calls Tryz.prog 208 #[.pointer (some ⟨b,0,none⟩)] w fun e w'=>e=.returned (.tuple #[])∧w'=w.setCell ⟨b,0,none⟩ (.pointer (some ⟨b,0,none⟩)):=by
 obtain⟨j,hj,hjs⟩:=Option.map_eq_some_iff.1 (show (Tryz.prog.info? 240).map (·.size)=some 2 by kernel_rfl)
 go_enter Tryz.func208,Tryz.ntmps208
 go_wp2
 rw[Lib.run_to_unsafe w ⟨b,0,none⟩ Tryz.underlying237 Tryz.underlying276 hj (by rw[hjs];decide) hsh (Nat.zero_lt_succ 1)]
 simp only[Result.andThen]
 rw[Oper.upon_value]
 go_wp2
 rw[run_callFunc_extern Tryz.func234 (by kernel_rfl) (by kernel_rfl) (by kernel_rfl) (e:=Extern.AbiNoEscape.same) (by kernel_rfl)]
 rw[Lib.run_noEscape]
 simp only[Result.andThen]
 rw[Oper.upon_value]
 go_wp2
 rw[Lib.run_from_unsafe w ⟨b,0,none⟩ Tryz.underlying276 Tryz.underlying237 hj hsh (by kernel_rfl)]
 simp only[Result.andThen]
 rw[Oper.upon_value]
 go_wp2
 go_end0
 exact⟨rfl,rfl⟩
abbrev BtB(B b:Nat)(bs:List Value)(w:World):Prop:=Lib.IsBuilder 240 5 B b bs w
set_option maxHeartbeats 2000000 in
set_option maxRecDepth 100000 in
theorem qlq(B b:Nat)(bs:List Value)(w:World)(h:BtB B b bs w) :
  Calls Tryz.prog 208 #[.pointer (some ⟨b,0,none⟩)] w fun e w'=>e=.returned (.tuple #[])∧Lib.BuilderAt 240 5 B b (.pointer (some ⟨b,0,none⟩)) bs w'∧Below B w w':=by
 rcases h with h|h
 ·refine(qre b w h.cell0 h.shape h.frozen0).mono ?_
  rintro e w' ⟨rfl,rfl⟩
  exact⟨rfl,h.used _,(Below.refl B w).setCell (p:=⟨b,0,none⟩) h.1 _⟩
 ·refine(qsm b w h.cell0).mono ?_
  rintro e w' ⟨rfl,rfl⟩
  exact⟨rfl,h,Below.refl B _⟩
set_option maxHeartbeats 2000000 in
set_option maxRecDepth 100000 in
theorem qs1(B b:Nat)(bs:List Value)(c:Int)(w:World)(h:BtB B b bs w)(hlen:bs.length+1≤140737488355328)(hBw:B≤w.heap.size) :
  Calls Tryz.prog 182 #[.pointer (some ⟨b,0,none⟩),.int .u8 c] w fun e w'=>e=.returned .nilIface∧BtB B b (bs++[.int .u8 c]) w'∧Below B w w':=by
 obtain⟨i0,hi,hz0,hz1,hz2⟩:=info_parts (show (Tryz.prog.info? 5).map (fun i=>(i.zero,i.size,i.bytes))=some (some (.int .u8 0),1,1) by kernel_rfl)
 go_enter Tryz.func182,Tryz.ntmps182
 go_wp2_with (go_at_call 208;refine(qlq B b bs _ h).mono ?_)
 rintro e w1 ⟨rfl,h1,hb1⟩
 obtain⟨hB,v,hbk,hown,hne⟩:=h1
 have c0:w1.cell? ⟨b,0,none⟩=some (.pointer (some ⟨b,0,none⟩)):=by rw[Lib.cell_of_heap hbk];rfl
 have c1:w1.cell? ⟨b,1,none⟩=some v:=by rw[Lib.cell_of_heap hbk];rfl
 have hsz1:=hb1.size
 go_wp2_with (at_builtin;refine wpList_append_own _ rfl _ _ 238 rfl B 5 i0 (.int .u8 0) 1 1 Tryz.underlying238 hi hz0 hz1 hz2 rfl (by decide) _ _ _ rfl (hown.alloc _) ⟨w1.heap.size,0,none⟩ 1 1 [.int .u8 c] rfl rfl ?c1 ?c2 ?c3 ?c4 ?c5 ?_)
 case c1=>
  intro j u hj
  match j,hj with
  | 0,hj=>simp at hj;subst hj;simp[Addr.add]
 case c2=>intro u hu;simp at hu;subst hu;rfl
 case c3=>unfold maxLen;omega
 case c4=>omega
 case c5=>simp;omega
 intro v' w2 hown' hgrow _
 have hlt:b<w1.heap.size:=by
  rcases Nat.lt_or_ge b w1.heap.size with h'|h'
  ·exact h'
  ·simp[Array.getElem?_eq_none h'] at hbk
 have hb2:w2.heap[b]?=some (.cells #[.pointer (some ⟨b,0,none⟩),v] 240 (0,0)):=by
  rw[hgrow.block b (by simp;omega) (fun e=>hne e.symm),Lib.alloc_old w1 _ b hlt]
  exact hbk
 have d0:w2.cell? ⟨b,0,none⟩=some (.pointer (some ⟨b,0,none⟩)):=by rw[Lib.cell_of_heap hb2];rfl
 have d1:w2.cell? ⟨b,1,none⟩=some v:=by rw[Lib.cell_of_heap hb2];rfl
 have f1:w2.frozen? ⟨b,1,none⟩=false:=Lib.frozen_of_heap hb2 1
 obtain⟨ao,n',cap,rfl⟩:∃ao n' cap,v'=.slice ao n' cap:=by
  rcases hown'.2 with⟨hv,_⟩|⟨g,cap,cur,hv,_⟩
  ·exact⟨_,_,_,hv⟩
  ·exact⟨_,_,_,hv⟩
 go_wp2
 go_ret
 refine⟨rfl,.inr ?_,?_⟩
 ·exact Lib.BuilderAt.put (T:=240) (e:=5) hB hb2 (bs':=bs++[.int .u8 c]) (by simpa using hown') (by decide)
 ·exact((hb1.alloc (by omega) _).grown hgrow (by simp;omega) (fun k hk=>(hown.lt k hk).1)).setCell (p:=⟨b,1,none⟩) hB _
set_option maxHeartbeats 2000000 in
set_option maxRecDepth 100000 in
theorem qqH(B b:Nat)(bs:List Value)(s:ByteArray)(w:World)(h:BtB B b bs w)(hlen:bs.length+s.size≤140737488355328)(hBw:B≤w.heap.size) :
  Calls Tryz.prog 183 #[.pointer (some ⟨b,0,none⟩),.string s] w fun e w'=>e=.returned (.tuple #[.int .i64 s.size,.nilIface])∧BtB B b (bs++Lib.strCells s) w'∧Below B w w':=by
 obtain⟨i0,hi,hz0,hz1,hz2⟩:=info_parts (show (Tryz.prog.info? 5).map (fun i=>(i.zero,i.size,i.bytes))=some (some (.int .u8 0),1,1) by kernel_rfl)
 go_enter Tryz.func183,Tryz.ntmps183
 go_wp2_with (go_at_call 208;refine(qlq B b bs _ h).mono ?_)
 rintro e w1 ⟨rfl,h1,hb1⟩
 obtain⟨hB,v,hbk,hown,hne⟩:=h1
 have c0:w1.cell? ⟨b,0,none⟩=some (.pointer (some ⟨b,0,none⟩)):=by rw[Lib.cell_of_heap hbk];rfl
 have c1:w1.cell? ⟨b,1,none⟩=some v:=by rw[Lib.cell_of_heap hbk];rfl
 have hsz1:=hb1.size
 go_wp2_with (at_builtin;refine Lib.wpList_append_own_string _ rfl _ _ 238 9 rfl B 5 i0 Tryz.underlying238 Tryz.underlying9 hi hz0 hz1 hz2 _ _ _ rfl hown s rfl ?c3 ?c4 ?c5 ?_)
 case c3=>unfold maxLen;omega
 case c4=>omega
 case c5=>omega
 intro v' w2 hown' hgrow _
 have hlt:b<w1.heap.size:=by
  rcases Nat.lt_or_ge b w1.heap.size with h'|h'
  ·exact h'
  ·simp[Array.getElem?_eq_none h'] at hbk
 have hb2:w2.heap[b]?=some (.cells #[.pointer (some ⟨b,0,none⟩),v] 240 (0,0)):=by
  rw[hgrow.block b hlt (fun e=>hne e.symm)]
  exact hbk
 have d0:w2.cell? ⟨b,0,none⟩=some (.pointer (some ⟨b,0,none⟩)):=by rw[Lib.cell_of_heap hb2];rfl
 have d1:w2.cell? ⟨b,1,none⟩=some v:=by rw[Lib.cell_of_heap hb2];rfl
 have f1:w2.frozen? ⟨b,1,none⟩=false:=Lib.frozen_of_heap hb2 1
 obtain⟨ao,n',cap,rfl⟩:∃ao n' cap,v'=.slice ao n' cap:=by
  rcases hown'.2 with⟨hv,_⟩|⟨g,cap,cur,hv,_⟩
  ·exact⟨_,_,_,hv⟩
  ·exact⟨_,_,_,hv⟩
 go_wp2
 go_ret2
 refine⟨rfl,.inr ?_,?_⟩
 ·exact Lib.BuilderAt.put (T:=240) (e:=5) hB hb2 (bs':=bs++Lib.strCells s) (by simpa[Lib.strCells_length] using hown') (by decide)
 ·exact(hb1.grown hgrow (by omega) (fun k hk=>(hown.lt k hk).1)).setCell (p:=⟨b,1,none⟩) hB _
theorem qrh:Builder.Extra Tryz.prog Tryz.lays169_ren where
 sizeBuilder:=by kernel_rfl
 liesBuilder:=by kernel_rfl
 t5:=Tryz.underlying5
 a5:=Tryz.isAgg5
 z5:=Tryz.sizeOf5
 v5:=Tryz.zeroValue5
 infoByte:=by kernel_rfl
 cellsByte:=by kernel_rfl
 sizeByte:=by kernel_rfl
 neB5:=by decide
set_option maxHeartbeats 2000000 in
set_option maxRecDepth 100000 in
theorem qpD(B b:Nat)(l:List UInt8)(w:World)(h:BtB B b (Lib.byteCells l) w)(h0:l≠[]) :
  Calls Tryz.prog 184 #[.pointer (some ⟨b,0,none⟩)] w fun e w'=>e=.returned (.string ⟨l.toArray⟩)∧Below B w w':=
 Any.Builder_String Tryz.lays169 qrh B b l w h h0
def qdx(f:Nat→Int):Nat→List UInt8
 | 0=>[]
 | i+1=>qrg (Lib.itoa (f i))++qdx f i
def qnM(b:Bool)(n:Nat)(f:Nat→Int):List UInt8:=if n=0 then [48] else (if b then [45] else [])++Lib.itoa (f (n-1))++qdx f (n-1)
theorem qoj (n:Int) (h:-9223372036854775808≤n∧n≤9223372036854775807) (w:World) (ht:Lib.TabIs Tryz.prog w "internal/strconv.uint64pow10" .u64 Lib.pow10Tab) :
  Calls Tryz.prog 122 #[.int .i64 n] w fun e w'=>e=.returned (.string ⟨(Lib.itoa n).toArray⟩)∧Below w.heap.size w w':=
 (Any.strconv_Itoa Tryz.laysM171 n h.1 h.2 w ht).mono fun e w' ⟨h1,k,os,h2⟩=>⟨h1,by subst h2;exact qeF _ _ _⟩
theorem qgJ{P:Program}{w w':World}{name:String}{k:IntKind}{zs:List Int}(h:Lib.TabIs P w name k zs)(hb:Below w.heap.size w w'):Lib.TabIs P w' name k zs:=by
 unfold Lib.TabIs World.var? at *
 cases hg:P.globalNamed name with
 | none=>rw[hg] at h;cases h
 | some g=>
  rw[hg] at h
  simp only[Option.bind_some] at h ⊢
  by_cases hlt:g<w.heap.size
  ·rw[hb.block g hlt];exact h
  ·rw[Array.getElem?_eq_none (by omega)] at h;cases h
theorem qam{w w':World}(hb:Below w.heap.size w w'){n:Nat}(hn:n<w.heap.size)(o:Nat):w'.cell? ⟨n,o,none⟩=w.cell? ⟨n,o,none⟩:=World.cell?_of_block (hb.block n hn)
theorem qlA{B b:Nat}{bs:List Value}{w w':World}(h:BtB B b bs w)(hb:Below w.heap.size w w'):BtB B b bs w':=by
 have key:∀p,Lib.BuilderAt 240 5 B b p bs w→Lib.BuilderAt 240 5 B b p bs w':=by
  intro p h
  have hlt:=h.lt
  obtain⟨hB,v,hbk,⟨hl,hown⟩,hne⟩:=h
  refine⟨hB,v,(hb.block b hlt).trans hbk,⟨hl,?_⟩,hne⟩
  rcases hown with h|⟨g,cap,cur,h1,h2,h3,h4⟩
  ·exact .inl h
  ·exact .inr ⟨g,cap,cur,h1,h2,(hb.block g (Array.getElem?_eq_some_iff.1 h3).1).trans h3,h4⟩
 exact h.elim (fun x=>.inl (key _ x)) (fun x=>.inr (key _ x))
theorem qsI{B b:Nat}{bs:List Value}{w:World}(h:BtB B b bs w):BtB B b bs w.drew:=h.elim (fun x=>.inl x.drew) (fun x=>.inr x.drew)
theorem qqO:∀(k n:Nat),n<10^(k+1)→(Lib.decDigits n).length≤k+1
 | 0,n,h=>by rw[Lib.decDigits,dif_pos (by omega)];simp
 | k+1,n,h=>by
  rw[Lib.decDigits]
  split
  ·simp
  ·have:=qqO k (n/10) (by rw[Nat.pow_succ] at h;omega)
   simp;omega
theorem qsp{pre l:List UInt8}{k:Nat}(hp:pre.length≤k)(hl:l.length≤9)(hk:k≤100000:=by omega):(Lib.byteCells pre).length+(⟨l.toArray⟩:ByteArray).size≤140737488355328:=by
 rw[Lib.byteCells_length]
 have:(⟨l.toArray⟩:ByteArray).size=l.length:=by simp[ByteArray.size]
 omega
theorem qor{x:Int}(h:0≤x∧x<1000000000):(Lib.itoa x).length≤9:=by
 unfold Lib.itoa
 rw[if_neg (by omega)]
 exact qqO 8 _ (by omega)
theorem qoh{l:List UInt8}(h:l.length≤9):(qrg l).length=9:=by
 unfold qrg qlH qdF zt
 simp;omega
theorem qrc{l:List UInt8}(h:l.length≤9):(⟨#[48,48,48,48,48,48,48,48,48]⟩:ByteArray).extract l.length 9++⟨l.toArray⟩=⟨(qrg l).toArray⟩:=by
 have key:∀k:Nat,k≤9→(⟨#[48,48,48,48,48,48,48,48,48]⟩:ByteArray).extract k 9=⟨(qdF [48,48,48,48,48,48,48,48,48] (k:Int) 9).toArray⟩:=by
  intro k hk
  have:k=0∨k=1∨k=2∨k=3∨k=4∨k=5∨k=6∨k=7∨k=8∨k=9:=by omega
  rcases this with rfl|rfl|rfl|rfl|rfl|rfl|rfl|rfl|rfl|rfl<;>rfl
 rw[key _ h]
 unfold qrg qlH zt
 apply ByteArray.ext
 simp
theorem qrQ(l:List UInt8):Lib.strCells ⟨l.toArray⟩=Lib.byteCells l:=rfl
theorem qs0(x:Int):0<(Lib.itoa x).length:=by
 unfold Lib.itoa
 split
 ·simp
 ·rw[Lib.decDigits];split<;>simp
set_option maxHeartbeats 4000000 in
set_option maxRecDepth 1000000 in
theorem qse(n0:Nat)(b:Bool)(n:Nat)(f:Nat→Int)(w:World)(hlt:n0<w.heap.size)(h0:w.cell? ⟨n0,0,none⟩=some (.bool b))(h1:w.cell? ⟨n0,1,none⟩=some (.int .i64 (n:Int)))(hw:∀i,i<232→w.cell? ⟨n0,2+i,none⟩=some (.int .i64 (f i)))
  (hn:n≤232) (hf:∀i,i<n→0≤f i∧f i<1000000000) (ht:Lib.TabIs Tryz.prog w "internal/strconv.uint64pow10" .u64 Lib.pow10Tab) :
  Calls Tryz.prog 145 #[.pointer (some ⟨n0,0,none⟩)] w fun e w'=>e=.returned (.string ⟨(qnM b n f).toArray⟩)∧Below w.heap.size w w':=by
 rcases Nat.eq_zero_or_pos n with rfl|hpos
 ·go_enter Tryz.func145,Tryz.ntmps145
  go_wp2
  go_ret
  exact⟨rfl,Below.refl _ _⟩
 obtain⟨m,rfl⟩:∃m,n=m+1:=⟨n-1,by omega⟩
 have hne:(((m+1:Nat):Int)==0)=false:=by simp;omega
 have w1:IntKind.i64.wrap (((m+1:Nat):Int)-1)=(m:Int):=by unfold IntKind.wrap;simp[IntKind.signed,IntKind.bits];omega
 have w1':IntKind.i64.wrap (m:Int)=(m:Int):=by unfold IntKind.wrap;simp[IntKind.signed,IntKind.bits];omega
 have hi:0≤(m:Int)∧(m:Int)<232:=by omega
 have hwm:=hw m (by omega)
 have w2:IntKind.i64.wrap (((m+1:Nat):Int)-2)=(m:Int)-1:=by unfold IntKind.wrap;simp[IntKind.signed,IntKind.bits];omega
 have hitm:=qor (hf m (by omega))
 cases b
 case' false=>
  go_enter Tryz.func145,Tryz.ntmps145
  go_wp2
  have hB0:=Lib.fresh_isBuilder 240 5 w
  have hb0:=(Below.refl w.heap.size w).alloc (Nat.le_refl _) (.cells #[.pointer none,.slice none 0 0] 240)
  generalize w.alloc (.cells #[.pointer none,.slice none 0 0] 240)=W0 at *
  obtain⟨pre,hpre⟩:∃pre:List UInt8,pre=if false=true then [45] else []:=⟨_,rfl⟩
  replace hB0:BtB w.heap.size w.heap.size (Lib.byteCells pre) W0:=by subst hpre;exact hB0
 case' true=>
  go_enter Tryz.func145,Tryz.ntmps145
  go_wp2_with (go_at_call 182;refine(qs1 w.heap.size w.heap.size [] 45 _ (Lib.fresh_isBuilder 240 5 w) (by simp) (by simp)).mono ?_)
  rintro e W0 ⟨rfl,hB0,hb0⟩
  replace hb0:=((Below.refl w.heap.size w).alloc (Nat.le_refl _) (.cells #[.pointer none,.slice none 0 0] 240)).trans hb0
  obtain⟨pre,hpre⟩:∃pre:List UInt8,pre=if true=true then [45] else []:=⟨_,rfl⟩
  replace hB0:BtB w.heap.size w.heap.size (Lib.byteCells pre) W0:=by subst hpre;exact hB0
  go_wp2
 all_goals
  have hp1:pre.length≤1:=by subst hpre;split<;>simp
  have hs0:=hb0.size
  have d1:=(qam hb0 hlt 1).trans h1
  have dm:=(qam hb0 hlt (2+m)).trans hwm
  go_region_with (first
   | (go_at_call 122;refine(qoj (f m) (by have:=hf m (by omega);omega) _ (qgJ ht hb0.drew)).mono ?_;rintro e W1 ⟨rfl,b1⟩)
   | (go_at_call 183;refine(qqH w.heap.size w.heap.size _ _ _ (qlA (qsI hB0) b1) (qsp hp1 hitm) (Nat.le_trans hs0 b1.size)).mono ?_;rintro e W2 ⟨rfl,hB2,b2⟩))
  have b02:Below w.heap.size w W2:=(hb0.drew.trans (b1.mono hs0)).trans b2
  have e1:=(qam b02 hlt 1).trans h1
  replace hB2:BtB w.heap.size w.heap.size (Lib.byteCells (pre++Lib.itoa (f m))) W2:=by rw[Lib.byteCells_append];exact hB2
  go_wp2
  go_loopw [4] (fun vi wr=>∃(k:Nat) (acc:List UInt8),vi=.int .i64 ((k:Int)-1)∧k≤m∧BtB w.heap.size w.heap.size (Lib.byteCells acc) wr∧Below w.heap.size w wr∧acc++qdx f k=pre++Lib.itoa (f m)++qdx f m∧acc.length≤10+9*(m-k)) (fun vi _=>(intOf vi+1).toNat)
  case atStart=>exact⟨m,_,by congr 1<;>omega,Nat.le_refl _,hB2,b02,rfl,by simp;omega⟩
  case round=>
   obtain⟨k,acc,rfl,hkm,hI,hbw,hacc,hal⟩:=hrel
   have hbs:=hbw.size
   rcases Nat.eq_zero_or_pos k with rfl|hk0
   ·go_wp2_with (go_at_call 184;refine(qpD w.heap.size w.heap.size acc _ hI ?hne).mono ?_)
    case hne=>
     intro h0
     subst h0
     have:=congrArg List.length hacc
     have h9:=qs0 (f m)
     simp[qdx] at this
     omega
    rintro e W3 ⟨rfl,b3⟩
    go_wp2
    go_ret
    refine⟨?_,hbw.trans b3⟩
    simp only[qdx,List.append_nil] at hacc
    rw[hacc,hpre]
    simp[qnM]
   ·obtain⟨q,rfl⟩:∃q,k=q+1:=⟨k-1,by omega⟩
    have x1:(((q+1:Nat):Int)-1)=(q:Int):=by omega
    have x2:(0:Int)≤(q:Int)∧(q:Int)<232:=by omega
    have x3:(q:Int).toNat=q:=Int.toNat_natCast q
    have dq:=(qam hbw hlt (2+q)).trans (hw q (by omega))
    have hq9:=qor (hf q (by omega))
    rw[x1]
    go_wp2_with (go_at_call 122;refine(qoj (f q) (by have:=hf q (by omega);omega) _ (qgJ ht hbw)).mono ?_)
    rintro e W3 ⟨rfl,b3⟩
    clear w1 w1' w2 hi hwm hne h1 hf hw ht
    have hl9:((⟨(Lib.itoa (f q)).toArray⟩:ByteArray).size:Int)≤9:=by simp[ByteArray.size];omega
    go_wp2_with (go_at_call 183;refine(qqH w.heap.size w.heap.size (Lib.byteCells acc) _ _ (qlA hI b3) ?hl (Nat.le_trans hbs b3.size)).mono ?_)
    case hl=>rw[qrc hq9,Lib.byteCells_length];have:=qoh hq9;simp[ByteArray.size];omega
    rintro e W4 ⟨rfl,hB4,b4⟩
    rw[qrc hq9,qrQ,←Lib.byteCells_append] at hB4
    go_wp2
    go_roundw
    case rel=>
     refine⟨q,_,by congr 1<;>omega,by omega,hB4,(hbw.trans (b3.mono hbs)).trans b4,?_,?_⟩
     ·rw[←hacc];simp[qdx]
     ·have:=qoh hq9
      simp;omega
    case measure=>simp[intOf]
theorem qos(w:R):∀i,qcL w i=qdx (fun i=>cI w i 0) i
 | 0=>rfl
 | i+1=>by unfold qcL qdx;rw[qos w i]
theorem qsx(b:Bool)(n:Nat)(w:R):qru b (n:Int) w=qnM b n (fun i=>cI w i 0):=by
 unfold qru qnM
 by_cases h:n=0
 ·subst h;rfl
 ·rw[if_neg (by omega),if_neg h,qos]
  have e:((n:Int)-1)=((n-1:Nat):Int):=by omega
  rw[e,Int.toNat_natCast]
theorem qrK{ps:List PV}(h:ps.map PV.kind=[.b,.i,.r]):∃b n w,ps=[.b b,.i n,.r w]:=by
 match ps,h with
 | [.b b,.i n,.r w],_=>exact⟨b,n,w,rfl⟩
theorem qph{gl:List (Nat×AV)}(hg:(2,AV.eptr (Lib.pow10Tab.map fun _=>.int .u64) qtu 0 0)∈gl) :
  zk Tryz.prog gl 145 (qa { args:=[.ptr 0 0],h:=[.big [.bool,.int .i64] .i64 232] } [{ res:=.str,h:=[.big [.bool,.int .i64] .i64 232] }] qqR):=
 qaE (yV Tryz.func145 (by kernel_rfl) (by kernel_rfl)) rfl fun B X ps j qs vargs hs hgl hh ha hk hT=>by
  obtain⟨b,n,r,rfl⟩:=qrK hk
  simp only[qqR] at hT
  split at hT
  ·rename_i hc
   cases hT
   unfold qk1 at hc
   simp only[Bool.and_eq_true,decide_eq_true_eq,List.all_eq_true,List.mem_range] at hc
   obtain⟨⟨c1,c2⟩,c3⟩:=hc
   obtain⟨m,rfl⟩:∃m:Nat,n=(m:Int):=⟨n.toNat,by omega⟩
   have hb0:X.h[0]?=some (.big [.bool b,.int .i64 (m:Int)] .i64 232 r):=by rw[hh];rfl
   obtain⟨n0,c,T,vs,hσ,hheap,hrep,hcl,hrl⟩:=hs.blk 0 _ hb0
   have hvs:vs=[.bool b,.int .i64 (m:Int)]:=by
    cases hrep with
    | cons h t=>cases h;rw[qo1 t]
   subst hvs
   have hva:vargs=[.pointer (some ⟨n0,0,none⟩)]:=by
    cases ha with
    | cons h t=>
     cases t
     cases h with
     | ptr _ _ n1 hb hσ2=>
      have:n1=n0:=Option.some.inj (hσ2.symm.trans hσ)
      rw[this]
   subst hva
   have hlt:n0<X.w.heap.size:=(Array.getElem?_eq_some_iff.1 hheap).1
   have hcell:∀o,X.w.cell? ⟨n0,o,none⟩=c[o]?:=fun o=>by unfold World.cell?;simp only[hheap];rfl
   have g0:X.w.cell? ⟨n0,0,none⟩=some (.bool b):=by rw[hcell,←Array.getElem?_toList,hcl];rfl
   have g1:X.w.cell? ⟨n0,1,none⟩=some (.int .i64 (m:Int)):=by rw[hcell,←Array.getElem?_toList,hcl];rfl
   have gw:∀i,i<232→X.w.cell? ⟨n0,2+i,none⟩=some (.int .i64 (cI r (i:Int) 0)):=fun i hi=>by
    rw[hcell]
    exact qjg (vs:=[.bool b,.int .i64 (m:Int)]) hcl (by omega)
   refine⟨rfl,rfl,rfl,?_⟩
   have hT:=qh9 (k:=.u64) (zs:=Lib.pow10Tab) (show Tryz.prog.globalNamed "internal/strconv.uint64pow10" = some 2 by kernel_rfl) (by decide) (hgl _ hg).2
   refine(qse n0 b m (fun i=>cI r (i:Int) 0) X.w hlt g0 g1 gw (by omega) (fun i hi=>c3 i (by omega)) hT).mono fun e w' ⟨k1,k2⟩=>⟨_,k1,k2,?_⟩
   rw[←qsx]
   exact .str _
  ·cases hT
end Go.Eng

namespace Go.Eng
open Go.Shelf Go.RowKit Go.Lib Go.Sort Go.Proofs
variable {P:Program} {ρ:Ren}
theorem qgn(w:World)(t e ty:TypeId)(z:Value)(es:Nat)(ht:P.underlying t=some (.slice e))(hv:∀w,(zeroValue e).run P w=.ok z w)(hz:z.cells.size=es)(h1:∀v∈z.cells.toList,v.oneCell'=true)(b o n c:Nat)(hn:0<n)
  (hc:∀j,j<n*es→(w.cell? ⟨b,o+j,none⟩).isSome=true) (hf:∀j,j<n*es→w.frozen? ⟨b,o+j,none⟩=false) :
  (Builtin.clear_ #[t] ty #[.slice (some ⟨b,o,none⟩) n c]).run P w=.ok (.tuple #[]) (w.setCells b o (Builtin.zeroCells z.cells n).toList):=by
 have hlen:(Builtin.zeroCells z.cells n).toList.length=n*es:=by simp[Builtin.zeroCells,hz]
 have hst:=run_storeCells_cells (P:=P) b o (Builtin.zeroCells z.cells n).toList 0 w (by rw[hlen];simpa using hc) (by rw[hlen];simpa using hf) (by
  intro v hv'
  simp only[Builtin.zeroCells,Array.toList_map,List.mem_map,Array.toList_range,List.mem_range] at hv'
  obtain⟨i,hi,rfl⟩:=hv'
  have hp:0<z.cells.size:=by
   rcases Nat.eq_zero_or_pos z.cells.size with h|h
   ·rw[h] at hi;simp at hi
   ·exact h
  have hlt:=Nat.mod_lt i hp
  rw[getElem!_pos z.cells _ hlt]
  exact h1 _ (by simp))
 simp only[Nat.add_zero] at hst
 obtain⟨m,rfl⟩:∃m,n=m+1:=⟨n-1,by omega⟩
 simp[Builtin.clear_,run_underlying ht,hv,hst]
theorem q8D(b:Nat):∀(vs:List Value) (o:Nat) (w:World) (q:Addr),(w.cell? q).isSome=true→((w.setCells b o vs).cell? q).isSome=true
 | [],_,_,_,h=>h
 | v::r,o,w,q,h=>by
  rw[World.setCells]
  obtain⟨u,hu⟩:=Option.isSome_iff_exists.mp h
  obtain⟨u',hu'⟩:=cell?_setCell_some (p:=⟨b,o,none⟩) (x:=v) hu
  exact q8D b r (o+1) _ q (by rw[hu'];rfl)
set_option maxHeartbeats 4000000 in
set_option maxRecDepth 1000000 in
theorem qsV(mixed:P.follows .mixedOrders=true)(f45:Bears P (ρ.f 45) (SlBodyN.n45 ρ))
  (_:P.underlying (ρ.t 0)=some (TypeDesc.tuple #[])) (_:∀w,(isAgg (ρ.t 0)).run P w=.ok false w) (_:∀w,(Go.sizeOf (ρ.t 0)).run P w=.ok 1 w) (_:∀w,(zeroValue (ρ.t 0)).run P w=.ok (Value.tuple #[]) w)
  (_:P.underlying (ρ.t 3)=some (TypeDesc.int IntKind.i64)) (_:∀w,(isAgg (ρ.t 3)).run P w=.ok false w) (_:∀w,(Go.sizeOf (ρ.t 3)).run P w=.ok 1 w) (_:∀w,(zeroValue (ρ.t 3)).run P w=.ok (Value.int IntKind.i64 0) w)
  (_:P.underlying (ρ.t 4)=some (TypeDesc.bool)) (_:∀w,(isAgg (ρ.t 4)).run P w=.ok false w) (_:∀w,(Go.sizeOf (ρ.t 4)).run P w=.ok 1 w) (_:∀w,(zeroValue (ρ.t 4)).run P w=.ok (Value.bool false) w)
  (t22:P.underlying (ρ.t 22)=some (TypeDesc.slice (ρ.t 23))) (_:∀w,(isAgg (ρ.t 22)).run P w=.ok false w) (_:∀w,(Go.sizeOf (ρ.t 22)).run P w=.ok 1 w) (_:∀w,(zeroValue (ρ.t 22)).run P w=.ok (Value.slice none 0 0) w)
  {es:Nat} (z23:∀w,(Go.sizeOf (ρ.t 23)).run P w=.ok es w) (z:Value) (v23:∀w,(zeroValue (ρ.t 23)).run P w=.ok z w) (zs:z.cells.size=es) (zo:∀v∈z.cells.toList,v.oneCell'=true)
  (i0:TypeInfo) (hi0:P.info? (ρ.t 23)=some i0) (hz1:i0.size=es) (blk off len cap i j:Nat) (cs:List Value) (hcs:cs.length=len*es) (w:World)
  (hc:∀k v,cs[k]?=some v→w.cell? ⟨blk,off+k,none⟩=some v∧w.frozen? ⟨blk,off+k,none⟩=false) (h1:∀v∈cs,v.oneCell'=true) (hcap:len≤cap) (hm:cap≤9223372036854775807) (hij:i≤j) (hj:j≤len) :
  Calls P (ρ.f 45) #[.slice (some ⟨blk,off,none⟩) len cap,.int .i64 i,.int .i64 j] w fun e w'=>e=.returned (.slice (some ⟨blk,off,none⟩) (len-(j-i)) cap) ∧
   ((i=j∧w'=w)∨(i<j∧∃q,w'=((Sort.ahead w q).setCells blk (off+i*es) (cs.drop (j*es))).setCells blk (off+(i+(len-j))*es) (Builtin.zeroCells z.cells (len-(i+(len-j)))).toList)):=by
 by_cases heq:i=j
 ·subst heq
  have h0:Calls P (ρ.f 45) #[.slice (some ⟨blk,off,none⟩) len cap,.int .i64 i,.int .i64 i] w fun e w'=>e=.returned (.slice (some ⟨blk,off,none⟩) len cap)∧w'=w:=by
   clear hc
   obtain⟨_,_,FG⟩:=f45
   go_enter FG,SlBodyN.n45_ntmps ρ
   go_wp2
   all_goals (go_ret;exact⟨rfl,rfl⟩)
  refine h0.mono ?_
  rintro e w' ⟨rfl,rfl⟩
  exact⟨by rw[Nat.sub_self,Nat.sub_zero],.inl ⟨rfl,rfl⟩⟩
 ·have hlt:i<j:=by omega
  obtain⟨news,hnews⟩:∃news,news=cs.drop (j*es):=⟨_,rfl⟩
  have hlen:news.length=(len-j)*es:=by rw[hnews,List.length_drop,hcs,Nat.sub_mul]
  have hget:∀t u,news[t]?=some u→cs[j*es+t]?=some u:=by
   intro t u hu
   rw[hnews,List.getElem?_drop] at hu;exact hu
  obtain⟨A,hA,hsrc⟩:∃A:Addr,(if cap=j then some (⟨blk,off,none⟩:Addr) else some ⟨blk,off+j*es,none⟩)=some A∧Hid (∀t u,news[t]?=some u→w.drew.cell? (A.add t)=some u):=by
   by_cases h:cap=j
   ·refine⟨⟨blk,off,none⟩,by simp[h],fun t u hu=>?_⟩
    have h0:news.length=0:=by rw[hlen,show len-j=0 by omega,Nat.zero_mul]
    rw[List.length_eq_zero_iff.1 h0] at hu
    simp at hu
   ·refine⟨⟨blk,off+j*es,none⟩,by simp[h],fun t u hu=>?_⟩
    rw[Addr.add_lit,show off+j*es+t=off+(j*es+t) by omega]
    exact(hc (j*es+t) u (hget t u hu)).1
  have s1:Hid (news.length=(len-j)*es):=hlen
  have s2:Hid (∀u∈news,u.oneCell'=true):=by
   intro u hu
   rw[hnews] at hu
   exact h1 u (List.mem_of_mem_drop hu)
  have hall:∀k,k<len*es→(w.cell? ⟨blk,off+k,none⟩).isSome=true∧w.frozen? ⟨blk,off+k,none⟩=false:=by
   intro k hk
   obtain⟨q1,q2⟩:=hc k cs[k] (List.getElem?_eq_getElem (by omega))
   exact⟨by rw[q1];rfl,q2⟩
  have mul1:(i+(len-j))*es≤len*es:=Nat.mul_le_mul_right _ (by omega)
  have mul2:(i+(len-j))*es=i*es+(len-j)*es:=Nat.add_mul _ _ _
  have s3:Hid (∀t,t<news.length→(w.drew.cell? ⟨blk,off+i*es+t,none⟩).isSome=true∧w.drew.frozen? ⟨blk,off+i*es+t,none⟩=false):=by
   intro t ht
   rw[hlen] at ht
   rw[Nat.add_assoc]
   exact hall (i*es+t) (by omega)
  obtain⟨W1,hW1⟩:∃W1,W1=w.drew.setCells blk (off+i*es) news:=⟨_,rfl⟩
  have hW1c:∀k,k<len*es→(W1.cell? ⟨blk,off+k,none⟩).isSome=true∧W1.frozen? ⟨blk,off+k,none⟩=false:=by
   intro k hk
   obtain⟨q1,q2⟩:=hall k hk
   rw[hW1]
   exact⟨q8D blk news _ _ _ q1,by rw[World.frozen?_setCells];exact q2⟩
  have m3:(i+(len-j))*es+(len-(i+(len-j)))*es=len*es:=by rw[←Nat.add_mul];congr 1;omega
  have hcl:∀ty,(Builtin.clear_ #[ρ.t 22] ty #[.slice (some ⟨blk,off+(i+(len-j))*es,none⟩) (len-(i+(len-j))) (cap-(i+(len-j)))]).run P W1=.ok (.tuple #[]) (W1.setCells blk (off+(i+(len-j))*es) (Builtin.zeroCells z.cells (len-(i+(len-j)))).toList):=
   fun ty=>qgn W1 _ _ ty z es t22 v23 zs zo blk _ _ _ (by omega) (fun t ht=>by rw[Nat.add_assoc];exact(hW1c _ (by omega)).1) (fun t ht=>by rw[Nat.add_assoc];exact(hW1c _ (by omega)).2)
  obtain⟨zl,hzl⟩:∃zl,Hid (zl=(Builtin.zeroCells z.cells (len-(i+(len-j)))).toList):=⟨_,rfl⟩
  simp only[←hzl.out] at hcl
  have hW:Hid (W1=w.drew.setCells blk (off+i*es) news):=hW1
  have hic:i≤cap:=by omega
  have hjc:j≤cap:=by omega
  clear hW1 hW1c hc hget hall hlen mul1 mul2 m3
  obtain⟨_,_,FG⟩:=f45
  go_enter FG,SlBodyN.n45_ntmps ρ
  go_wp2_with fail
  go_region_law_o (refine step_append_room rfl (.tmp 22) (.tmp 25) (ρ.t 22) rfl (ρ.t 23) i0 es t22 hi0 hz1 blk off i cap (by simp[Act.eval,Act.put]) A (len-j) (cap-j) news (by simp[Act.eval,Act.put]) s1.out hsrc.out s2.out (by omega) s3.out ?_;rw[←hW.out])
  go_wp2
  go_ret
  refine⟨by rw[show len-(j-i)=i+(len-j) by omega];rfl,.inr ⟨hlt,1,?_⟩⟩
  rw[hW.out,hnews,hzl.out];rfl
theorem qbE{n:Nat}{T:TypeId}{fr:Nat×Nat}:∀(vs:List Value) (o:Nat) (w:World) (c:Array Value),w.heap[n]?=some (.cells c T fr) →
  ∃c',(w.setCells n o vs).heap[n]?=some (.cells c' T fr)∧c'.size=c.size∧(∀k,c'[k]?=if o≤k∧k<o+vs.length∧k<c.size then vs[k-o]? else c[k]?)∧(∀m,m≠n→(w.setCells n o vs).heap[m]?=w.heap[m]?) ∧
   (w.setCells n o vs).heap.size=w.heap.size∧(w.setCells n o vs).os=w.os∧(w.setCells n o vs).tape=w.tape∧(w.setCells n o vs).output=w.output
 | [],o,w,c,h=>⟨c,h,rfl,fun k=>by rw[if_neg (by simp;omega)],fun _ _=>rfl,rfl,rfl,rfl,rfl⟩
 | v::r,o,w,c,h=>by
  have hn:=(Array.getElem?_eq_some_iff.1 h).1
  have h1:(w.setCell ⟨n,o,none⟩ v).heap[n]?=some (.cells (c.setIfInBounds o v) T fr):=by
   simp[World.setCell,Array.getElem?_modify,h]
  obtain⟨c',q1,q2,q3,q4,q5,q6,q7,q8⟩:=qbE r (o+1) _ _ h1
  refine⟨c',q1,by rw[q2];simp,fun k=>?_,fun m hm=>?_,?_,q6,q7,q8⟩
  ·rw[q3 k,Array.size_setIfInBounds]
   by_cases hk:k=o
   ·subst hk
    rw[if_neg (by omega)]
    by_cases hs:k<c.size
    ·rw[if_pos ⟨Nat.le_refl _,by simp,hs⟩,Array.getElem?_setIfInBounds_self_of_lt hs];simp
    ·rw[if_neg (by omega)]
     rw[Array.getElem?_eq_none (by simp;omega),Array.getElem?_eq_none (by omega)]
   ·rw[Array.getElem?_setIfInBounds_ne (fun e=>hk e.symm)]
    by_cases hc:o+1≤k∧k<o+1+r.length∧k<c.size
    ·rw[if_pos hc,if_pos ⟨by omega,by simp only[List.length_cons];omega,hc.2.2⟩]
     obtain⟨d,rfl⟩:∃d,k=o+1+d:=⟨k-(o+1),by omega⟩
     rw[show o+1+d-(o+1)=d by omega,show o+1+d-o=d+1 by omega];simp
    ·rw[if_neg hc,if_neg (by simp only[List.length_cons];omega)]
  ·show ((w.setCell ⟨n,o,none⟩ v).setCells n (o+1) r).heap[m]?=_
   rw[q4 m hm]
   simp only[World.setCell]
   rw[Array.getElem?_modify,if_neg (fun e=>hm e.symm)]
  ·show ((w.setCell ⟨n,o,none⟩ v).setCells n (o+1) r).heap.size=_
   rw[q5];simp[World.setCell]
theorem qit(mixed:P.follows .mixedOrders=true)(f45:Bears P (ρ.f 45) (SlBodyN.n45 ρ))(hen:∀args w,(callFunc (ρ.f 45) args).run P w=.ok (.enter (ρ.f 45) args) w)
  (t0:P.underlying (ρ.t 0)=some (TypeDesc.tuple #[])) (a0:∀w,(isAgg (ρ.t 0)).run P w=.ok false w) (z0:∀w,(Go.sizeOf (ρ.t 0)).run P w=.ok 1 w) (v0:∀w,(zeroValue (ρ.t 0)).run P w=.ok (Value.tuple #[]) w)
  (t3:P.underlying (ρ.t 3)=some (TypeDesc.int IntKind.i64)) (a3:∀w,(isAgg (ρ.t 3)).run P w=.ok false w) (z3:∀w,(Go.sizeOf (ρ.t 3)).run P w=.ok 1 w) (v3:∀w,(zeroValue (ρ.t 3)).run P w=.ok (Value.int IntKind.i64 0) w)
  (t4:P.underlying (ρ.t 4)=some (TypeDesc.bool)) (a4:∀w,(isAgg (ρ.t 4)).run P w=.ok false w) (z4:∀w,(Go.sizeOf (ρ.t 4)).run P w=.ok 1 w) (v4:∀w,(zeroValue (ρ.t 4)).run P w=.ok (Value.bool false) w)
  (t22:P.underlying (ρ.t 22)=some (TypeDesc.slice (ρ.t 23))) (a22:∀w,(isAgg (ρ.t 22)).run P w=.ok false w) (z22:∀w,(Go.sizeOf (ρ.t 22)).run P w=.ok 1 w) (v22:∀w,(zeroValue (ρ.t 22)).run P w=.ok (Value.slice none 0 0) w)
  (z:Value) (v23:∀w,(zeroValue (ρ.t 23)).run P w=.ok z w) (zs:z.cells.size=P.cellsOf (ρ.t 23)) (zo:(z.cells.toList.all fun v=>v.oneCell')=true):q6R P (ρ.f 45) (ρ.t 23):=by
 refine⟨hen,fun w n len cap i j c T hc hsz h1 hp hlen hm hij hj=>?_⟩
 obtain⟨i0,hi0,hz1⟩:=qjv hp
 have z23:∀w,(Go.sizeOf (ρ.t 23)).run P w=.ok (P.cellsOf (ρ.t 23)) w:=fun w=>zd hp w
 have zo:∀v∈z.cells.toList,v.oneCell'=true:=fun v hv=>List.all_eq_true.1 zo v hv
 have hle:len*P.cellsOf (ρ.t 23)≤c.size:=by rw[hsz];exact Nat.mul_le_mul_right _ hlen
 obtain⟨cs,hcs⟩:∃cs,cs=c.toList.take (len*P.cellsOf (ρ.t 23)):=⟨_,rfl⟩
 have hcl:cs.length=len*P.cellsOf (ρ.t 23):=by rw[hcs];simp;omega
 have hcg:∀k v,cs[k]?=some v→k<len*P.cellsOf (ρ.t 23)∧c[k]?=some v:=by
  intro k v hk
  have hlt:k<len*P.cellsOf (ρ.t 23):=by rw[←hcl];exact(List.getElem?_eq_some_iff.1 hk).1
  rw[hcs,List.getElem?_take,if_pos hlt] at hk
  exact⟨hlt,by simpa using hk⟩
 refine(qsV mixed f45 t0 a0 z0 v0 t3 a3 z3 v3 t4 a4 z4 v4 t22 a22 z22 v22 z23 z v23 zs zo i0 hi0 hz1 n 0 len cap i j cs hcl w (fun k v hk=>?_) (fun v hv=>?_) hlen hm hij hj).mono fun x w' ⟨e1,e2⟩=>⟨e1,?_⟩
 ·obtain⟨_,q⟩:=hcg k v hk
  rw[Nat.zero_add]
  exact⟨by simp[World.cell?,hc,q],by simp[World.frozen?,hc]⟩
 ·obtain⟨k,hk⟩:=List.getElem?_of_mem hv
  obtain⟨q1,q2⟩:=hcg k v hk
  exact h1 k v q1 q2
 ·rcases e2 with⟨rfl,rfl⟩|⟨hlt,q,rfl⟩
  ·refine⟨c,hc,rfl,fun k _=>?_,fun _ _=>rfl,rfl,rfl,rfl,rfl⟩
   rw[Nat.sub_self,Nat.zero_mul,Nat.add_zero,ite_self]
  ·obtain⟨c1,a1,a2,a3,a4,a5,a6,a7,a8⟩:=qbE (T:=T) (fr:=(0,0)) (cs.drop (j*P.cellsOf (ρ.t 23))) (0+i*P.cellsOf (ρ.t 23)) (Sort.ahead w q) c hc
   obtain⟨c2,b1,b2,b3,b4,b5,b6,b7,b8⟩:=qbE (T:=T) (fr:=(0,0)) (Builtin.zeroCells z.cells (len-(i+(len-j)))).toList (0+(i+(len-j))*P.cellsOf (ρ.t 23)) _ c1 a1
   refine⟨c2,b1,b2.trans a2,fun k hk=>?_,fun m hm=>(b4 m hm).trans (a4 m hm),b5.trans a5,b6.trans a6,b7.trans a7,b8.trans a8⟩
   have m1:len-(j-i)=i+(len-j):=by omega
   rw[m1] at hk
   have m2:(i+(len-j))*P.cellsOf (ρ.t 23)=i*P.cellsOf (ρ.t 23)+(len-j)*P.cellsOf (ρ.t 23):=Nat.add_mul _ _ _
   have m3:len*P.cellsOf (ρ.t 23)=j*P.cellsOf (ρ.t 23)+(len-j)*P.cellsOf (ρ.t 23):=by rw[←Nat.add_mul];congr 1;omega
   have m4:j*P.cellsOf (ρ.t 23)=i*P.cellsOf (ρ.t 23)+(j-i)*P.cellsOf (ρ.t 23):=by rw[←Nat.add_mul];congr 1;omega
   have dl:(cs.drop (j*P.cellsOf (ρ.t 23))).length=(len-j)*P.cellsOf (ρ.t 23):=by rw[List.length_drop,hcl,Nat.sub_mul]
   rw[b3,if_neg (by omega),a3,dl]
   by_cases hki:k<i*P.cellsOf (ρ.t 23)
   ·rw[if_neg (by omega),if_pos hki]
   ·rw[if_pos (by omega),if_neg hki,List.getElem?_drop,hcs,List.getElem?_take,if_pos (by omega)]
    rw[show j*P.cellsOf (ρ.t 23)+(k-(0+i*P.cellsOf (ρ.t 23)))=k+(j-i)*P.cellsOf (ρ.t 23) by omega]
    simp
end Go.Eng

namespace Go.Eng
open Go.Proofs
noncomputable def q6m:List (TypeId×TI):=[(1,(.mk .func 1 [.nilFunc] 8 false false)),(2,(.mk (.int .i64) 1 [(.int .i64 0)] 8 false false)),(3,(.mk (.int .i64) 1 [(.int .i64 0)] 8 false false)),(4,(.mk .bool 1 [(.bool false)] 1 false false)),(5,(.mk (.int .u8) 1 [(.int .u8 0)] 1 false false)),(6,(.mk (.int .u8) 1 [(.int .u8 0)] 1 false false)),(8,(.mk (.struct [(0,(2,1)),(1,(3,1)),(2,(4,1)),(3,(6,1))]) 4 [(.int .i64 0),(.int .i64 0),(.bool false),(.int .u8 0)] 24 true true)),(9,(.mk .str 1 [(.string (.mk (.mk [])))] 16 false false)),(10,(.mk .str 1 [(.string (.mk (.mk [])))] 16 false false)),(11,(.mk .str 1 [(.string (.mk (.mk [])))] 16 false false)),(12,(.mk (.int .u64) 1 [(.int .u64 0)] 8 false false)),(13,(.mk (.struct [(0,(9,1)),(1,(12,1))]) 2 [(.string (.mk (.mk []))),(.int .u64 0)] 24 false true)),(14,(.mk (.struct [(0,(9,1)),(1,(12,1))]) 2 [(.string (.mk (.mk []))),(.int .u64 0)] 24 false true)),(16,(.mk (.ptr 310) 1 [(.pointer .none)] 8 false false)),(17,(.mk (.ptr 318) 1 [(.pointer .none)] 8 false false)),(18,(.mk (.struct [(0,(17,1))]) 1 [(.pointer .none)] 8 false true)),(22,(.mk (.slice 39 7) 1 [(.slice .none 0 0)] 24 false false)),(24,(.mk (.struct [(0,(22,1)),(1,(22,1))]) 2 [(.slice .none 0 0),(.slice .none 0 0)] 48 true true)),(25,(.mk (.slice 43 3) 1 [(.slice .none 0 0)] 24 false false)),(27,(.mk (.struct [(0,(25,1)),(1,(25,1))]) 2 [(.slice .none 0 0),(.slice .none 0 0)] 48 true true)),(29,(.mk (.struct [(0,(22,1)),(1,(22,1))]) 2 [(.slice .none 0 0),(.slice .none 0 0)] 48 true true)),(30,(.mk (.struct [(0,(25,1)),(1,(25,1))]) 2 [(.slice .none 0 0),(.slice .none 0 0)] 48 true true)),(32,(.mk .func 1 [.nilFunc] 8 false false)),(35,(.mk (.struct [(0,(3,1)),(1,(3,1))]) 2 [(.int .i64 0),(.int .i64 0)] 16 true true)),(37,(.mk (.struct [(0,(3,1)),(1,(3,1))]) 2 [(.int .i64 0),(.int .i64 0)] 16 true true)),(39,(.mk (.struct [(0,(35,2)),(2,(37,2)),(4,(3,1)),(5,(3,1)),(6,(4,1))]) 7 [(.int .i64 0),(.int .i64 0),(.int .i64 0),(.int .i64 0),(.int .i64 0),(.int .i64 0),(.bool false)] 56 true true)),(40,(.mk .func 1 [.nilFunc] 8 false false)),(43,(.mk (.struct [(0,(35,2)),(2,(3,1))]) 3 [(.int .i64 0),(.int .i64 0),(.int .i64 0)] 24 true true)),(45,(.mk (.struct [(0,(3,1)),(1,(3,1)),(2,(3,1))]) 3 [(.int .i64 0),(.int .i64 0),(.int .i64 0)] 24 true true)),(46,(.mk (.struct [(0,(3,1)),(1,(3,1)),(2,(3,1))]) 3 [(.int .i64 0),(.int .i64 0),(.int .i64 0)] 24 true true)),(47,(.mk (.int .i64) 1 [(.int .i64 0)] 8 false false)),(49,(.mk .func 1 [.nilFunc] 8 false false)),(51,(.mk .func 1 [.nilFunc] 8 false false)),(52,(.mk .func 1 [.nilFunc] 8 false false)),(53,(.mk (.slice 65 3) 1 [(.slice .none 0 0)] 24 false false)),(54,(.mk .func 1 [.nilFunc] 8 false false)),(55,(.mk .func 1 [.nilFunc] 8 false false)),(56,(.mk (.slice 3 1) 1 [(.slice .none 0 0)] 24 false false)),(58,(.mk .func 1 [.nilFunc] 8 false false)),(61,(.mk .str 1 [(.string (.mk (.mk [])))] 16 false false)),(63,(.mk (.struct [(0,(61,1)),(1,(61,1))]) 2 [(.string (.mk (.mk []))),(.string (.mk (.mk [])))] 32 true true)),(64,(.mk (.struct [(0,(63,2)),(2,(61,1))]) 3 [(.string (.mk (.mk []))),(.string (.mk (.mk []))),(.string (.mk (.mk [])))] 48 true true)),(65,(.mk (.struct [(0,(63,2)),(2,(61,1))]) 3 [(.string (.mk (.mk []))),(.string (.mk (.mk []))),(.string (.mk (.mk [])))] 48 true true)),(69,(.mk (.struct [(0,(22,1)),(1,(25,1)),(2,(3,1))]) 3 [(.slice .none 0 0),(.slice .none 0 0),(.int .i64 0)] 56 true true)),(77,(.mk .func 1 [.nilFunc] 8 false false)),(82,(.mk .func 1 [.nilFunc] 8 false false)),(90,(.mk .func 1 [.nilFunc] 8 false false)),(91,(.mk (.ptr 93) 1 [(.pointer .none)] 8 false false)),(92,(.mk (.struct [(0,(47,1))]) 1 [(.int .i64 0)] 8 true true)),(93,(.mk (.struct [(0,(47,1))]) 1 [(.int .i64 0)] 8 true true)),(96,(.mk .func 1 [.nilFunc] 8 false false)),(97,(.mk .func 1 [.nilFunc] 8 false false)),(99,(.mk (.struct [(0,(22,1)),(1,(25,1)),(2,(3,1))]) 3 [(.slice .none 0 0),(.slice .none 0 0),(.int .i64 0)] 56 true true)),(100,(.mk .func 1 [.nilFunc] 8 false false)),(101,(.mk .func 1 [.nilFunc] 8 false false)),(104,(.mk .func 1 [.nilFunc] 8 false false)),(108,(.mk .func 1 [.nilFunc] 8 false false)),(109,(.mk .func 1 [.nilFunc] 8 false false)),(110,(.mk .func 1 [.nilFunc] 8 false false)),(112,(.mk .func 1 [.nilFunc] 8 false false)),(115,(.mk .func 1 [.nilFunc] 8 false false)),(116,(.mk .func 1 [.nilFunc] 8 false false)),(118,(.mk .func 1 [.nilFunc] 8 false false)),(120,(.mk .func 1 [.nilFunc] 8 false false)),(121,(.mk .func 1 [.nilFunc] 8 false false)),(123,(.mk .func 1 [.nilFunc] 8 false false)),(124,(.mk .func 1 [.nilFunc] 8 false false)),(127,(.mk (.struct [(0,(63,2)),(2,(63,2)),(4,(61,1))]) 5 [(.string (.mk (.mk []))),(.string (.mk (.mk []))),(.string (.mk (.mk []))),(.string (.mk (.mk []))),(.string (.mk (.mk [])))] 80 true true)),(134,(.mk (.slice 61 1) 1 [(.slice .none 0 0)] 24 false false)),(139,(.mk (.ptr 141) 1 [(.pointer .none)] 8 false false)),(141,(.mk (.struct [(0,(53,1)),(1,(47,1))]) 2 [(.slice .none 0 0),(.int .i64 0)] 32 true true)),(150,(.mk .str 1 [(.string (.mk (.mk [])))] 16 false false)),(153,(.mk (.ptr 183) 1 [(.pointer .none)] 8 false false)),(158,(.mk (.struct [(0,(39,7)),(7,(3,1))]) 8 [(.int .i64 0),(.int .i64 0),(.int .i64 0),(.int .i64 0),(.int .i64 0),(.int .i64 0),(.bool false),(.int .i64 0)] 64 true true)),(166,(.mk .func 1 [.nilFunc] 8 false false)),(175,(.mk .func 1 [.nilFunc] 8 false false)),(181,(.mk (.slice 150 1) 1 [(.slice .none 0 0)] 24 false false)),(183,(.mk (.struct [(0,(47,1))]) 1 [(.int .i64 0)] 8 true true)),(186,(.mk .func 1 [.nilFunc] 8 false false)),(189,(.mk .func 1 [.nilFunc] 8 false false)),(190,(.mk (.array 3 3 1) 3 [(.int .i64 0),(.int .i64 0),(.int .i64 0)] 24 false false)),(191,(.mk (.array 2 190 3) 6 [(.int .i64 0),(.int .i64 0),(.int .i64 0),(.int .i64 0),(.int .i64 0),(.int .i64 0)] 48 false false)),(202,(.mk (.ptr 207) 1 [(.pointer .none)] 8 false false)),(205,(.mk (.array 232 3 1) 232 [(.int .i64 0),(.int .i64 0),(.int .i64 0),(.int .i64 0),(.int .i64 0),(.int .i64 0),(.int .i64 0),(.int .i64 0),(.int .i64 0),(.int .i64 0),(.int .i64 0),(.int .i64 0),(.int .i64 0),(.int .i64 0),(.int .i64 0),(.int .i64 0),(.int .i64 0),(.int .i64 0),(.int .i64 0),(.int .i64 0),(.int .i64 0),(.int .i64 0),(.int .i64 0),(.int .i64 0),(.int .i64 0),(.int .i64 0),(.int .i64 0),(.int .i64 0),(.int .i64 0),(.int .i64 0),(.int .i64 0),(.int .i64 0),(.int .i64 0),(.int .i64 0),(.int .i64 0),(.int .i64 0),(.int .i64 0),(.int .i64 0),(.int .i64 0),(.int .i64 0),(.int .i64 0),(.int .i64 0),(.int .i64 0),(.int .i64 0),(.int .i64 0),(.int .i64 0),(.int .i64 0),(.int .i64 0),(.int .i64 0),(.int .i64 0),(.int .i64 0),(.int .i64 0),(.int .i64 0),(.int .i64 0),(.int .i64 0),(.int .i64 0),(.int .i64 0),(.int .i64 0),(.int .i64 0),(.int .i64 0),(.int .i64 0),(.int .i64 0),(.int .i64 0),(.int .i64 0),(.int .i64 0),(.int .i64 0),(.int .i64 0),(.int .i64 0),(.int .i64 0),(.int .i64 0),(.int .i64 0),(.int .i64 0),(.int .i64 0),(.int .i64 0),(.int .i64 0),(.int .i64 0),(.int .i64 0),(.int .i64 0),(.int .i64 0),(.int .i64 0),(.int .i64 0),(.int .i64 0),(.int .i64 0),(.int .i64 0),(.int .i64 0),(.int .i64 0),(.int .i64 0),(.int .i64 0),(.int .i64 0),(.int .i64 0),(.int .i64 0),(.int .i64 0),(.int .i64 0),(.int .i64 0),(.int .i64 0),(.int .i64 0),(.int .i64 0),(.int .i64 0),(.int .i64 0),(.int .i64 0),(.int .i64 0),(.int .i64 0),(.int .i64 0),(.int .i64 0),(.int .i64 0),(.int .i64 0),(.int .i64 0),(.int .i64 0),(.int .i64 0),(.int .i64 0),(.int .i64 0),(.int .i64 0),(.int .i64 0),(.int .i64 0),(.int .i64 0),(.int .i64 0),(.int .i64 0),(.int .i64 0),(.int .i64 0),(.int .i64 0),(.int .i64 0),(.int .i64 0),(.int .i64 0),(.int .i64 0),(.int .i64 0),(.int .i64 0),(.int .i64 0),(.int .i64 0),(.int .i64 0),(.int .i64 0),(.int .i64 0),(.int .i64 0),(.int .i64 0),(.int .i64 0),(.int .i64 0),(.int .i64 0),(.int .i64 0),(.int .i64 0),(.int .i64 0),(.int .i64 0),(.int .i64 0),(.int .i64 0),(.int .i64 0),(.int .i64 0),(.int .i64 0),(.int .i64 0),(.int .i64 0),(.int .i64 0),(.int .i64 0),(.int .i64 0),(.int .i64 0),(.int .i64 0),(.int .i64 0),(.int .i64 0),(.int .i64 0),(.int .i64 0),(.int .i64 0),(.int .i64 0),(.int .i64 0),(.int .i64 0),(.int .i64 0),(.int .i64 0),(.int .i64 0),(.int .i64 0),(.int .i64 0),(.int .i64 0),(.int .i64 0),(.int .i64 0),(.int .i64 0),(.int .i64 0),(.int .i64 0),(.int .i64 0),(.int .i64 0),(.int .i64 0),(.int .i64 0),(.int .i64 0),(.int .i64 0),(.int .i64 0),(.int .i64 0),(.int .i64 0),(.int .i64 0),(.int .i64 0),(.int .i64 0),(.int .i64 0),(.int .i64 0),(.int .i64 0),(.int .i64 0),(.int .i64 0),(.int .i64 0),(.int .i64 0),(.int .i64 0),(.int .i64 0),(.int .i64 0),(.int .i64 0),(.int .i64 0),(.int .i64 0),(.int .i64 0),(.int .i64 0),(.int .i64 0),(.int .i64 0),(.int .i64 0),(.int .i64 0),(.int .i64 0),(.int .i64 0),(.int .i64 0),(.int .i64 0),(.int .i64 0),(.int .i64 0),(.int .i64 0),(.int .i64 0),(.int .i64 0),(.int .i64 0),(.int .i64 0),(.int .i64 0),(.int .i64 0),(.int .i64 0),(.int .i64 0),(.int .i64 0),(.int .i64 0),(.int .i64 0),(.int .i64 0),(.int .i64 0),(.int .i64 0),(.int .i64 0),(.int .i64 0),(.int .i64 0),(.int .i64 0),(.int .i64 0),(.int .i64 0),(.int .i64 0),(.int .i64 0),(.int .i64 0)] 1856 false false)),(207,(.mk (.struct [(0,(4,1)),(1,(3,1)),(2,(205,232))]) 234 [(.bool false),(.int .i64 0),(.int .i64 0),(.int .i64 0),(.int .i64 0),(.int .i64 0),(.int .i64 0),(.int .i64 0),(.int .i64 0),(.int .i64 0),(.int .i64 0),(.int .i64 0),(.int .i64 0),(.int .i64 0),(.int .i64 0),(.int .i64 0),(.int .i64 0),(.int .i64 0),(.int .i64 0),(.int .i64 0),(.int .i64 0),(.int .i64 0),(.int .i64 0),(.int .i64 0),(.int .i64 0),(.int .i64 0),(.int .i64 0),(.int .i64 0),(.int .i64 0),(.int .i64 0),(.int .i64 0),(.int .i64 0),(.int .i64 0),(.int .i64 0),(.int .i64 0),(.int .i64 0),(.int .i64 0),(.int .i64 0),(.int .i64 0),(.int .i64 0),(.int .i64 0),(.int .i64 0),(.int .i64 0),(.int .i64 0),(.int .i64 0),(.int .i64 0),(.int .i64 0),(.int .i64 0),(.int .i64 0),(.int .i64 0),(.int .i64 0),(.int .i64 0),(.int .i64 0),(.int .i64 0),(.int .i64 0),(.int .i64 0),(.int .i64 0),(.int .i64 0),(.int .i64 0),(.int .i64 0),(.int .i64 0),(.int .i64 0),(.int .i64 0),(.int .i64 0),(.int .i64 0),(.int .i64 0),(.int .i64 0),(.int .i64 0),(.int .i64 0),(.int .i64 0),(.int .i64 0),(.int .i64 0),(.int .i64 0),(.int .i64 0),(.int .i64 0),(.int .i64 0),(.int .i64 0),(.int .i64 0),(.int .i64 0),(.int .i64 0),(.int .i64 0),(.int .i64 0),(.int .i64 0),(.int .i64 0),(.int .i64 0),(.int .i64 0),(.int .i64 0),(.int .i64 0),(.int .i64 0),(.int .i64 0),(.int .i64 0),(.int .i64 0),(.int .i64 0),(.int .i64 0),(.int .i64 0),(.int .i64 0),(.int .i64 0),(.int .i64 0),(.int .i64 0),(.int .i64 0),(.int .i64 0),(.int .i64 0),(.int .i64 0),(.int .i64 0),(.int .i64 0),(.int .i64 0),(.int .i64 0),(.int .i64 0),(.int .i64 0),(.int .i64 0),(.int .i64 0),(.int .i64 0),(.int .i64 0),(.int .i64 0),(.int .i64 0),(.int .i64 0),(.int .i64 0),(.int .i64 0),(.int .i64 0),(.int .i64 0),(.int .i64 0),(.int .i64 0),(.int .i64 0),(.int .i64 0),(.int .i64 0),(.int .i64 0),(.int .i64 0),(.int .i64 0),(.int .i64 0),(.int .i64 0),(.int .i64 0),(.int .i64 0),(.int .i64 0),(.int .i64 0),(.int .i64 0),(.int .i64 0),(.int .i64 0),(.int .i64 0),(.int .i64 0),(.int .i64 0),(.int .i64 0),(.int .i64 0),(.int .i64 0),(.int .i64 0),(.int .i64 0),(.int .i64 0),(.int .i64 0),(.int .i64 0),(.int .i64 0),(.int .i64 0),(.int .i64 0),(.int .i64 0),(.int .i64 0),(.int .i64 0),(.int .i64 0),(.int .i64 0),(.int .i64 0),(.int .i64 0),(.int .i64 0),(.int .i64 0),(.int .i64 0),(.int .i64 0),(.int .i64 0),(.int .i64 0),(.int .i64 0),(.int .i64 0),(.int .i64 0),(.int .i64 0),(.int .i64 0),(.int .i64 0),(.int .i64 0),(.int .i64 0),(.int .i64 0),(.int .i64 0),(.int .i64 0),(.int .i64 0),(.int .i64 0),(.int .i64 0),(.int .i64 0),(.int .i64 0),(.int .i64 0),(.int .i64 0),(.int .i64 0),(.int .i64 0),(.int .i64 0),(.int .i64 0),(.int .i64 0),(.int .i64 0),(.int .i64 0),(.int .i64 0),(.int .i64 0),(.int .i64 0),(.int .i64 0),(.int .i64 0),(.int .i64 0),(.int .i64 0),(.int .i64 0),(.int .i64 0),(.int .i64 0),(.int .i64 0),(.int .i64 0),(.int .i64 0),(.int .i64 0),(.int .i64 0),(.int .i64 0),(.int .i64 0),(.int .i64 0),(.int .i64 0),(.int .i64 0),(.int .i64 0),(.int .i64 0),(.int .i64 0),(.int .i64 0),(.int .i64 0),(.int .i64 0),(.int .i64 0),(.int .i64 0),(.int .i64 0),(.int .i64 0),(.int .i64 0),(.int .i64 0),(.int .i64 0),(.int .i64 0),(.int .i64 0),(.int .i64 0),(.int .i64 0),(.int .i64 0),(.int .i64 0),(.int .i64 0),(.int .i64 0),(.int .i64 0),(.int .i64 0),(.int .i64 0),(.int .i64 0)] 1872 true true)),(238,(.mk (.slice 5 1) 1 [(.slice .none 0 0)] 24 false false)),(255,(.mk .func 1 [.nilFunc] 8 false false)),(256,(.mk (.ptr 5) 1 [(.pointer .none)] 8 false false)),(259,(.mk (.int .u64) 1 [(.int .u64 0)] 8 false false)),(279,(.mk (.array 20 259 1) 20 [(.int .u64 0),(.int .u64 0),(.int .u64 0),(.int .u64 0),(.int .u64 0),(.int .u64 0),(.int .u64 0),(.int .u64 0),(.int .u64 0),(.int .u64 0),(.int .u64 0),(.int .u64 0),(.int .u64 0),(.int .u64 0),(.int .u64 0),(.int .u64 0),(.int .u64 0),(.int .u64 0),(.int .u64 0),(.int .u64 0)] 160 false false)),(280,(.mk (.int .u32) 1 [(.int .u32 0)] 4 false false)),(308,(.mk (.array 0 16 1) 0 [] 0 false false)),(310,(.mk (.struct [(0,(308,0))]) 0 [] 0 false true)),(312,(.mk (.int .u8) 1 [(.int .u8 0)] 1 false false)),(313,(.mk (.int .u8) 1 [(.int .u8 0)] 1 false false)),(314,(.mk .func 1 [.nilFunc] 8 false false)),(315,(.mk (.int .i32) 1 [(.int .i32 0)] 4 false false)),(316,(.mk (.int .i32) 1 [(.int .i32 0)] 4 false false)),(318,(.mk (.struct [(0,(12,1)),(1,(12,1)),(2,(280,1)),(3,(312,1)),(4,(5,1)),(5,(5,1)),(6,(313,1)),(7,(314,1)),(8,(256,1)),(9,(315,1)),(10,(316,1))]) 11 [(.int .u64 0),(.int .u64 0),(.int .u32 0),(.int .u8 0),(.int .u8 0),(.int .u8 0),(.int .u8 0),.nilFunc,(.pointer .none),(.int .i32 0),(.int .i32 0)] 48 false true))]
noncomputable def qc:List (Nat×AV):=[(2,(.eptr [.int .u64,.int .u64,.int .u64,.int .u64,.int .u64,.int .u64,.int .u64,.int .u64,.int .u64,.int .u64,.int .u64,.int .u64,.int .u64,.int .u64,.int .u64,.int .u64,.int .u64,.int .u64,.int .u64,.int .u64] [[.i 1,.i 10,.i 100,.i 1000,.i 10000,.i 100000,.i 1000000,.i 10000000,.i 100000000,.i 1000000000,.i 10000000000,.i 100000000000,.i 1000000000000,.i 10000000000000,.i 100000000000000,.i 1000000000000000,.i 10000000000000000,.i 100000000000000000,.i 1000000000000000000,.i 10000000000000000000]] 0 0)),(0,(.eptr [.int .i64,.int .i64,.int .i64,.int .i64,.int .i64,.int .i64] [[.i (-1),.i (-1),.i 1,.i 1,.i 1,.i (-1)]] 0 0))]
theorem q9:q6m.map (fun x=>qkj Tryz.prog x.1)=q6m.map (·.2):=by kernel_rfl
theorem qe:Tryz.prog.follows .mixedOrders=true:=by kernel_rfl
noncomputable def qf(s:List (FuncId×(List AV→List Blk→Tree (AV×List Blk))))(b:List (FuncId×Func))(l:List ((FuncId×Nat)×(St→Tree (Ex×St))))(n:Nat):Env:=⟨q6m,qc,s,b,l,n,[],[],[]⟩
def qp6:Go.Shelf.Ren:=⟨fun|45=>9|n=>n,fun|22=>22|23=>39|n=>n,fun n=>n⟩
theorem qpy:q6R Tryz.prog 9 39:=qit (ρ:=qp6) (by kernel_rfl) ⟨ "slices.Delete[[]metrolab/api.Target,metrolab/api.Target]",by decide,Tryz.func9.trans (congrArg some (by kernel_rfl))⟩ (yV Tryz.func9 (by kernel_rfl) (by kernel_rfl)) Tryz.underlying0 Tryz.isAgg0 Tryz.sizeOf0 Tryz.zeroValue0 Tryz.underlying3 Tryz.isAgg3 Tryz.sizeOf3 Tryz.zeroValue3 Tryz.underlying4 Tryz.isAgg4 Tryz.sizeOf4 Tryz.zeroValue4 Tryz.underlying22 Tryz.isAgg22 Tryz.sizeOf22 Tryz.zeroValue22 _ Tryz.zeroValue39 (by kernel_rfl) (by kernel_rfl)
def qmg:Go.Shelf.Ren:=⟨fun|45=>11|n=>n,fun|22=>25|23=>43|n=>n,fun n=>n⟩
theorem qmL:q6R Tryz.prog 11 43:=qit (ρ:=qmg) (by kernel_rfl) ⟨ "slices.Delete[[]metrolab/api.Circle,metrolab/api.Circle]",by decide,Tryz.func11.trans (congrArg some (by kernel_rfl))⟩ (yV Tryz.func11 (by kernel_rfl) (by kernel_rfl)) Tryz.underlying0 Tryz.isAgg0 Tryz.sizeOf0 Tryz.zeroValue0 Tryz.underlying3 Tryz.isAgg3 Tryz.sizeOf3 Tryz.zeroValue3 Tryz.underlying4 Tryz.isAgg4 Tryz.sizeOf4 Tryz.zeroValue4 Tryz.underlying25 Tryz.isAgg25 Tryz.sizeOf25 Tryz.zeroValue25 _ Tryz.zeroValue43 (by kernel_rfl) (by kernel_rfl)
def qej:FIn:=⟨[(.int .i64)],[]⟩
def qe0:List FOut:=[⟨.bool,[],none⟩]
noncomputable def qip:=qf [] [(87,Tryz.f87)] [] 0
noncomputable def q1o:=qo qip 87 Tryz.f87 true qej qe0
theorem qiX:zk Tryz.prog qc 87 (qa qej qe0 q1o):=sk qip qe q9 aln aln (b1 Tryz.func87) Tryz.func87
def q49:FIn:=⟨[(.agg [(.int .i64),(.int .i64)])],[]⟩
def q4z:List FOut:=[⟨.bool,[],none⟩]
noncomputable def qci:=qf [(87,qa qej qe0 q1o)] [(57,Tryz.f57)] [] 0
noncomputable def vW:=qo qci 57 Tryz.f57 true q49 q4z
theorem q8p:zk Tryz.prog qc 57 (qa q49 q4z vW):=sk qci qe q9 (alc qiX aln) aln (b1 Tryz.func57) Tryz.func57
def q5M:FIn:=⟨[(.int .i64)],[]⟩
def q67:List FOut:=[⟨.bool,[],none⟩]
noncomputable def qeY:=qf [] [(58,Tryz.f58)] [] 0
noncomputable def vq:=qo qeY 58 Tryz.f58 true q5M q67
theorem q9Z:zk Tryz.prog qc 58 (qa q5M q67 vq):=sk qeY qe q9 aln aln (b1 Tryz.func58) Tryz.func58
def q8e:FIn:=⟨[(.agg [(.int .i64),(.int .i64),(.int .i64),(.int .i64),(.int .i64),(.int .i64),.bool])],[]⟩
def q7N:List FOut:=[⟨(.int .i64),[],none⟩]
noncomputable def qcG:=qf [(57,qa q49 q4z vW),(58,qa q5M q67 vq)] [(86,Tryz.f86)] [] 0
noncomputable def kH:=qo qcG 86 Tryz.f86 true q8e q7N
theorem qff:zk Tryz.prog qc 86 (qa q8e q7N kH):=sk qcG qe q9 (alc q8p (alc q9Z aln)) aln (b1 Tryz.func86) Tryz.func86
def q66:FIn:=⟨[(.agg [(.int .i64),(.int .i64),(.int .i64),(.int .i64),(.int .i64),(.int .i64),.bool]),(.agg [(.int .i64),(.int .i64),(.int .i64),(.int .i64),(.int .i64),(.int .i64),.bool])],[]⟩
def q5S:List FOut:=[⟨(.int .i64),[],none⟩]
noncomputable def qeV:=qf [(86,qa q8e q7N kH)] [(56,Tryz.f56)] [] 0
noncomputable def q1n:=qo qeV 56 Tryz.f56 true q66 q5S
theorem q9i:zk Tryz.prog qc 56 (qa q66 q5S q1n):=sk qeV qe q9 (alc qff aln) aln (b1 Tryz.func56) Tryz.func56
def q3T:FIn:=⟨[(.agg [(.imm [(.int .i64),(.int .i64),(.int .i64),(.int .i64),(.int .i64),(.int .i64),.bool]),(.imm [(.int .i64),(.int .i64),(.int .i64),(.int .i64),(.int .i64),(.int .i64),.bool])])],[]⟩
def q3X:List FOut:=[⟨(.int .i64),[],none⟩]
def q3F:Tmpl:={ t:=(.any::(.ptr 0 0)::.any::(.int .i64)::zV 37 []),h:=[.cells [(.imm [(.int .i64),(.int .i64),(.int .i64),(.int .i64),(.int .i64),(.int .i64),.bool]),(.imm [(.int .i64),(.int .i64),(.int .i64),(.int .i64),(.int .i64),(.int .i64),.bool])]] }
def q3y:List Out:=[⟨(.exit 0),{ t:=(zV 41 []),h:=[] }⟩,⟨.ret,{ t:=(.any::.any::(.int .i64)::zV 38 []),h:=[] }⟩]
noncomputable def q0R:=qf [(56,qa q66 q5S q1n)] [(29,Tryz.f29)] [] 0
noncomputable def uy:=q1D q0R 29 Tryz.f29 12 q3F q3y
theorem qc1:qC Tryz.prog qc q0R.nimp (qQ Tryz.prog q0R.iter 29) (vg Tryz.f29 12) (qB q3F q3y (qw uy)):=
 gk q0R qe q9 (alc q9i aln) aln (b1 Tryz.func29) Tryz.func29
noncomputable def qdj:=qf [(56,qa q66 q5S q1n)] [(29,Tryz.f29)] [((29,12),qB q3F q3y (qw uy))] 0
noncomputable def kQ:=qo qdj 29 Tryz.f29 true q3T q3X
theorem q8o:zk Tryz.prog qc 29 (qa q3T q3X kQ):=sk qdj qe q9 (alc q9i aln) (alc (lk Tryz.func29 qc1) aln) (b1 Tryz.func29) Tryz.func29
def q5P:FIn:=⟨[(.agg [(.int .i64),(.int .i64),(.int .i64)])],[]⟩
def q5N:List FOut:=[⟨(.int .i64),[],none⟩]
noncomputable def qf1:=qf [(57,qa q49 q4z vW),(58,qa q5M q67 vq)] [(30,Tryz.f30)] [] 0
noncomputable def kv:=qo qf1 30 Tryz.f30 true q5P q5N
theorem q9F:zk Tryz.prog qc 30 (qa q5P q5N kv):=sk qf1 qe q9 (alc q8p (alc q9Z aln)) aln (b1 Tryz.func30) Tryz.func30
def q2N:FIn:=⟨[(.agg [(.int .i64),(.int .i64),(.int .i64),(.int .i64),(.int .i64),(.int .i64),.bool]),(.int .i64)],[]⟩
def q2V:List FOut:=[⟨.bool,[],none⟩]
noncomputable def qbm:=qf [] [(31,Tryz.f31)] [] 0
noncomputable def yj:=qo qbm 31 Tryz.f31 true q2N q2V
theorem q75:zk Tryz.prog qc 31 (qa q2N q2V yj):=sk qbm qe q9 aln aln (b1 Tryz.func31) Tryz.func31
def q3W:FIn:=⟨[(.agg [(.imm [(.int .i64),(.int .i64),(.int .i64),(.int .i64),(.int .i64),(.int .i64),.bool]),(.imm [(.int .i64),(.int .i64),(.int .i64),(.int .i64),(.int .i64),(.int .i64),.bool])]),(.agg [(.imm [(.int .i64),(.int .i64),(.int .i64)]),(.imm [(.int .i64),(.int .i64),(.int .i64)])])],[]⟩
def q4l:List FOut:=[⟨(.int .i64),[],none⟩]
def q3D:Tmpl:={ t:=(.any::.any::(.ptr 0 0)::(.ptr 1 0)::.any::.any::(.int .i64)::zV 76 []),h:=[.cells [(.imm [(.int .i64),(.int .i64),(.int .i64),(.int .i64),(.int .i64),(.int .i64),.bool]),(.imm [(.int .i64),(.int .i64),(.int .i64),(.int .i64),(.int .i64),(.int .i64),.bool])],.cells [(.imm [(.int .i64),(.int .i64),(.int .i64)]),(.imm [(.int .i64),(.int .i64),(.int .i64)])]] }
def q3x:List Out:=[⟨(.exit 0),{ t:=(zV 83 []),h:=[] }⟩,⟨.ret,{ t:=(zV 4 ((.int .i64)::zV 78 [])),h:=[] }⟩]
noncomputable def q10:=qf [(29,qa q3T q3X kQ),(30,qa q5P q5N kv),(31,qa q2N q2V yj)] [(7,Tryz.f7)] [] 0
noncomputable def uw:=q1D q10 7 Tryz.f7 10 q3D q3x
theorem qbM:qC Tryz.prog qc q10.nimp (qQ Tryz.prog q10.iter 7) (vg Tryz.f7 10) (qB q3D q3x (qw uw)):=
 gk q10 qe q9 (alc q8o (alc q9F (alc q75 aln))) aln (b1 Tryz.func7) Tryz.func7
noncomputable def qd2:=qf [(29,qa q3T q3X kQ),(30,qa q5P q5N kv),(31,qa q2N q2V yj)] [(7,Tryz.f7)] [((7,10),qB q3D q3x (qw uw))] 0
noncomputable def ud:=qo qd2 7 Tryz.f7 true q3W q4l
theorem q8T:zk Tryz.prog qc 7 (qa q3W q4l ud):=sk qd2 qe q9 (alc q8o (alc q9F (alc q75 aln))) (alc (lk Tryz.func7 qbM) aln) (b1 Tryz.func7) Tryz.func7
def qbV:FIn:=⟨[(.agg [(.imm [(.int .i64),(.int .i64),(.int .i64),(.int .i64),(.int .i64),(.int .i64),.bool]),(.imm [(.int .i64),(.int .i64),(.int .i64),(.int .i64),(.int .i64),(.int .i64),.bool])]),(.agg [(.imm [(.int .i64),(.int .i64),(.int .i64)]),(.imm [(.int .i64),(.int .i64),(.int .i64)])])],[]⟩
def qbY:List FOut:=[⟨.bool,[],none⟩]
noncomputable def qgm:=qf [(7,qa q3W q4l ud)] [(6,Tryz.f6)] [] 0
noncomputable def q5y:=qo qgm 6 Tryz.f6 true qbV qbY
theorem qhZ:zk Tryz.prog qc 6 (qa qbV qbY q5y):=sk qgm qe q9 (alc q8T aln) aln (b1 Tryz.func6) Tryz.func6
def uZ:FIn:=⟨[.str,.str],[]⟩
def uW:List FOut:=[⟨(.int .i64),[],none⟩]
noncomputable def wl:List PV→TR:=qkq
theorem q2L:zk Tryz.prog qc 199 (qa uZ uW wl):=qmt Tryz.lays219 (yV Tryz.func199 (by kernel_rfl) (by kernel_rfl))
def jr:FIn:=⟨[.str,.str],[]⟩
def jq:List FOut:=[⟨(.tuple [.str,.str,.bool]),[],none⟩]
noncomputable def q0d:=qf [(199,qa uZ uW wl)] [(167,Tryz.f167)] [] 0
noncomputable def zx:=qo q0d 167 Tryz.f167 true jr jq
theorem q3q:zk Tryz.prog qc 167 (qa jr jq zx):=sk q0d qe q9 (alc q2L aln) aln (b1 Tryz.func167) Tryz.func167
def q7H:FIn:=⟨[.str,.str],[]⟩
def q8c:List FOut:=[⟨(.tuple [.str,.str,.bool]),[],none⟩]
noncomputable def qcn:=qf [(167,qa jr jq zx)] [(137,Tryz.f137)] [] 0
noncomputable def q1Z:=qo qcn 137 Tryz.f137 true q7H q8c
theorem qfq:zk Tryz.prog qc 137 (qa q7H q8c q1Z):=sk qcn qe q9 (alc q3q aln) aln (b1 Tryz.func137) Tryz.func137
def kn:FIn:=⟨[.str],[]⟩
def kC:List FOut:=[⟨(.tuple [.str,.str,.bool]),[],none⟩]
noncomputable def qgK:=qf [(137,qa q7H q8c q1Z)] [(113,Tryz.f113)] [] 0
noncomputable def qA:=qo qgK 113 Tryz.f113 true kn kC
theorem uI:zk Tryz.prog qc 113 (qa kn kC qA):=sk qgK qe q9 (alc qfq aln) aln (b1 Tryz.func113) Tryz.func113
def zn:FIn:=⟨[.str,.str],[]⟩
def zm:List FOut:=[⟨.bool,[],none⟩]
noncomputable def yl:=qf [] [(187,Tryz.f187)] [] 0
noncomputable def qt:=qo yl 187 Tryz.f187 true zn zm
theorem jj:zk Tryz.prog qc 187 (qa zn zm qt):=sk yl qe q9 aln aln (b1 Tryz.func187) Tryz.func187
def wy:FIn:=⟨[.str,.str],[]⟩
def wz:List FOut:=[⟨.str,[],none⟩]
noncomputable def jH:=qf [(187,qa zn zm qt)] [(168,Tryz.f168)] [] 0
noncomputable def qL:=qo jH 168 Tryz.f168 true wy wz
theorem q0N:zk Tryz.prog qc 168 (qa wy wz qL):=sk jH qe q9 (alc jj aln) aln (b1 Tryz.func168) Tryz.func168
def wC:FIn:=⟨[.str,.str],[]⟩
def wD:List FOut:=[⟨.str,[],none⟩]
noncomputable def q3J:=qf [(168,qa wy wz qL)] [(138,Tryz.f138)] [] 0
noncomputable def qD:=qo q3J 138 Tryz.f138 true wC wD
theorem vV:zk Tryz.prog qc 138 (qa wC wD qD):=sk q3J qe q9 (alc q0N aln) aln (b1 Tryz.func138) Tryz.func138
def qaY:FIn:=⟨[.str,.str],[]⟩
def qb6:List FOut:=[⟨.str,[],none⟩]
noncomputable def q2S:List PV→TR:=qqo
theorem qe8:zk Tryz.prog qc 139 (qa qaY qb6 q2S):=qoV Tryz.lays160 (yV Tryz.func139 (by kernel_rfl) (by kernel_rfl)) (by kernel_rfl)
def va:FIn:=⟨[.str],[]⟩
def vb:List FOut:=[⟨(.int .i64),[],none⟩]
noncomputable def qcM:=qf [(138,qa wC wD qD),(139,qa qaY qb6 q2S)] [(114,Tryz.f114)] [] 0
noncomputable def qz:=qo qcM 114 Tryz.f114 true va vb
theorem wJ:zk Tryz.prog qc 114 (qa va vb qz):=sk qcM qe q9 (alc vV (alc qe8 aln)) aln (b1 Tryz.func114) Tryz.func114
def jW:FIn:=⟨[(.imm [.str])],[]⟩
def jL:List FOut:=[⟨(.int .i64),[],none⟩]
def q7P:Tmpl:={ t:=(zV 6 ((.imm [.str])::(.int .i64)::(.int .i64)::zV 9 [])),h:=[] }
def q8i:List Out:=[⟨(.exit 0),{ t:=(zV 18 []),h:=[] }⟩,⟨.ret,{ t:=(.any::.any::(.int .i64)::zV 15 []),h:=[] }⟩]
noncomputable def q42:=qf [(114,qa va vb qz)] [(140,Tryz.f140)] [] 0
noncomputable def q21:=q1D q42 140 Tryz.f140 3 q7P q8i
theorem qfd:qC Tryz.prog qc q42.nimp (qQ Tryz.prog q42.iter 140) (vg Tryz.f140 3) (qB q7P q8i (qw q21)):=
 gk q42 qe q9 (alc wJ aln) aln (b1 Tryz.func140) Tryz.func140
noncomputable def qgV:=qf [(114,qa va vb qz)] [(140,Tryz.f140)] [((140,3),qB q7P q8i (qw q21))] 0
noncomputable def zi:=qo qgV 140 Tryz.f140 true jW jL
theorem j2:zk Tryz.prog qc 140 (qa jW jL zi):=sk qgV qe q9 (alc wJ aln) (alc (lk Tryz.func140 qfd) aln) (b1 Tryz.func140) Tryz.func140
def q3n:FIn:=⟨[.str],[]⟩
def q37:List FOut:=[⟨(.int .i64),[],none⟩]
noncomputable def qeX:=qf [] [(141,Tryz.f141)] [] 0
noncomputable def j1:=qo qeX 141 Tryz.f141 true q3n q37
theorem q4L:zk Tryz.prog qc 141 (qa q3n q37 j1):=sk qeX qe q9 aln aln (b1 Tryz.func141) Tryz.func141
def q6S:FIn:=⟨[.str,.str],[]⟩
def q74:List FOut:=[⟨(.int .i64),[],none⟩]
noncomputable def q06:List PV→TR:=qfy
theorem qaI:zk Tryz.prog qc 176 (qa q6S q74 q06):=qjL Tryz.lays106 (yV Tryz.func176 (by kernel_rfl) (by kernel_rfl))
def q7M:FIn:=⟨[.str,.str],[]⟩
def q8d:List FOut:=[⟨(.int .i64),[],none⟩]
noncomputable def qcl:=qf [(176,qa q6S q74 q06)] [(142,Tryz.f142)] [] 0
noncomputable def q1A:=qo qcl 142 Tryz.f142 true q7M q8d
theorem qfp:zk Tryz.prog qc 142 (qa q7M q8d q1A):=sk qcl qe q9 (alc qaI aln) aln (b1 Tryz.func142) Tryz.func142
def q56:FIn:=⟨[.str,.str],[]⟩
def q5r:List FOut:=[⟨(.tuple [(.int .i64),(.int .i64)]),[],none⟩]
noncomputable def q9P:=qf [(138,qa wC wD qD),(140,qa jW jL zi),(141,qa q3n q37 j1),(142,qa q7M q8d q1A)] [(115,Tryz.f115)] [] 0
noncomputable def kp:=qo q9P 115 Tryz.f115 true q56 q5r
theorem qcY:zk Tryz.prog qc 115 (qa q56 q5r kp):=sk q9P qe q9 (alc vV (alc j2 (alc q4L (alc qfp aln)))) aln (b1 Tryz.func115) Tryz.func115
def qbj:FIn:=⟨[(.int .i64)],[]⟩
def qb5:List FOut:=[⟨.str,[],none⟩]
noncomputable def q0K:List PV→TR:=qqJ
theorem qdK:zk Tryz.prog qc 122 (qa qbj qb5 q0K):=qpn Tryz.laysM171 (yV Tryz.func122 (by kernel_rfl) (by kernel_rfl)) (by kernel_rfl) (by unfold qc;exact List.mem_cons_self)
def q05:FIn:=⟨[(.int .i64)],[]⟩
def kL:List FOut:=[⟨.str,[],none⟩]
noncomputable def qig:=qf [(122,qa qbj qb5 q0K)] [(92,Tryz.f92)] [] 0
noncomputable def qV:=qo qig 92 Tryz.f92 true q05 kL
theorem u7:zk Tryz.prog qc 92 (qa q05 kL qV):=sk qig qe q9 (alc qdK aln) aln (b1 Tryz.func92) Tryz.func92
def q2Z:FIn:=⟨[.str],[]⟩
def q2R:List FOut:=[⟨(.tuple [(.int .i64),.any]),[],none⟩]
noncomputable def wt:List PV→TR:=qqB
theorem q2G:zk Tryz.prog qc 177 (qa q2Z q2R wt):=qpL Tryz.lays172 (yV Tryz.func177 (by kernel_rfl) (by kernel_rfl))
def qS:FIn:=⟨[(.ptr 0 0)],[.big [.bool,(.int .i64)] .i64 232]⟩
def qR:List FOut:=[⟨(.ptr 0 0),[.big [.bool,(.int .i64)] .i64 232],none⟩]
def uN:Tmpl:={ t:=((.ptr 0 0)::zV 28 []),h:=[.big [.bool,(.int .i64)] .i64 232] }
def uQ:List Out:=[⟨(.exit 0),{ t:=((.ptr 0 0)::zV 28 []),h:=[.big [.bool,(.int .i64)] .i64 232] }⟩]
noncomputable def jo:=qf [] [(178,Tryz.f178)] [] 1
noncomputable def wN:=q1D jo 178 Tryz.f178 2 uN uQ
theorem q6F:qC Tryz.prog qc jo.nimp (qQ Tryz.prog jo.iter 178) (vg Tryz.f178 2) (qB uN uQ (qw wN)):=
 gk jo qe q9 aln aln (b1 Tryz.func178) Tryz.func178
noncomputable def q3L:=qf [] [(178,Tryz.f178)] [((178,2),qB uN uQ (qw wN))] 1
noncomputable def qm:=qo q3L 178 Tryz.f178 false qS qR
theorem qZ:zk Tryz.prog qc 178 (qa qS qR qm):=qbP (E:=q3L) qe ⟨q3l q9,⟨aln,aln⟩,(alc (lk Tryz.func178 q6F) aln),(b1 Tryz.func178)⟩ Tryz.func178 (by kernel_rfl) (by kernel_rfl) (fun _=>rfl)
def jy:FIn:=⟨[.str],[]⟩
def jz:List FOut:=[⟨(.ptr 0 0),[.big [.bool,(.int .i64)] .i64 232],none⟩]
def q6v:Tmpl:={ t:=(.any::.any::.any::.str::(.ptr 0 0)::zV 43 []),h:=[.big [.bool,(.int .i64)] .i64 232] }
def q6P:List Out:=[⟨(.exit 0),{ t:=(zV 4 ((.ptr 0 0)::zV 43 [])),h:=[.big [.bool,(.int .i64)] .i64 232] }⟩]
noncomputable def q2Y:=qf [(138,qa wC wD qD),(177,qa q2Z q2R wt),(178,qa qS qR qm)] [(143,Tryz.f143)] [] 0
noncomputable def q0H:=q1D q2Y 143 Tryz.f143 5 q6v q6P
theorem qdM:qC Tryz.prog qc q2Y.nimp (qQ Tryz.prog q2Y.iter 143) (vg Tryz.f143 5) (qB q6v q6P (qw q0H)):=
 gk q2Y qe q9 (alc vV (alc q2G (alc qZ aln))) aln (b1 Tryz.func143) Tryz.func143
noncomputable def qeG:=qf [(138,qa wC wD qD),(177,qa q2Z q2R wt),(178,qa qS qR qm)] [(143,Tryz.f143)] [((143,5),qB q6v q6P (qw q0H))] 0
noncomputable def qX:=qo qeG 143 Tryz.f143 false jy jz
theorem jd:zk Tryz.prog qc 143 (qa jy jz qX):=qbP (E:=qeG) qe ⟨q3l q9,⟨(alc vV (alc q2G (alc qZ aln))),aln⟩,(alc (lk Tryz.func143 qdM) aln),(b1 Tryz.func143)⟩ Tryz.func143 (by kernel_rfl) (by kernel_rfl) (fun _=>rfl)
def wR:FIn:=⟨[(.ptr 0 0),(.ptr 1 0)],[.big [.bool,(.int .i64)] .i64 232,.big [.bool,(.int .i64)] .i64 232]⟩
def wQ:List FOut:=[⟨(.int .i64),[.big [.bool,(.int .i64)] .i64 232,.big [.bool,(.int .i64)] .i64 232],none⟩]
def kx:Tmpl:={ t:=((.ptr 0 0)::(.ptr 1 0)::.any::.any::.any::(.int .i64)::zV 53 []),h:=[.big [.bool,(.int .i64)] .i64 232,.big [.bool,(.int .i64)] .i64 232] }
def kD:List Out:=[⟨(.exit 0),{ t:=(zV 59 []),h:=[.big [.bool,(.int .i64)] .i64 232,.big [.bool,(.int .i64)] .i64 232] }⟩,⟨.ret,{ t:=(zV 4 ((.int .i64)::zV 54 [])),h:=[.big [.bool,(.int .i64)] .i64 232,.big [.bool,(.int .i64)] .i64 232] }⟩]
noncomputable def jF:=qf [] [(179,Tryz.f179)] [] 2
noncomputable def vo:=q1D jF 179 Tryz.f179 6 kx kD
theorem q7o:qC Tryz.prog qc jF.nimp (qQ Tryz.prog jF.iter 179) (vg Tryz.f179 6) (qB kx kD (qw vo)):=
 gk jF qe q9 aln aln (b1 Tryz.func179) Tryz.func179
noncomputable def q5x:=qf [] [(179,Tryz.f179)] [((179,6),qB kx kD (qw vo))] 2
noncomputable def z6:=qo q5x 179 Tryz.f179 true wR wQ
theorem jl:zk Tryz.prog qc 179 (qa wR wQ z6):=sk q5x qe q9 aln (alc (lk Tryz.func179 q7o) aln) (b1 Tryz.func179) Tryz.func179
def uC:FIn:=⟨[(.ptr 0 0),(.ptr 1 0)],[.big [.bool,(.int .i64)] .i64 232,.big [.bool,(.int .i64)] .i64 232]⟩
def uz:List FOut:=[⟨(.int .i64),[.big [.bool,(.int .i64)] .i64 232,.big [.bool,(.int .i64)] .i64 232],none⟩]
noncomputable def q8G:=qf [] [(180,Tryz.f180),(207,Tryz.f207)] [] 2
noncomputable def vF:=qo q8G 180 Tryz.f180 true uC uz
theorem q1g:zk Tryz.prog qc 180 (qa uC uz vF):=sk q8G qe q9 aln aln (alc (bk Tryz.func180) (alc (bk Tryz.func207) aln)) Tryz.func180
def zB:FIn:=⟨[(.ptr 0 0),(.ptr 1 0),(.int .i64),(.int .i64)],[.big [.bool,(.int .i64)] .i64 232,.big [.bool,(.int .i64)] .i64 232]⟩
def zz:List FOut:=[⟨(.tuple []),[.big [.bool,(.int .i64)] .i64 232,.big [.bool,(.int .i64)] .i64 232],none⟩]
def q0k:Tmpl:={ t:=((.ptr 0 0)::(.ptr 1 0)::(.int .i64)::(.int .i64)::zV 4 ((.int .i64)::(.int .i64)::zV 73 [])),h:=[.big [.bool,(.int .i64)] .i64 232,.big [.bool,(.int .i64)] .i64 232] }
def q0q:List Out:=[⟨(.exit 0),{ t:=((.ptr 0 0)::zV 82 []),h:=[.big [.bool,(.int .i64)] .i64 232,.big [.bool,(.int .i64)] .i64 232] }⟩]
noncomputable def yn:=qf [(178,qa qS qR qm)] [(181,Tryz.f181)] [] 2
noncomputable def wB:=q1D yn 181 Tryz.f181 3 q0k q0q
theorem q89:qC Tryz.prog qc yn.nimp (qQ Tryz.prog yn.iter 181) (vg Tryz.f181 3) (qB q0k q0q (qw wB)):=
 gk yn qe q9 (alc qZ aln) aln (b1 Tryz.func181) Tryz.func181
noncomputable def q64:=qf [(178,qa qS qR qm)] [(181,Tryz.f181)] [((181,3),qB q0k q0q (qw wB))] 2
noncomputable def qx:=qo q64 181 Tryz.f181 true zB zz
theorem wg:zk Tryz.prog qc 181 (qa zB zz qx):=sk q64 qe q9 (alc qZ aln) (alc (lk Tryz.func181 q89) aln) (b1 Tryz.func181) Tryz.func181
def yx:FIn:=⟨[(.ptr 0 0),(.ptr 1 0)],[.big [.bool,(.int .i64)] .i64 232,.big [.bool,(.int .i64)] .i64 232]⟩
def yK:List FOut:=[⟨(.tuple [(.ptr 2 0),(.ptr 3 0)]),[.big [.bool,(.int .i64)] .i64 232,.big [.bool,(.int .i64)] .i64 232,.big [.bool,(.int .i64)] .i64 232,.big [.bool,(.int .i64)] .i64 232],none⟩]
def q1E:Tmpl:={ t:=((.ptr 0 0)::(.ptr 1 0)::zV 4 ((.ptr 2 0)::(.ptr 3 0)::(.int .i64)::(.int .i64)::zV 80 [])),h:=[.big [.bool,(.int .i64)] .i64 232,.big [.bool,(.int .i64)] .i64 232,.big [.bool,(.int .i64)] .i64 232,.big [.bool,(.int .i64)] .i64 232] }
def q1G:List Out:=[⟨(.exit 2),{ t:=((.ptr 0 0)::(.ptr 1 0)::zV 4 ((.ptr 2 0)::(.ptr 3 0)::(.int .i64)::(.int .i64)::zV 80 [])),h:=[.big [.bool,(.int .i64)] .i64 232,.big [.bool,(.int .i64)] .i64 232,.big [.bool,(.int .i64)] .i64 232,.big [.bool,(.int .i64)] .i64 232] }⟩]
noncomputable def ke:=qf [(178,qa qS qR qm),(179,qa wR wQ z6),(180,qa uC uz vF),(181,qa zB zz qx)] [(144,Tryz.f144)] [] 2
noncomputable def vt:=q1D ke 144 Tryz.f144 14 q1E q1G
theorem q9y:qC Tryz.prog qc ke.nimp (qQ Tryz.prog ke.iter 144) (vg Tryz.f144 14) (qB q1E q1G (qw vt)):=
 gk ke qe q9 (alc qZ (alc jl (alc q1g (alc wg aln)))) aln (b1 Tryz.func144) Tryz.func144
def q2w:Tmpl:={ t:=((.ptr 0 0)::(.ptr 1 0)::zV 4 ((.ptr 2 0)::(.ptr 3 0)::(.int .i64)::zV 81 [])),h:=[.big [.bool,(.int .i64)] .i64 232,.big [.bool,(.int .i64)] .i64 232,.big [.bool,(.int .i64)] .i64 232,.big [.bool,(.int .i64)] .i64 232] }
def q2q:List Out:=[⟨(.exit 0),{ t:=(zV 6 ((.ptr 2 0)::(.ptr 3 0)::zV 82 [])),h:=[.big [.bool,(.int .i64)] .i64 232,.big [.bool,(.int .i64)] .i64 232,.big [.bool,(.int .i64)] .i64 232,.big [.bool,(.int .i64)] .i64 232] }⟩]
noncomputable def q02:=qf [(178,qa qS qR qm),(179,qa wR wQ z6),(180,qa uC uz vF),(181,qa zB zz qx)] [(144,Tryz.f144)] [((144,14),qB q1E q1G (qw vt))] 2
noncomputable def yO:=q1D q02 144 Tryz.f144 4 q2w q2q
theorem qaW:qC Tryz.prog qc q02.nimp (qQ Tryz.prog q02.iter 144) (vg Tryz.f144 4) (qB q2w q2q (qw yO)):=
 gk q02 qe q9 (alc qZ (alc jl (alc q1g (alc wg aln)))) (alc (lk Tryz.func144 q9y) aln) (b1 Tryz.func144) Tryz.func144
noncomputable def q9e:=qf [(178,qa qS qR qm),(179,qa wR wQ z6),(180,qa uC uz vF),(181,qa zB zz qx)] [(144,Tryz.f144)] [((144,4),qB q2w q2q (qw yO))] 2
noncomputable def zJ:=qo q9e 144 Tryz.f144 false yx yK
theorem ka:zk Tryz.prog qc 144 (qa yx yK zJ):=qbP (E:=q9e) qe ⟨q3l q9,⟨(alc qZ (alc jl (alc q1g (alc wg aln)))),aln⟩,(alc (lk Tryz.func144 qaW) aln),(b1 Tryz.func144)⟩ Tryz.func144 (by kernel_rfl) (by kernel_rfl) (fun _=>rfl)
def j9:FIn:=⟨[(.ptr 0 0)],[.big [.bool,(.int .i64)] .i64 232]⟩
def j8:List FOut:=[⟨.str,[.big [.bool,(.int .i64)] .i64 232],none⟩]
noncomputable def qy:List PV→TR:=qqR
theorem vO:zk Tryz.prog qc 145 (qa j9 j8 qy):=qph (by unfold qc;exact List.mem_cons_self)
def q4N:FIn:=⟨[.str,.str],[]⟩
def q53:List FOut:=[⟨(.tuple [.str,(.int .i64)]),[],none⟩]
def q6O:Tmpl:={ t:=(zV 9 ((.int .i64)::(.int .i64)::zV 61 [])),h:=[] }
def q6L:List Out:=[⟨(.exit 2),{ t:=(zV 9 ((.int .i64)::zV 62 [])),h:=[] }⟩]
noncomputable def q2W:=qf [(92,qa q05 kL qV),(140,qa jW jL zi),(143,qa jy jz qX),(144,qa yx yK zJ),(145,qa j9 j8 qy)] [(116,Tryz.f116)] [] 0
noncomputable def uJ:=q1D q2W 116 Tryz.f116 14 q6O q6L
theorem qe3:qC Tryz.prog qc q2W.nimp (qQ Tryz.prog q2W.iter 116) (vg Tryz.f116 14) (qB q6O q6L (qw uJ)):=
 gk q2W qe q9 (alc u7 (alc j2 (alc jd (alc ka (alc vO aln))))) aln (b1 Tryz.func116) Tryz.func116
def q7A:Tmpl:={ t:=(zV 7 ((.ptr 1 0)::(.ptr 2 0)::zV 63 [])),h:=[.dead,.big [.bool,(.int .i64)] .i64 232,.big [.bool,(.int .i64)] .i64 232],sw:=[(7,1),(8,2)],swn:=0 }
def q7R:List Out:=[⟨(.exit 0),{ t:=(zV 7 ((.ptr 1 0)::zV 64 [])),h:=[.dead,.big [.bool,(.int .i64)] .i64 232] }⟩,⟨.ret,{ t:=(zV 4 (.str::(.int .i64)::zV 66 [])),h:=[] }⟩]
noncomputable def q3S:=qf [(92,qa q05 kL qV),(140,qa jW jL zi),(143,qa jy jz qX),(144,qa yx yK zJ),(145,qa j9 j8 qy)] [(116,Tryz.f116)] [((116,14),qB q6O q6L (qw uJ))] 0
noncomputable def q24:=q1D q3S 116 Tryz.f116 7 q7A q7R
theorem qfi:qC Tryz.prog qc q3S.nimp (qQ Tryz.prog q3S.iter 116) (vg Tryz.f116 7) (qB q7A q7R (qw q24)):=
 gk q3S qe q9 (alc u7 (alc j2 (alc jd (alc ka (alc vO aln))))) (alc (lk Tryz.func116 qe3) aln) (b1 Tryz.func116) Tryz.func116
noncomputable def qgi:=qf [(92,qa q05 kL qV),(140,qa jW jL zi),(143,qa jy jz qX),(144,qa yx yK zJ),(145,qa j9 j8 qy)] [(116,Tryz.f116)] [((116,7),qB q7A q7R (qw q24))] 0
noncomputable def km:=qo qgi 116 Tryz.f116 true q4N q53
theorem q6w:zk Tryz.prog qc 116 (qa q4N q53 km):=sk qgi qe q9 (alc u7 (alc j2 (alc jd (alc ka (alc vO aln))))) (alc (lk Tryz.func116 qfi) aln) (b1 Tryz.func116) Tryz.func116
def kJ:FIn:=⟨[.str],[]⟩
def kN:List FOut:=[⟨(.int .i64),[],none⟩]
noncomputable def qd0:=qf [(113,qa kn kC qA),(114,qa va vb qz),(115,qa q56 q5r kp),(116,qa q4N q53 km)] [(79,Tryz.f79)] [] 0
noncomputable def wx:=qo qd0 79 Tryz.f79 true kJ kN
theorem q0Q:zk Tryz.prog qc 79 (qa kJ kN wx):=sk qd0 qe q9 (alc uI (alc wJ (alc qcY (alc q6w aln)))) aln (b1 Tryz.func79) Tryz.func79
def q40:FIn:=⟨[(.agg [.str,.str,.str])],[]⟩
def q41:List FOut:=[⟨(.int .i64),[],none⟩]
def q50:Tmpl:={ t:=(.any::(.ptr 0 0)::zV 12 ((.vec 1)::(.int .i64)::(.int .i64)::zV 13 [])),h:=[.cells [.str,.str,.str],.vec 61 [.str]] }
def q5h:List Out:=[⟨(.exit 0),{ t:=(.any::(.ptr 0 0)::zV 28 []),h:=[.cells [.str,.str,.str]] }⟩,⟨.ret,{ t:=(.any::.any::(.int .i64)::zV 27 []),h:=[] }⟩]
noncomputable def q1O:=qf [(79,qa kJ kN wx)] [(68,Tryz.f68)] [] 0
noncomputable def kt:=q1D q1O 68 Tryz.f68 3 q50 q5h
theorem qdr:qC Tryz.prog qc q1O.nimp (qQ Tryz.prog q1O.iter 68) (vg Tryz.f68 3) (qB q50 q5h (qw kt)):=
 gk q1O qe q9 (alc q0Q aln) aln (b1 Tryz.func68) Tryz.func68
noncomputable def qck:=qf [(79,qa kJ kN wx)] [(68,Tryz.f68)] [((68,3),qB q50 q5h (qw kt))] 0
noncomputable def kU:=qo qck 68 Tryz.f68 true q40 q41
theorem q8J:zk Tryz.prog qc 68 (qa q40 q41 kU):=sk qck qe q9 (alc q0Q aln) (alc (lk Tryz.func68 qdr) aln) (b1 Tryz.func68) Tryz.func68
def q9l:FIn:=⟨[(.imm [.str,.str,.str])],[]⟩
def q9b:List FOut:=[⟨(.int .i64),[],none⟩]
def q6t:Tmpl:={ t:=((.imm [.str,.str,.str])::zV 8 ((.imm [.str,.str,.str])::(.int .i64)::(.int .i64)::zV 12 [])),h:=[] }
def q6p:List Out:=[⟨(.exit 0),{ t:=((.imm [.str,.str,.str])::zV 23 []),h:=[] }⟩,⟨.ret,{ t:=(.any::.any::(.int .i64)::zV 21 []),h:=[] }⟩]
noncomputable def q2Q:=qf [(68,qa q40 q41 kU)] [(45,Tryz.f45)] [] 0
noncomputable def q0z:=q1D q2Q 45 Tryz.f45 6 q6t q6p
theorem qea:qC Tryz.prog qc q2Q.nimp (qQ Tryz.prog q2Q.iter 45) (vg Tryz.f45 6) (qB q6t q6p (qw q0z)):=
 gk q2Q qe q9 (alc q8J aln) aln (b1 Tryz.func45) Tryz.func45
noncomputable def qeI:=qf [(68,qa q40 q41 kU)] [(45,Tryz.f45)] [((45,6),qB q6t q6p (qw q0z))] 0
noncomputable def q1j:=qo qeI 45 Tryz.f45 true q9l q9b
theorem qgY:zk Tryz.prog qc 45 (qa q9l q9b q1j):=sk qeI qe q9 (alc q8J aln) (alc (lk Tryz.func45 qea) aln) (b1 Tryz.func45) Tryz.func45
def q1I:FIn:=⟨[.str,.str],[]⟩
def q20:List FOut:=[⟨(.tuple [(.int .i64),(.int .i64),.bool]),[],none⟩]
noncomputable def qd4:=qf [(177,qa q2Z q2R wt)] [(152,Tryz.f152)] [] 0
noncomputable def vR:=qo qd4 152 Tryz.f152 true q1I q20
theorem q3p:zk Tryz.prog qc 152 (qa q1I q20 vR):=sk qd4 qe q9 (alc q2G aln) aln (b1 Tryz.func152) Tryz.func152
def q2O:FIn:=⟨[(.int .i64)],[]⟩
def q2P:List FOut:=[⟨(.tuple [.str,(.int .i64)]),[],none⟩]
noncomputable def qbq:=qf [(92,qa q05 kL qV)] [(153,Tryz.f153)] [] 0
noncomputable def jZ:=qo qbq 153 Tryz.f153 true q2O q2P
theorem q6Z:zk Tryz.prog qc 153 (qa q2O q2P jZ):=sk qbq qe q9 (alc u7 aln) aln (b1 Tryz.func153) Tryz.func153
def q1T:FIn:=⟨[(.ptr 0 0),(.ptr 1 0)],[.big [.bool,(.int .i64)] .i64 232,.big [.bool,(.int .i64)] .i64 232]⟩
def q23:List FOut:=[⟨(.ptr 2 0),[.big [.bool,(.int .i64)] .i64 232,.big [.bool,(.int .i64)] .i64 232,.big [.bool,(.int .i64)] .i64 232],none⟩]
def q0t:Tmpl:={ t:=((.ptr 0 0)::(.ptr 1 0)::.any::.any::.any::(.ptr 2 0)::zV 15 ((.int .i64)::(.int .i64)::zV 14 [])),h:=[.big [.bool,(.int .i64)] .i64 232,.big [.bool,(.int .i64)] .i64 232,.big [.bool,(.int .i64)] .i64 232] }
def q0i:List Out:=[⟨(.exit 0),{ t:=(zV 5 ((.ptr 2 0)::zV 31 [])),h:=[.big [.bool,(.int .i64)] .i64 232,.big [.bool,(.int .i64)] .i64 232,.big [.bool,(.int .i64)] .i64 232] }⟩]
noncomputable def yo:=qf [(181,qa zB zz qx)] [(154,Tryz.f154)] [] 2
noncomputable def vJ:=q1D yo 154 Tryz.f154 4 q0t q0i
theorem q8m:qC Tryz.prog qc yo.nimp (qQ Tryz.prog yo.iter 154) (vg Tryz.f154 4) (qB q0t q0i (qw vJ)):=
 gk yo qe q9 (alc wg aln) aln (b1 Tryz.func154) Tryz.func154
noncomputable def q61:=qf [(181,qa zB zz qx)] [(154,Tryz.f154)] [((154,4),qB q0t q0i (qw vJ))] 2
noncomputable def jG:=qo q61 154 Tryz.f154 false q1T q23
theorem q9o:zk Tryz.prog qc 154 (qa q1T q23 jG):=qbP (E:=q61) qe ⟨q3l q9,⟨(alc wg aln),aln⟩,(alc (lk Tryz.func154 q8m) aln),(b1 Tryz.func154)⟩ Tryz.func154 (by kernel_rfl) (by kernel_rfl) (fun _=>rfl)
def vL:FIn:=⟨[(.ptr 0 0)],[.big [.bool,(.int .i64)] .i64 232]⟩
def vN:List FOut:=[⟨(.tuple [.str,(.int .i64)]),[.big [.bool,(.int .i64)] .i64 232],none⟩]
noncomputable def q3P:=qf [(114,qa va vb qz),(145,qa j9 j8 qy)] [(155,Tryz.f155)] [] 1
noncomputable def zg:=qo q3P 155 Tryz.f155 true vL vN
theorem u9:zk Tryz.prog qc 155 (qa vL vN zg):=sk q3P qe q9 (alc wJ (alc vO aln)) aln (b1 Tryz.func155) Tryz.func155
def q4W:FIn:=⟨[.str,.str],[]⟩
def q5n:List FOut:=[⟨(.tuple [.str,(.int .i64)]),[],none⟩]
noncomputable def qhf:=qf [(140,qa jW jL zi),(143,qa jy jz qX),(152,qa q1I q20 vR),(153,qa q2O q2P jZ),(154,qa q1T q23 jG),(155,qa vL vN zg)] [(125,Tryz.f125)] [] 0
noncomputable def q1a:=qo qhf 125 Tryz.f125 true q4W q5n
theorem q6E:zk Tryz.prog qc 125 (qa q4W q5n q1a):=sk qhf qe q9 (alc j2 (alc jd (alc q3p (alc q6Z (alc q9o (alc u9 aln)))))) aln (b1 Tryz.func125) Tryz.func125
def wW:FIn:=⟨[(.ptr 0 0),(.fn 125 [] []),.str,.str],[.cells [(.int .i64)]]⟩
def ve:List FOut:=[⟨.str,[.cells [(.int .i64)]],none⟩]
noncomputable def q0E:=qf [(125,qa q4W q5n q1a)] [(124,Tryz.f124)] [] 1
noncomputable def ze:=qo q0E 124 Tryz.f124 true wW ve
theorem uT:zk Tryz.prog qc 124 (qa wW ve ze):=sk q0E qe q9 (alc q6E aln) aln (b1 Tryz.func124) Tryz.func124
def wH:FIn:=⟨[(.ptr 0 0),(.imm [.str])],[.cells [(.int .i64)]]⟩
def wG:List FOut:=[⟨.str,[.cells [(.int .i64)]],none⟩]
def q1M:Tmpl:={ t:=(zV 5 (.str::(.fn 124 [(.ptr 0 0)] [])::zV 4 ((.imm [.str])::(.int .i64)::(.int .i64)::zV 9 []))),h:=[.cells [(.int .i64)]] }
def q1U:List Out:=[⟨(.exit 0),{ t:=(zV 5 (.str::zV 17 [])),h:=[.cells [(.int .i64)]] }⟩]
noncomputable def kg:=qf [(125,qa q4W q5n q1a),(124,qa wW ve ze)] [(95,Tryz.f95)] [] 1
noncomputable def vr:=q1D kg 95 Tryz.f95 4 q1M q1U
theorem qad:qC Tryz.prog qc kg.nimp (qQ Tryz.prog kg.iter 95) (vg Tryz.f95 4) (qB q1M q1U (qw vr)):=
 gk kg qe q9 (alc q6E (alc uT aln)) aln (b1 Tryz.func95) Tryz.func95
noncomputable def q8s:=qf [(125,qa q4W q5n q1a),(124,qa wW ve ze)] [(95,Tryz.f95)] [((95,4),qB q1M q1U (qw vr))] 1
noncomputable def qg:=qo q8s 95 Tryz.f95 true wH wG
theorem wT:zk Tryz.prog qc 95 (qa wH wG qg):=sk q8s qe q9 (alc q6E (alc uT aln)) (alc (lk Tryz.func95 qad) aln) (b1 Tryz.func95) Tryz.func95
def yw:FIn:=⟨[(.ptr 0 0),(.ptr 1 0)],[.big [.bool,(.int .i64)] .i64 232,.big [.bool,(.int .i64)] .i64 232]⟩
def yv:List FOut:=[⟨(.tuple []),[.big [.bool,(.int .i64)] .i64 232,.big [.bool,(.int .i64)] .i64 232],none⟩]
noncomputable def q7d:=qf [(179,qa wR wQ z6),(181,qa zB zz qx)] [(210,Tryz.f210)] [] 2
noncomputable def zv:=qo q7d 210 Tryz.f210 true yw yv
theorem q0l:zk Tryz.prog qc 210 (qa yw yv zv):=sk q7d qe q9 (alc jl (alc wg aln)) aln (b1 Tryz.func210) Tryz.func210
def qcb:FIn:=⟨[(.imm [.str])],[]⟩
def qbO:List FOut:=[⟨(.tuple [.str,(.int .i64)]),[],none⟩]
def q8h:Tmpl:={ t:=(zV 4 ((.ptr 0 0)::zV 4 ((.imm [.str])::(.int .i64)::(.int .i64)::zV 12 []))),h:=[.big [.bool,(.int .i64)] .i64 232] }
def q7Z:List Out:=[⟨(.exit 0),{ t:=(zV 4 ((.ptr 0 0)::zV 19 [])),h:=[.big [.bool,(.int .i64)] .i64 232] }⟩]
noncomputable def q4j:=qf [(143,qa jy jz qX),(155,qa vL vN zg),(210,qa yw yv zv)] [(219,Tryz.f219)] [] 0
noncomputable def q1W:=q1D q4j 219 Tryz.f219 4 q8h q7Z
theorem qfn:qC Tryz.prog qc q4j.nimp (qQ Tryz.prog q4j.iter 219) (vg Tryz.f219 4) (qB q8h q7Z (qw q1W)):=
 gk q4j qe q9 (alc jd (alc u9 (alc q0l aln))) aln (b1 Tryz.func219) Tryz.func219
noncomputable def qfT:=qf [(143,qa jy jz qX),(155,qa vL vN zg),(210,qa yw yv zv)] [(219,Tryz.f219)] [((219,4),qB q8h q7Z (qw q1W))] 0
noncomputable def q5q:=qo qfT 219 Tryz.f219 true qcb qbO
theorem qhS:zk Tryz.prog qc 219 (qa qcb qbO q5q):=sk qfT qe q9 (alc jd (alc u9 (alc q0l aln))) (alc (lk Tryz.func219 qfn) aln) (b1 Tryz.func219) Tryz.func219
def q5i:FIn:=⟨[.str,.str],[]⟩
def q4X:List FOut:=[⟨(.tuple [.str,(.int .i64)]),[],none⟩]
noncomputable def qh7:=qf [(140,qa jW jL zi),(152,qa q1I q20 vR),(153,qa q2O q2P jZ),(219,qa qcb qbO q5q)] [(196,Tryz.f196)] [] 0
noncomputable def kj:=qo qh7 196 Tryz.f196 true q5i q4X
theorem q6G:zk Tryz.prog qc 196 (qa q5i q4X kj):=sk qh7 qe q9 (alc j2 (alc q3p (alc q6Z (alc qhS aln)))) aln (b1 Tryz.func196) Tryz.func196
def q3B:FIn:=⟨[.str],[]⟩
def q3u:List FOut:=[⟨.str,[],none⟩]
noncomputable def q8r:=qf [(141,qa q3n q37 j1)] [(209,Tryz.f209)] [] 0
noncomputable def uG:=qo q8r 209 Tryz.f209 true q3B q3u
theorem qbI:zk Tryz.prog qc 209 (qa q3B q3u uG):=sk q8r qe q9 (alc q4L aln) aln (b1 Tryz.func209) Tryz.func209
def q7Y:FIn:=⟨[.str,.str],[]⟩
def q7O:List FOut:=[⟨(.tuple [.str,(.int .i64)]),[],none⟩]
noncomputable def qfW:=qf [(140,qa jW jL zi),(196,qa q5i q4X kj),(209,qa q3B q3u uG)] [(188,Tryz.f188)] [] 0
noncomputable def q2H:=qo qfW 188 Tryz.f188 true q7Y q7O
theorem qb3:zk Tryz.prog qc 188 (qa q7Y q7O q2H):=sk qfW qe q9 (alc j2 (alc q6G (alc qbI aln))) aln (b1 Tryz.func188) Tryz.func188
def jM:FIn:=⟨[(.ptr 0 0),(.fn 188 [] []),.str,.str],[.cells [(.int .i64)]]⟩
def jY:List FOut:=[⟨.str,[.cells [(.int .i64)]],none⟩]
noncomputable def q0G:=qf [(188,qa q7Y q7O q2H)] [(124,Tryz.f124)] [] 1
noncomputable def zL:=qo q0G 124 Tryz.f124 true jM jY
theorem q4A:zk Tryz.prog qc 124 (qa jM jY zL):=sk q0G qe q9 (alc qb3 aln) aln (b1 Tryz.func124) Tryz.func124
def ju:FIn:=⟨[(.ptr 0 0),.str,.str],[.cells [(.int .i64)]]⟩
def jt:List FOut:=[⟨.str,[.cells [(.int .i64)]],none⟩]
noncomputable def q8O:=qf [(188,qa q7Y q7O q2H),(124,qa jM jY zL)] [(148,Tryz.f148)] [] 1
noncomputable def qT:=qo q8O 148 Tryz.f148 true ju jt
theorem uk:zk Tryz.prog qc 148 (qa ju jt qT):=sk q8O qe q9 (alc qb3 (alc q4A aln)) aln (b1 Tryz.func148) Tryz.func148
def q3Z:FIn:=⟨[(.ptr 0 0),.str,.str,.str,.str],[.cells [(.int .i64)]]⟩
def q4D:List FOut:=[⟨(.tuple [.str,.str]),[.cells [(.int .i64)]],none⟩]
noncomputable def qdl:=qf [(95,qa wH wG qg),(148,qa ju jt qT)] [(163,Tryz.f163)] [] 1
noncomputable def kP:=qo qdl 163 Tryz.f163 true q3Z q4D
theorem q8E:zk Tryz.prog qc 163 (qa q3Z q4D kP):=sk qdl qe q9 (alc wT (alc uk aln)) aln (b1 Tryz.func163) Tryz.func163
def q16:FIn:=⟨[.str,.str],[]⟩
def q1e:List FOut:=[⟨.bool,[],none⟩]
noncomputable def q5g:=qf [(187,qa zn zm qt)] [(147,Tryz.f147)] [] 0
noncomputable def jk:=qo q5g 147 Tryz.f147 true q16 q1e
theorem q8W:zk Tryz.prog qc 147 (qa q16 q1e jk):=sk q5g qe q9 (alc jj aln) aln (b1 Tryz.func147) Tryz.func147
def q6H:FIn:=⟨[.str,.str],[]⟩
def q6n:List FOut:=[⟨.str,[],none⟩]
noncomputable def qbl:=qf [] [(149,Tryz.f149)] [] 0
noncomputable def uH:=qo qbl 149 Tryz.f149 true q6H q6n
theorem qe6:zk Tryz.prog qc 149 (qa q6H q6n uH):=sk qbl qe q9 aln aln (b1 Tryz.func149) Tryz.func149
def q6l:FIn:=⟨[.str,.str],[]⟩
def q6A:List FOut:=[⟨(.tuple [.str,.str,(.int .i64)]),[],none⟩]
noncomputable def qbc:=qf [(92,qa q05 kL qV),(140,qa jW jL zi),(143,qa jy jz qX),(144,qa yx yK zJ),(145,qa j9 j8 qy),(152,qa q1I q20 vR),(210,qa yw yv zv)] [(189,Tryz.f189)] [] 0
noncomputable def q0F:=qo qbc 189 Tryz.f189 true q6l q6A
theorem qel:zk Tryz.prog qc 189 (qa q6l q6A q0F):=sk qbc qe q9 (alc u7 (alc j2 (alc jd (alc ka (alc vO (alc q3p (alc q0l aln))))))) aln (b1 Tryz.func189) Tryz.func189
def q80:FIn:=⟨[.str,.str],[]⟩
def q7T:List FOut:=[⟨(.tuple [.str,(.int .i64)]),[],none⟩]
noncomputable def qg9:=qf [(114,qa va vb qz),(189,qa q6l q6A q0F)] [(150,Tryz.f150)] [] 0
noncomputable def q2r:=qo qg9 150 Tryz.f150 true q80 q7T
theorem qbf:zk Tryz.prog qc 150 (qa q80 q7T q2r):=sk qg9 qe q9 (alc wJ (alc qel aln)) aln (b1 Tryz.func150) Tryz.func150
def wY:FIn:=⟨[(.ptr 0 0),(.fn 116 [] []),.str,.str],[.cells [(.int .i64)]]⟩
def yd:List FOut:=[⟨.str,[.cells [(.int .i64)]],none⟩]
noncomputable def q0x:=qf [(116,qa q4N q53 km)] [(124,Tryz.f124)] [] 1
noncomputable def zO:=qo q0x 124 Tryz.f124 true wY yd
theorem q45:zk Tryz.prog qc 124 (qa wY yd zO):=sk q0x qe q9 (alc q6w aln) aln (b1 Tryz.func124) Tryz.func124
def v7:FIn:=⟨[(.ptr 0 0),(.fn 150 [] []),.str,.str],[.cells [(.int .i64)]]⟩
def jJ:List FOut:=[⟨.str,[.cells [(.int .i64)]],none⟩]
noncomputable def q0C:=qf [(150,qa q80 q7T q2r)] [(124,Tryz.f124)] [] 1
noncomputable def qG:=qo q0C 124 Tryz.f124 true v7 jJ
theorem q4q:zk Tryz.prog qc 124 (qa v7 jJ qG):=sk q0C qe q9 (alc qbf aln) aln (b1 Tryz.func124) Tryz.func124
def zp:FIn:=⟨[(.ptr 0 0),.str,.str],[.cells [(.int .i64)]]⟩
def zq:List FOut:=[⟨.str,[.cells [(.int .i64)]],none⟩]
noncomputable def q4O:=qf [(116,qa q4N q53 km),(147,qa q16 q1e jk),(148,qa ju jt qT),(149,qa q6H q6n uH),(150,qa q80 q7T q2r),(124,qvT [(wY,qa wY yd zO),(v7,qa v7 jJ qG)])] [(121,Tryz.f121)] [] 1
noncomputable def qp:=qo q4O 121 Tryz.f121 true zp zq
theorem zC:zk Tryz.prog qc 121 (qa zp zq qp):=sk q4O qe q9 (alc q6w (alc q8W (alc uk (alc qe6 (alc qbf (alc (qt1 (yV Tryz.func124 (by kernel_rfl) (by kernel_rfl)) (qnL q45 (qnL q4q qtI))) aln)))))) aln (b1 Tryz.func121) Tryz.func121
def j0:FIn:=⟨[(.imm [.str])],[]⟩
def j4:List FOut:=[⟨(.int .i64),[],none⟩]
def q3s:Tmpl:={ t:=(zV 6 ((.imm [.str])::(.int .i64)::(.int .i64)::zV 9 [])),h:=[] }
def q3H:List Out:=[⟨(.exit 0),{ t:=(zV 18 []),h:=[] }⟩,⟨.ret,{ t:=(.any::.any::(.int .i64)::zV 15 []),h:=[] }⟩]
noncomputable def q0T:=qf [(79,qa kJ kN wx)] [(123,Tryz.f123)] [] 0
noncomputable def uq:=q1D q0T 123 Tryz.f123 3 q3s q3H
theorem qbz:qC Tryz.prog qc q0T.nimp (qQ Tryz.prog q0T.iter 123) (vg Tryz.f123 3) (qB q3s q3H (qw uq)):=
 gk q0T qe q9 (alc q0Q aln) aln (b1 Tryz.func123) Tryz.func123
noncomputable def qb1:=qf [(79,qa kJ kN wx)] [(123,Tryz.f123)] [((123,3),qB q3s q3H (qw uq))] 0
noncomputable def qH:=qo qb1 123 Tryz.f123 true j0 j4
theorem ja:zk Tryz.prog qc 123 (qa j0 j4 qH):=sk qb1 qe q9 (alc q0Q aln) (alc (lk Tryz.func123 qbz) aln) (b1 Tryz.func123) Tryz.func123
def yT:FIn:=⟨[.str,.str,(.fn 163 [] [])],[]⟩
def yt:List FOut:=[⟨(.tuple [.str,(.int .i64)]),[],none⟩]
noncomputable def q1r:=qf [(113,qa kn kC qA),(121,qa zp zq qp),(123,qa j0 j4 qH),(163,qa q3Z q4D kP)] [(93,Tryz.f93)] [] 0
noncomputable def wk:=qo q1r 93 Tryz.f93 true yT yt
theorem q4Q:zk Tryz.prog qc 93 (qa yT yt wk):=sk q1r qe q9 (alc uI (alc zC (alc ja (alc q8E aln)))) aln (b1 Tryz.func93) Tryz.func93
def q7B:FIn:=⟨[.str,.str],[]⟩
def q7C:List FOut:=[⟨(.tuple [.str,(.int .i64)]),[],none⟩]
noncomputable def qh1:=qf [(163,qa q3Z q4D kP),(93,qa yT yt wk)] [(133,Tryz.f133)] [] 0
noncomputable def q2y:=qo qh1 133 Tryz.f133 true q7B q7C
theorem qba:zk Tryz.prog qc 133 (qa q7B q7C q2y):=sk qh1 qe q9 (alc q8E (alc q4Q aln)) aln (b1 Tryz.func133) Tryz.func133
def yh:FIn:=⟨[(.ptr 0 0),(.fn 133 [] []),.str,.str],[.cells [(.int .i64)]]⟩
def jP:List FOut:=[⟨.str,[.cells [(.int .i64)]],none⟩]
noncomputable def q0y:=qf [(133,qa q7B q7C q2y)] [(110,Tryz.f110)] [] 1
noncomputable def zI:=qo q0y 110 Tryz.f110 true yh jP
theorem q4w:zk Tryz.prog qc 110 (qa yh jP zI):=sk q0y qe q9 (alc qba aln) aln (b1 Tryz.func110) Tryz.func110
def ut:FIn:=⟨[(.ptr 0 0),.str,.str],[.cells [(.int .i64)]]⟩
def uF:List FOut:=[⟨.str,[.cells [(.int .i64)]],none⟩]
noncomputable def q8q:=qf [(133,qa q7B q7C q2y),(110,qa yh jP zI)] [(102,Tryz.f102)] [] 1
noncomputable def qK:=qo q8q 102 Tryz.f102 true ut uF
theorem q1i:zk Tryz.prog qc 102 (qa ut uF qK):=sk q8q qe q9 (alc qba (alc q4w aln)) aln (b1 Tryz.func102) Tryz.func102
def yk:FIn:=⟨[(.ptr 0 0),(.fn 196 [] []),.str,.str],[.cells [(.int .i64)]]⟩
def jS:List FOut:=[⟨.str,[.cells [(.int .i64)]],none⟩]
noncomputable def q0A:=qf [(196,qa q5i q4X kj)] [(124,Tryz.f124)] [] 1
noncomputable def zH:=qo q0A 124 Tryz.f124 true yk jS
theorem q4t:zk Tryz.prog qc 124 (qa yk jS zH):=sk q0A qe q9 (alc q6G aln) aln (b1 Tryz.func124) Tryz.func124
def q0Y:FIn:=⟨[(.ptr 0 0),.str,.str],[.cells [(.int .i64)]]⟩
def q0W:List FOut:=[⟨.str,[.cells [(.int .i64)]],none⟩]
noncomputable def q8F:=qf [(196,qa q5i q4X kj),(124,qa yk jS zH)] [(165,Tryz.f165)] [] 1
noncomputable def vE:=qo q8F 165 Tryz.f165 true q0Y q0W
theorem q4K:zk Tryz.prog qc 165 (qa q0Y q0W vE):=sk q8F qe q9 (alc q6G (alc q4t aln)) aln (b1 Tryz.func165) Tryz.func165
def q47:FIn:=⟨[(.ptr 0 0),.str,.str,.str,.str],[.cells [(.int .i64)]]⟩
def q3R:List FOut:=[⟨(.tuple [.str,.str]),[.cells [(.int .i64)]],none⟩]
noncomputable def qdv:=qf [(95,qa wH wG qg),(165,qa q0Y q0W vE)] [(164,Tryz.f164)] [] 1
noncomputable def q03:=qo qdv 164 Tryz.f164 true q47 q3R
theorem q8M:zk Tryz.prog qc 164 (qa q47 q3R q03):=sk qdv qe q9 (alc wT (alc q4K aln)) aln (b1 Tryz.func164) Tryz.func164
def yR:FIn:=⟨[.str,.str,(.fn 164 [] [])],[]⟩
def yN:List FOut:=[⟨(.tuple [.str,(.int .i64)]),[],none⟩]
noncomputable def q1m:=qf [(113,qa kn kC qA),(121,qa zp zq qp),(123,qa j0 j4 qH),(164,qa q47 q3R q03)] [(93,Tryz.f93)] [] 0
noncomputable def wj:=qo q1m 93 Tryz.f93 true yR yN
theorem q52:zk Tryz.prog qc 93 (qa yR yN wj):=sk q1m qe q9 (alc uI (alc zC (alc ja (alc q8M aln)))) aln (b1 Tryz.func93) Tryz.func93
def q8a:FIn:=⟨[.str,.str],[]⟩
def q84:List FOut:=[⟨(.tuple [.str,(.int .i64)]),[],none⟩]
noncomputable def qhd:=qf [(164,qa q47 q3R q03),(93,qa yR yN wj)] [(134,Tryz.f134)] [] 0
noncomputable def q2E:=qo qhd 134 Tryz.f134 true q8a q84
theorem qb8:zk Tryz.prog qc 134 (qa q8a q84 q2E):=sk qhd qe q9 (alc q8M (alc q52 aln)) aln (b1 Tryz.func134) Tryz.func134
def jK:FIn:=⟨[(.ptr 0 0),(.fn 134 [] []),.str,.str],[.cells [(.int .i64)]]⟩
def jU:List FOut:=[⟨.str,[.cells [(.int .i64)]],none⟩]
noncomputable def q0J:=qf [(134,qa q8a q84 q2E)] [(110,Tryz.f110)] [] 1
noncomputable def zE:=qo q0J 110 Tryz.f110 true jK jU
theorem q4x:zk Tryz.prog qc 110 (qa jK jU zE):=sk q0J qe q9 (alc qb8 aln) aln (b1 Tryz.func110) Tryz.func110
def uv:FIn:=⟨[(.ptr 0 0),.str,.str],[.cells [(.int .i64)]]⟩
def uE:List FOut:=[⟨.str,[.cells [(.int .i64)]],none⟩]
noncomputable def q8N:=qf [(134,qa q8a q84 q2E),(110,qa jK jU zE)] [(104,Tryz.f104)] [] 1
noncomputable def z7:=qo q8N 104 Tryz.f104 true uv uE
theorem q13:zk Tryz.prog qc 104 (qa uv uE z7):=sk q8N qe q9 (alc qb8 (alc q4x aln)) aln (b1 Tryz.func104) Tryz.func104
def q4s:FIn:=⟨[(.ptr 0 0),.str,.str,.str,.str],[.cells [(.int .i64)]]⟩
def q4B:List FOut:=[⟨(.tuple [.str,.str]),[.cells [(.int .i64)]],none⟩]
noncomputable def qcv:=qf [(95,qa wH wG qg)] [(94,Tryz.f94)] [] 1
noncomputable def q07:=qo qcv 94 Tryz.f94 true q4s q4B
theorem q8K:zk Tryz.prog qc 94 (qa q4s q4B q07):=sk qcv qe q9 (alc wT aln) aln (b1 Tryz.func94) Tryz.func94
def yG:FIn:=⟨[.str,.str,(.fn 94 [] [])],[]⟩
def yu:List FOut:=[⟨(.tuple [.str,(.int .i64)]),[],none⟩]
noncomputable def q1k:=qf [(94,qa q4s q4B q07),(113,qa kn kC qA),(121,qa zp zq qp),(123,qa j0 j4 qH)] [(93,Tryz.f93)] [] 0
noncomputable def wi:=qo q1k 93 Tryz.f93 true yG yu
theorem q5s:zk Tryz.prog qc 93 (qa yG yu wi):=sk q1k qe q9 (alc q8K (alc uI (alc zC (alc ja aln)))) aln (b1 Tryz.func93) Tryz.func93
def q2j:FIn:=⟨[.str,.str],[]⟩
def q2A:List FOut:=[⟨(.tuple [.str,(.int .i64)]),[],none⟩]
noncomputable def qhm:=qf [(94,qa q4s q4B q07),(93,qa yG yu wi)] [(63,Tryz.f63)] [] 0
noncomputable def ul:=qo qhm 63 Tryz.f63 true q2j q2A
theorem q2T:zk Tryz.prog qc 63 (qa q2j q2A ul):=sk qhm qe q9 (alc q8K (alc q5s aln)) aln (b1 Tryz.func63) Tryz.func63
def jX:FIn:=⟨[(.ptr 0 0),(.fn 63 [] []),.str,.str],[.cells [(.int .i64)]]⟩
def yg:List FOut:=[⟨.str,[.cells [(.int .i64)]],none⟩]
noncomputable def q0O:=qf [(63,qa q2j q2A ul)] [(110,Tryz.f110)] [] 1
noncomputable def zR:=qo q0O 110 Tryz.f110 true jX yg
theorem q4u:zk Tryz.prog qc 110 (qa jX yg zR):=sk q0O qe q9 (alc q2T aln) aln (b1 Tryz.func110) Tryz.func110
def ur:FIn:=⟨[(.ptr 0 0),.str,.str],[.cells [(.int .i64)]]⟩
def uB:List FOut:=[⟨.str,[.cells [(.int .i64)]],none⟩]
noncomputable def q8B:=qf [(63,qa q2j q2A ul),(110,qa jX yg zR)] [(106,Tryz.f106)] [] 1
noncomputable def qJ:=qo q8B 106 Tryz.f106 true ur uB
theorem q1d:zk Tryz.prog qc 106 (qa ur uB qJ):=sk q8B qe q9 (alc q2T (alc q4u aln)) aln (b1 Tryz.func106) Tryz.func106
def kT:FIn:=⟨[(.ptr 0 0),(.agg [.str,.str]),(.agg [.str,.str])],[.cells [(.int .i64)]]⟩
def q01:List FOut:=[⟨(.agg [.str,.str]),[.cells [(.int .i64)]],none⟩]
noncomputable def q70:=qf [(102,qa ut uF qK)] [(108,Tryz.f108)] [] 1
noncomputable def wP:=qo q70 108 Tryz.f108 true kT q01
theorem q3O:zk Tryz.prog qc 108 (qa kT q01 wP):=sk q70 qe q9 (alc q1i aln) aln (b1 Tryz.func108) Tryz.func108
def q0X:FIn:=⟨[(.ptr 0 0),(.agg [.str,.str]),(.agg [.str,.str])],[.cells [(.int .i64)]]⟩
def q0S:List FOut:=[⟨.str,[.cells [(.int .i64)]],none⟩]
noncomputable def q8L:=qf [(104,qa uv uE z7),(106,qa ur uB qJ)] [(109,Tryz.f109)] [] 1
noncomputable def zT:=qo q8L 109 Tryz.f109 true q0X q0S
theorem q4Y:zk Tryz.prog qc 109 (qa q0X q0S zT):=sk q8L qe q9 (alc q13 (alc q1d aln)) aln (b1 Tryz.func109) Tryz.func109
def q46:FIn:=⟨[(.ptr 0 0),.str,.str,.str,.str],[.cells [(.int .i64)]]⟩
def q4C:List FOut:=[⟨(.tuple [.str,.str]),[.cells [(.int .i64)]],none⟩]
noncomputable def qcD:=qf [(95,qa wH wG qg)] [(136,Tryz.f136)] [] 1
noncomputable def kY:=qo qcD 136 Tryz.f136 true q46 q4C
theorem q8x:zk Tryz.prog qc 136 (qa q46 q4C kY):=sk qcD qe q9 (alc wT aln) aln (b1 Tryz.func136) Tryz.func136
def yL:FIn:=⟨[.str,.str,(.fn 136 [] [])],[]⟩
def yq:List FOut:=[⟨(.tuple [.str,(.int .i64)]),[],none⟩]
noncomputable def q1p:=qf [(113,qa kn kC qA),(121,qa zp zq qp),(123,qa j0 j4 qH),(136,qa q46 q4C kY)] [(93,Tryz.f93)] [] 0
noncomputable def wd:=qo q1p 93 Tryz.f93 true yL yq
theorem q55:zk Tryz.prog qc 93 (qa yL yq wd):=sk q1p qe q9 (alc uI (alc zC (alc ja (alc q8x aln)))) aln (b1 Tryz.func93) Tryz.func93
def q7W:FIn:=⟨[.str,.str],[]⟩
def q88:List FOut:=[⟨(.tuple [.str,(.int .i64)]),[],none⟩]
noncomputable def qgD:=qf [(123,qa j0 j4 qH),(136,qa q46 q4C kY),(93,qa yL yq wd)] [(111,Tryz.f111)] [] 0
noncomputable def q2m:=qo qgD 111 Tryz.f111 true q7W q88
theorem qaZ:zk Tryz.prog qc 111 (qa q7W q88 q2m):=sk qgD qe q9 (alc ja (alc q8x (alc q55 aln))) aln (b1 Tryz.func111) Tryz.func111
def jO:FIn:=⟨[(.ptr 0 0),(.fn 111 [] []),.str,.str],[.cells [(.int .i64)]]⟩
def yi:List FOut:=[⟨.str,[.cells [(.int .i64)]],none⟩]
noncomputable def q0v:=qf [(111,qa q7W q88 q2m)] [(110,Tryz.f110)] [] 1
noncomputable def zf:=qo q0v 110 Tryz.f110 true jO yi
theorem q4n:zk Tryz.prog qc 110 (qa jO yi zf):=sk q0v qe q9 (alc qaZ aln) aln (b1 Tryz.func110) Tryz.func110
def kd:FIn:=⟨[(.ptr 0 0),(.imm [.str,.str,.str]),(.agg [(.int .i64),(.int .i64),(.int .i64)])],[.cells [(.int .i64)]]⟩
def uV:List FOut:=[⟨(.tuple [(.agg [.str,.str,.str,.str,.str]),.bool]),[.cells [(.int .i64)]],none⟩]
noncomputable def q6a:=qf [(102,qa ut uF qK),(104,qa uv uE z7),(106,qa ur uB qJ),(108,qa kT q01 wP),(109,qa q0X q0S zT),(111,qa q7W q88 q2m),(110,qa jO yi zf)] [(72,Tryz.f72)] [] 1
noncomputable def wu:=qo q6a 72 Tryz.f72 true kd uV
theorem q30:zk Tryz.prog qc 72 (qa kd uV wu):=sk q6a qe q9 (alc q1i (alc q13 (alc q1d (alc q3O (alc q4Y (alc qaZ (alc q4n aln))))))) aln (b1 Tryz.func72) Tryz.func72
def q9M:FIn:=⟨[.str],[]⟩
def q9V:List FOut:=[⟨(.tuple [(.int .i64),(.int .i64)]),[],none⟩]
noncomputable def qeB:=qf [(114,qa va vb qz),(141,qa q3n q37 j1)] [(220,Tryz.f220)] [] 0
noncomputable def q35:=qo qeB 220 Tryz.f220 true q9M q9V
theorem qgO:zk Tryz.prog qc 220 (qa q9M q9V q35):=sk qeB qe q9 (alc wJ (alc q4L aln)) aln (b1 Tryz.func220) Tryz.func220
def kR:FIn:=⟨[(.ptr 0 0),.str],[.cells [(.int .i64)]]⟩
def kV:List FOut:=[⟨(.int .i64),[.cells [(.int .i64)]],none⟩]
noncomputable def q6T:=qf [(220,qa q9M q9V q35)] [(198,Tryz.f198)] [] 1
noncomputable def qU:=qo q6T 198 Tryz.f198 true kR kV
theorem q3N:zk Tryz.prog qc 198 (qa kR kV qU):=sk q6T qe q9 (alc qgO aln) aln (b1 Tryz.func198) Tryz.func198
def q2D:FIn:=⟨[(.ptr 0 0),.str,.str,.str],[.cells [(.int .i64)]]⟩
def q2x:List FOut:=[⟨(.int .i64),[.cells [(.int .i64)]],none⟩]
noncomputable def q7h:=qf [(95,qa wH wG qg),(148,qa ju jt qT),(198,qa kR kV qU)] [(197,Tryz.f197)] [] 1
noncomputable def jb:=qo q7h 197 Tryz.f197 true q2D q2x
theorem qaL:zk Tryz.prog qc 197 (qa q2D q2x jb):=sk q7h qe q9 (alc wT (alc uk (alc q3N aln))) aln (b1 Tryz.func197) Tryz.func197
def q2t:FIn:=⟨[.str,.str,.str,.str,.str],[]⟩
def q2K:List FOut:=[⟨(.tuple [(.int .i64),(.int .i64)]),[],none⟩]
noncomputable def q6U:=qf [(95,qa wH wG qg),(113,qa kn kC qA),(123,qa j0 j4 qH),(148,qa ju jt qT),(165,qa q0Y q0W vE),(197,qa q2D q2x jb),(198,qa kR kV qU)] [(166,Tryz.f166)] [] 0
noncomputable def yA:=qo q6U 166 Tryz.f166 true q2t q2K
theorem qaJ:zk Tryz.prog qc 166 (qa q2t q2K yA):=sk q6U qe q9 (alc wT (alc uI (alc ja (alc uk (alc q4K (alc qaL (alc q3N aln))))))) aln (b1 Tryz.func166) Tryz.func166
def q3A:FIn:=⟨[.str,.str,.str],[]⟩
def q3G:List FOut:=[⟨(.tuple [(.int .i64),(.int .i64)]),[],none⟩]
noncomputable def q8H:=qf [(166,qa q2t q2K yA)] [(135,Tryz.f135)] [] 0
noncomputable def uo:=qo q8H 135 Tryz.f135 true q3A q3G
theorem qbR:zk Tryz.prog qc 135 (qa q3A q3G uo):=sk q8H qe q9 (alc qaJ aln) aln (b1 Tryz.func135) Tryz.func135
def q2v:FIn:=⟨[(.ptr 0 0),.str,.str,.str],[.cells [(.int .i64)]]⟩
def q2C:List FOut:=[⟨(.int .i64),[.cells [(.int .i64)]],none⟩]
noncomputable def q7x:=qf [(135,qa q3A q3G uo)] [(105,Tryz.f105)] [] 1
noncomputable def yS:=qo q7x 105 Tryz.f105 true q2v q2C
theorem qaQ:zk Tryz.prog qc 105 (qa q2v q2C yS):=sk q7x qe q9 (alc qbR aln) aln (b1 Tryz.func105) Tryz.func105
def uS:FIn:=⟨[(.ptr 0 0),(.agg [.str,.str,.str]),(.agg [.str,.str,.str,.str,.str])],[.cells [(.int .i64)]]⟩
def uY:List FOut:=[⟨.bool,[.cells [(.int .i64)]],none⟩]
noncomputable def q60:=qf [(102,qa ut uF qK),(104,qa uv uE z7),(105,qa q2v q2C yS),(106,qa ur uB qJ),(108,qa kT q01 wP),(109,qa q0X q0S zT)] [(74,Tryz.f74)] [] 1
noncomputable def vz:=qo q60 74 Tryz.f74 true uS uY
theorem q3k:zk Tryz.prog qc 74 (qa uS uY vz):=sk q60 qe q9 (alc q1i (alc q13 (alc qaQ (alc q1d (alc q3O (alc q4Y aln)))))) aln (b1 Tryz.func74) Tryz.func74
def zY:FIn:=⟨[(.ptr 0 0),(.imm [.str,.str,.str]),(.agg [(.int .i64),(.int .i64),(.int .i64)])],[.cells [(.int .i64)]]⟩
def zX:List FOut:=[⟨.bool,[.cells [(.int .i64)]],none⟩]
def ya:Tmpl:={ t:=((.imm [.str,.str,.str])::(.fn 76 [] [(.ptr 4 0)])::zV 5 ((.int .i64)::(.int .i64)::zV 10 [])),h:=[.cells [(.int .i64)],.cells [(.ptr 0 0)],.cells [(.int .i64),(.int .i64),(.int .i64)],.cells [.str,.str,.str,.str,.str],.cells [(.fn 73 [] [(.ptr 1 0),(.ptr 3 0)])]],fs:=[[(.imm [.str,.str,.str]),(.fn 76 [] [(.ptr 4 0)]),.any,.any,(.blit false),(.imm [.str,.str,.str]),(.fn 76 [] [(.ptr 4 0)]),.any,.any],[(.ptr 0 0),(.imm [.str,.str,.str]),(.agg [(.int .i64),(.int .i64),(.int .i64)]),(.ptr 1 0),.any,(.ptr 2 0),(.blit false),(.ptr 3 0),.bool,(.ptr 4 0),(.tuple [(.agg [.str,.str,.str,.str,.str]),.bool]),(.ptr 0 0),(.imm [.str,.str,.str]),(.agg [(.int .i64),(.int .i64),(.int .i64)]),(.tuple [(.agg [.str,.str,.str,.str,.str]),.bool]),(.agg [.str,.str,.str,.str,.str]),.bool,(.fn 73 [] [(.ptr 1 0),(.ptr 3 0)]),.bool,(.blit true),(.imm [.str,.str,.str]),(.fn 76 [] [(.ptr 4 0)]),.any,.any,.any,.any,.any,.any,.any,.any,.any,.any],[]] }
def jT:List Out:=[⟨(.exit 0),{ t:=(zV 19 []),h:=[.cells [(.int .i64)],.cells [(.ptr 0 0)],.cells [(.int .i64),(.int .i64),(.int .i64)],.cells [.str,.str,.str,.str,.str],.cells [(.fn 73 [] [(.ptr 1 0),(.ptr 3 0)])]],fs:=[[(.imm [.str,.str,.str]),(.fn 76 [] [(.ptr 4 0)]),.any,.any,(.blit false),(.imm [.str,.str,.str]),(.fn 76 [] [(.ptr 4 0)]),.any,.any],[(.ptr 0 0),(.imm [.str,.str,.str]),(.agg [(.int .i64),(.int .i64),(.int .i64)]),(.ptr 1 0),.any,(.ptr 2 0),(.blit false),(.ptr 3 0),.bool,(.ptr 4 0),(.tuple [(.agg [.str,.str,.str,.str,.str]),.bool]),(.ptr 0 0),(.imm [.str,.str,.str]),(.agg [(.int .i64),(.int .i64),(.int .i64)]),(.tuple [(.agg [.str,.str,.str,.str,.str]),.bool]),(.agg [.str,.str,.str,.str,.str]),.bool,(.fn 73 [] [(.ptr 1 0),(.ptr 3 0)]),.bool,(.blit true),(.imm [.str,.str,.str]),(.fn 76 [] [(.ptr 4 0)]),.any,.any,.any,.any,.any,.any,.any,.any,.any,.any],[]] }⟩,⟨.ret,{ t:=(zV 4 ((.int .i64)::zV 14 [])),h:=[.cells [(.int .i64)],.cells [(.ptr 0 0)],.cells [(.int .i64),(.int .i64),(.int .i64)],.cells [.str,.str,.str,.str,.str],.cells [(.fn 73 [] [(.ptr 1 0),(.ptr 3 0)])]],fs:=[[(.imm [.str,.str,.str]),(.fn 76 [] [(.ptr 4 0)]),.any,.any,(.blit false),(.imm [.str,.str,.str]),(.fn 76 [] [(.ptr 4 0)]),.any,.any],[(.ptr 0 0),(.imm [.str,.str,.str]),(.agg [(.int .i64),(.int .i64),(.int .i64)]),(.ptr 1 0),.any,(.ptr 2 0),(.blit false),(.ptr 3 0),.bool,(.ptr 4 0),(.tuple [(.agg [.str,.str,.str,.str,.str]),.bool]),(.ptr 0 0),(.imm [.str,.str,.str]),(.agg [(.int .i64),(.int .i64),(.int .i64)]),(.tuple [(.agg [.str,.str,.str,.str,.str]),.bool]),(.agg [.str,.str,.str,.str,.str]),.bool,(.fn 73 [] [(.ptr 1 0),(.ptr 3 0)]),.bool,(.blit true),(.imm [.str,.str,.str]),(.fn 76 [] [(.ptr 4 0)]),.any,.any,.any,.any,.any,.any,.any,.any,.any,.any],[]] }⟩]
noncomputable def vd:=qf [(72,qa kd uV wu),(74,qa uS uY vz)] [(48,Tryz.f48),(73,Tryz.f73),(75,Tryz.f75),(76,Tryz.f76),(112,Tryz.f112)] [] 1
noncomputable def zF:=q1D vd 112 Tryz.f112 3 ya jT
theorem q4c:qC Tryz.prog qc vd.nimp (qQ Tryz.prog vd.iter 112) (vg Tryz.f112 3) (qB ya jT (qw zF)):=
 gk vd qe q9 (alc q30 (alc q3k aln)) aln (alc (bk Tryz.func48) (alc (bk Tryz.func73) (alc (bk Tryz.func75) (alc (bk Tryz.func76) (alc (bk Tryz.func112) aln))))) Tryz.func112
noncomputable def q5c:=qf [(72,qa kd uV wu),(74,qa uS uY vz)] [(48,Tryz.f48),(73,Tryz.f73),(75,Tryz.f75),(76,Tryz.f76),(112,Tryz.f112)] [((112,3),qB ya jT (qw zF))] 1
noncomputable def qO:=qo q5c 48 Tryz.f48 true zY zX
theorem wL:zk Tryz.prog qc 48 (qa zY zX qO):=sk q5c qe q9 (alc q30 (alc q3k aln)) (alc (lk Tryz.func112 q4c) aln) (alc (bk Tryz.func48) (alc (bk Tryz.func73) (alc (bk Tryz.func75) (alc (bk Tryz.func76) (alc (bk Tryz.func112) aln))))) Tryz.func48
def q1L:FIn:=⟨[(.ptr 0 0),(.imm [.str,.str,.str])],[.cells [(.int .i64)]]⟩
def q1P:List FOut:=[⟨(.tuple [(.agg [(.int .i64),(.int .i64),(.int .i64)]),.bool]),[.cells [(.int .i64)]],none⟩]
def yJ:Tmpl:={ t:=(.yld::(.ptr 5 0)::zV 6 ((.int .i64)::(.int .i64)::zV 35 [])),h:=[.cells [(.int .i64)],.cells [(.ptr 0 0)],.cells [(.imm [.str,.str,.str])],.cells [(.int .i64),(.int .i64),(.int .i64)],.cells [.bool],.cells [(.int .i64)]],fs:=[[.any,.any,(.ptr 1 0),(.ptr 2 0),(.ptr 3 0),(.ptr 4 0),.any,.any,.any,(.fn 107 [] [(.ptr 5 0)]),.any,.any,.any,.any,.any,.any,.any],[]] }
def yH:List Out:=[⟨(.exit 0),{ t:=(.yld::(.ptr 5 0)::zV 43 []),h:=[.cells [(.int .i64)],.cells [(.ptr 0 0)],.cells [(.imm [.str,.str,.str])],.cells [(.int .i64),(.int .i64),(.int .i64)],.cells [.bool],.cells [(.int .i64)]],fs:=[[.any,.any,(.ptr 1 0),(.ptr 2 0),(.ptr 3 0),(.ptr 4 0),.any,.any,.any,(.fn 107 [] [(.ptr 5 0)]),.any,.any,.any,.any,.any,.any,.any],[]] }⟩,⟨.ret,{ t:=(zV 45 []),h:=[.cells [(.int .i64)],.cells [(.ptr 0 0)],.cells [(.imm [.str,.str,.str])],.cells [(.int .i64),(.int .i64),(.int .i64)],.cells [.bool],.cells [(.int .i64)]],fs:=[[.any,.any,(.ptr 1 0),(.ptr 2 0),(.ptr 3 0),(.ptr 4 0),.any,.any,.any,(.fn 107 [] [(.ptr 5 0)]),.any,.any,.any,.any,.any,.any,.any],[]],pend:=(.some .ret) }⟩]
noncomputable def vA:Env:={ tt:=q6m,glob:=qc,spec:=[(48,qa zY zX qO)],body:=[(46,Tryz.f46),(71,Tryz.f71),(107,Tryz.f107)],loops:=[],nimp:=1,iter:=[(107,46,3)] }
noncomputable def wc:=qko vA (some (46,Tryz.f46,3)) 107 Tryz.f107 2 yJ yH
theorem q4S:qC Tryz.prog qc vA.nimp (qQ Tryz.prog vA.iter 107) (vg Tryz.f107 2) (qB yJ yH (qw wc)):=
 q38 (E:=vA) qe ⟨q3l q9,⟨(alc wL aln),aln⟩,aln,(alc (bk Tryz.func46) (alc (bk Tryz.func71) (alc (bk Tryz.func107) aln)))⟩ Tryz.func107 (by kernel_rfl) (y:=some (46,Tryz.f46,3)) ⟨Tryz.func46,by kernel_rfl⟩ (by kernel_rfl) (by kernel_rfl) (fun _=>rfl)
def jV:Tmpl:={ t:=(.yld::(.ptr 5 0)::.any::.any::(.int .i64)::(.int .i64)::zV 13 ((.int .i64)::(.int .i64)::zV 9 ((.vec 6)::(.int .i64)::(.int .i64)::zV 12 []))),h:=[.cells [(.int .i64)],.cells [(.ptr 0 0)],.cells [(.imm [.str,.str,.str])],.cells [(.int .i64),(.int .i64),(.int .i64)],.cells [.bool],.cells [(.int .i64)],.vec 3 [(.int .i64)]],fs:=[[.any,.any,(.ptr 1 0),(.ptr 2 0),(.ptr 3 0),(.ptr 4 0),.any,.any,.any,(.fn 107 [] [(.ptr 5 0)]),.any,.any,.any,.any,.any,.any,.any],[]] }
def ye:List Out:=[⟨(.exit 6),{ t:=(.yld::(.ptr 5 0)::.any::.any::(.int .i64)::(.int .i64)::zV 13 ((.int .i64)::(.int .i64)::zV 24 [])),h:=[.cells [(.int .i64)],.cells [(.ptr 0 0)],.cells [(.imm [.str,.str,.str])],.cells [(.int .i64),(.int .i64),(.int .i64)],.cells [.bool],.cells [(.int .i64)]],fs:=[[.any,.any,(.ptr 1 0),(.ptr 2 0),(.ptr 3 0),(.ptr 4 0),.any,.any,.any,(.fn 107 [] [(.ptr 5 0)]),.any,.any,.any,.any,.any,.any,.any],[]] }⟩,⟨.ret,{ t:=(zV 45 []),h:=[.cells [(.int .i64)],.cells [(.ptr 0 0)],.cells [(.imm [.str,.str,.str])],.cells [(.int .i64),(.int .i64),(.int .i64)],.cells [.bool],.cells [(.int .i64)]],fs:=[[.any,.any,(.ptr 1 0),(.ptr 2 0),(.ptr 3 0),(.ptr 4 0),.any,.any,.any,(.fn 107 [] [(.ptr 5 0)]),.any,.any,.any,.any,.any,.any,.any],[]],pend:=(.some .ret) }⟩]
noncomputable def v6:Env:={ tt:=q6m,glob:=qc,spec:=[(48,qa zY zX qO)],body:=[(46,Tryz.f46),(71,Tryz.f71),(107,Tryz.f107)],loops:=[],nimp:=1,iter:=[(107,46,3)] }
noncomputable def zS:=qko v6 (some (46,Tryz.f46,3)) 107 Tryz.f107 20 jV ye
theorem q4v:qC Tryz.prog qc v6.nimp (qQ Tryz.prog v6.iter 107) (vg Tryz.f107 20) (qB jV ye (qw zS)):=
 q38 (E:=v6) qe ⟨q3l q9,⟨(alc wL aln),aln⟩,aln,(alc (bk Tryz.func46) (alc (bk Tryz.func71) (alc (bk Tryz.func107) aln)))⟩ Tryz.func107 (by kernel_rfl) (y:=some (46,Tryz.f46,3)) ⟨Tryz.func46,by kernel_rfl⟩ (by kernel_rfl) (by kernel_rfl) (fun _=>rfl)
def jQ:Tmpl:={ t:=(.yld::(.ptr 5 0)::.any::.any::(.int .i64)::(.int .i64)::zV 13 ((.int .i64)::(.int .i64)::zV 24 [])),h:=[.cells [(.int .i64)],.cells [(.ptr 0 0)],.cells [(.imm [.str,.str,.str])],.cells [(.int .i64),(.int .i64),(.int .i64)],.cells [.bool],.cells [(.int .i64)]],fs:=[[.any,.any,(.ptr 1 0),(.ptr 2 0),(.ptr 3 0),(.ptr 4 0),.any,.any,.any,(.fn 107 [] [(.ptr 5 0)]),.any,.any,.any,.any,.any,.any,.any],[]] }
def jN:List Out:=[⟨(.exit 4),{ t:=(.yld::(.ptr 5 0)::zV 17 ((.int .i64)::(.int .i64)::zV 24 [])),h:=[.cells [(.int .i64)],.cells [(.ptr 0 0)],.cells [(.imm [.str,.str,.str])],.cells [(.int .i64),(.int .i64),(.int .i64)],.cells [.bool],.cells [(.int .i64)]],fs:=[[.any,.any,(.ptr 1 0),(.ptr 2 0),(.ptr 3 0),(.ptr 4 0),.any,.any,.any,(.fn 107 [] [(.ptr 5 0)]),.any,.any,.any,.any,.any,.any,.any],[]] }⟩,⟨.ret,{ t:=(zV 45 []),h:=[.cells [(.int .i64)],.cells [(.ptr 0 0)],.cells [(.imm [.str,.str,.str])],.cells [(.int .i64),(.int .i64),(.int .i64)],.cells [.bool],.cells [(.int .i64)]],fs:=[[.any,.any,(.ptr 1 0),(.ptr 2 0),(.ptr 3 0),(.ptr 4 0),.any,.any,.any,(.fn 107 [] [(.ptr 5 0)]),.any,.any,.any,.any,.any,.any,.any],[]],pend:=(.some .ret) }⟩]
noncomputable def wZ:Env:={ tt:=q6m,glob:=qc,spec:=[(48,qa zY zX qO)],body:=[(46,Tryz.f46),(71,Tryz.f71),(107,Tryz.f107)],loops:=[((107,20),qB jV ye (qw zS))],nimp:=1,iter:=[(107,46,3)] }
noncomputable def zQ:=qko wZ (some (46,Tryz.f46,3)) 107 Tryz.f107 15 jQ jN
theorem q4m:qC Tryz.prog qc wZ.nimp (qQ Tryz.prog wZ.iter 107) (vg Tryz.f107 15) (qB jQ jN (qw zQ)):=
 q38 (E:=wZ) qe ⟨q3l q9,⟨(alc wL aln),aln⟩,(alc (lk Tryz.func107 q4v) aln),(alc (bk Tryz.func46) (alc (bk Tryz.func71) (alc (bk Tryz.func107) aln)))⟩ Tryz.func107 (by kernel_rfl) (y:=some (46,Tryz.f46,3)) ⟨Tryz.func46,by kernel_rfl⟩ (by kernel_rfl) (by kernel_rfl) (fun _=>rfl)
def yC:Tmpl:={ t:=(.yld::(.ptr 5 0)::zV 17 ((.int .i64)::(.int .i64)::zV 24 [])),h:=[.cells [(.int .i64)],.cells [(.ptr 0 0)],.cells [(.imm [.str,.str,.str])],.cells [(.int .i64),(.int .i64),(.int .i64)],.cells [.bool],.cells [(.int .i64)]],fs:=[[.any,.any,(.ptr 1 0),(.ptr 2 0),(.ptr 3 0),(.ptr 4 0),.any,.any,.any,(.fn 107 [] [(.ptr 5 0)]),.any,.any,.any,.any,.any,.any,.any],[]] }
def yD:List Out:=[⟨(.exit 2),{ t:=(zV 45 []),h:=[.cells [(.int .i64)],.cells [(.ptr 0 0)],.cells [(.imm [.str,.str,.str])],.cells [(.int .i64),(.int .i64),(.int .i64)],.cells [.bool],.cells [(.int .i64)]],fs:=[[.any,.any,(.ptr 1 0),(.ptr 2 0),(.ptr 3 0),(.ptr 4 0),.any,.any,.any,(.fn 107 [] [(.ptr 5 0)]),.any,.any,.any,.any,.any,.any,.any],[]] }⟩,⟨.ret,{ t:=(zV 45 []),h:=[.cells [(.int .i64)],.cells [(.ptr 0 0)],.cells [(.imm [.str,.str,.str])],.cells [(.int .i64),(.int .i64),(.int .i64)],.cells [.bool],.cells [(.int .i64)]],fs:=[[.any,.any,(.ptr 1 0),(.ptr 2 0),(.ptr 3 0),(.ptr 4 0),.any,.any,.any,(.fn 107 [] [(.ptr 5 0)]),.any,.any,.any,.any,.any,.any,.any],[]],pend:=(.some .ret) }⟩]
noncomputable def vB:Env:={ tt:=q6m,glob:=qc,spec:=[(48,qa zY zX qO)],body:=[(46,Tryz.f46),(71,Tryz.f71),(107,Tryz.f107)],loops:=[((107,15),qB jQ jN (qw zQ))],nimp:=1,iter:=[(107,46,3)] }
noncomputable def wh:=qko vB (some (46,Tryz.f46,3)) 107 Tryz.f107 9 yC yD
theorem q5w:qC Tryz.prog qc vB.nimp (qQ Tryz.prog vB.iter 107) (vg Tryz.f107 9) (qB yC yD (qw wh)):=
 q38 (E:=vB) qe ⟨q3l q9,⟨(alc wL aln),aln⟩,(alc (lk Tryz.func107 q4m) aln),(alc (bk Tryz.func46) (alc (bk Tryz.func71) (alc (bk Tryz.func107) aln)))⟩ Tryz.func107 (by kernel_rfl) (y:=some (46,Tryz.f46,3)) ⟨Tryz.func46,by kernel_rfl⟩ (by kernel_rfl) (by kernel_rfl) (fun _=>rfl)
noncomputable def q62:Env:={ tt:=q6m,glob:=qc,spec:=[(48,qa zY zX qO)],body:=[(46,Tryz.f46),(71,Tryz.f71),(107,Tryz.f107)],loops:=[((107,2),qB yJ yH (qw wc)),((107,9),qB yC yD (qw wh))],nimp:=1,iter:=[(107,46,3)] }
noncomputable def jE:=qo q62 46 Tryz.f46 true q1L q1P
theorem q97:zk Tryz.prog qc 46 (qa q1L q1P jE):=sk q62 qe q9 (alc wL aln) (alc (lk Tryz.func107 q4S) (alc (lk Tryz.func107 q5w) aln)) (alc (bk Tryz.func46) (alc (bk Tryz.func71) (alc (bk Tryz.func107) aln))) Tryz.func46
def q6y:FIn:=⟨[(.imm [.str,.str,.str])],[]⟩
def q6M:List FOut:=[⟨(.tuple [.bool,(.agg [(.int .i64),(.int .i64),(.int .i64)]),(.int .i64)]),[],none⟩]
noncomputable def qb0:=qf [(45,qa q9l q9b q1j),(46,qa q1L q1P jE)] [(17,Tryz.f17)] [] 0
noncomputable def q0D:=qo qb0 17 Tryz.f17 true q6y q6M
theorem qdQ:zk Tryz.prog qc 17 (qa q6y q6M q0D):=sk qb0 qe q9 (alc qgY (alc q97 aln)) aln (b1 Tryz.func17) Tryz.func17
def qap:FIn:=⟨[(.int .i64)],[]⟩
def qao:List FOut:=[⟨.bool,[],none⟩]
noncomputable def qiI:=qf [] [(126,Tryz.f126)] [] 0
noncomputable def jc:=qo qiI 126 Tryz.f126 true qap qao
theorem qdn:zk Tryz.prog qc 126 (qa qap qao jc):=sk qiI qe q9 aln aln (b1 Tryz.func126) Tryz.func126
def q5X:FIn:=⟨[(.int .i64)],[]⟩
def q5U:List FOut:=[⟨.bool,[],none⟩]
noncomputable def qeM:=qf [] [(127,Tryz.f127)] [] 0
noncomputable def vn:=qo qeM 127 Tryz.f127 true q5X q5U
theorem q9W:zk Tryz.prog qc 127 (qa q5X q5U vn):=sk qeM qe q9 aln aln (b1 Tryz.func127) Tryz.func127
def kK:FIn:=⟨[(.agg [(.int .i64),(.int .i64),(.int .i64),(.int .i64),(.int .i64),(.int .i64),.bool])],[]⟩
def q04:List FOut:=[⟨(.int .i64),[],none⟩]
noncomputable def qdc:=qf [(126,qa qap qao jc),(127,qa q5X q5U vn)] [(96,Tryz.f96)] [] 0
noncomputable def wX:=qo qdc 96 Tryz.f96 true kK q04
theorem q0Z:zk Tryz.prog qc 96 (qa kK q04 wX):=sk qdc qe q9 (alc qdn (alc q9W aln)) aln (b1 Tryz.func96) Tryz.func96
def q1V:FIn:=⟨[(.agg [(.int .i64),(.int .i64),(.int .i64),(.int .i64),(.int .i64),(.int .i64),.bool]),(.agg [(.int .i64),(.int .i64),(.int .i64),(.int .i64),(.int .i64),(.int .i64),.bool])],[]⟩
def q26:List FOut:=[⟨(.int .i64),[],none⟩]
def q2I:Tmpl:={ t:=(.any::.any::(.ptr 0 0)::(.ptr 1 0)::zV 6 ((.vec 2)::(.int .i64)::(.int .i64)::zV 31 [])),h:=[.cells [(.int .i64),(.int .i64),(.int .i64),(.int .i64),(.int .i64),(.int .i64),.bool],.cells [(.int .i64),(.int .i64),(.int .i64),(.int .i64),(.int .i64),(.int .i64),.bool],.vec 39 [(.int .i64),(.int .i64),(.int .i64),(.int .i64),(.int .i64),(.int .i64),.bool]] }
def q2F:List Out:=[⟨(.exit 0),{ t:=(.any::.any::(.ptr 0 0)::(.ptr 1 0)::zV 40 []),h:=[.cells [(.int .i64),(.int .i64),(.int .i64),(.int .i64),(.int .i64),(.int .i64),.bool],.cells [(.int .i64),(.int .i64),(.int .i64),(.int .i64),(.int .i64),(.int .i64),.bool]] }⟩,⟨.ret,{ t:=(zV 4 ((.int .i64)::zV 39 [])),h:=[] }⟩]
noncomputable def kM:=qf [(96,qa kK q04 wX)] [(88,Tryz.f88)] [] 0
noncomputable def j7:=q1D kM 88 Tryz.f88 3 q2I q2F
theorem qaX:qC Tryz.prog qc kM.nimp (qQ Tryz.prog kM.iter 88) (vg Tryz.f88 3) (qB q2I q2F (qw j7)):=
 gk kM qe q9 (alc q0Z aln) aln (b1 Tryz.func88) Tryz.func88
noncomputable def qa8:=qf [(96,qa kK q04 wX)] [(88,Tryz.f88)] [((88,3),qB q2I q2F (qw j7))] 0
noncomputable def yM:=qo qa8 88 Tryz.f88 true q1V q26
theorem q6d:zk Tryz.prog qc 88 (qa q1V q26 yM):=sk qa8 qe q9 (alc q0Z aln) (alc (lk Tryz.func88 qaX) aln) (b1 Tryz.func88) Tryz.func88
def jv:FIn:=⟨[(.agg [(.imm [(.int .i64),(.int .i64),(.int .i64),(.int .i64),(.int .i64),(.int .i64),.bool]),(.imm [(.int .i64),(.int .i64),(.int .i64),(.int .i64),(.int .i64),(.int .i64),.bool])])],[]⟩
def jw:List FOut:=[⟨(.int .i64),[],none⟩]
def q17:Tmpl:={ t:=(.any::(.ptr 0 0)::zV 23 ((.int .i64)::(.int .i64)::zV 17 [])),h:=[.cells [(.imm [(.int .i64),(.int .i64),(.int .i64),(.int .i64),(.int .i64),(.int .i64),.bool]),(.imm [(.int .i64),(.int .i64),(.int .i64),(.int .i64),(.int .i64),(.int .i64),.bool])]] }
def q19:List Out:=[⟨(.exit 1),{ t:=(zV 44 []),h:=[] }⟩,⟨.ret,{ t:=(.any::.any::(.int .i64)::zV 41 []),h:=[] }⟩]
noncomputable def yY:=qf [(88,qa q1V q26 yM)] [(59,Tryz.f59)] [] 0
noncomputable def jg:=q1D yY 59 Tryz.f59 10 q17 q19
theorem q8X:qC Tryz.prog qc yY.nimp (qQ Tryz.prog yY.iter 59) (vg Tryz.f59 10) (qB q17 q19 (qw jg)):=
 gk yY qe q9 (alc q6d aln) aln (b1 Tryz.func59) Tryz.func59
noncomputable def q8A:=qf [(88,qa q1V q26 yM)] [(59,Tryz.f59)] [((59,10),qB q17 q19 (qw jg))] 0
noncomputable def zU:=qo q8A 59 Tryz.f59 true jv jw
theorem ue:zk Tryz.prog qc 59 (qa jv jw zU):=sk q8A qe q9 (alc q6d aln) (alc (lk Tryz.func59 q8X) aln) (b1 Tryz.func59) Tryz.func59
def q92:FIn:=⟨[(.agg [(.int .i64),(.int .i64),(.int .i64)])],[]⟩
def q9C:List FOut:=[⟨(.int .i64),[],none⟩]
noncomputable def qeR:=qf [(126,qa qap qao jc),(127,qa q5X q5U vn)] [(120,Tryz.f120)] [] 0
noncomputable def q31:=qo qeR 120 Tryz.f120 true q92 q9C
theorem qfK:zk Tryz.prog qc 120 (qa q92 q9C q31):=sk qeR qe q9 (alc qdn (alc q9W aln)) aln (b1 Tryz.func120) Tryz.func120
def q9R:FIn:=⟨[(.agg [(.int .i64),(.int .i64),(.int .i64),(.int .i64),(.int .i64),(.int .i64),.bool]),(.agg [(.int .i64),(.int .i64),(.int .i64)])],[]⟩
def q9z:List FOut:=[⟨(.int .i64),[],none⟩]
noncomputable def qeN:=qf [(96,qa kK q04 wX),(120,qa q92 q9C q31)] [(89,Tryz.f89)] [] 0
noncomputable def q33:=qo qeN 89 Tryz.f89 true q9R q9z
theorem qfD:zk Tryz.prog qc 89 (qa q9R q9z q33):=sk qeN qe q9 (alc q0Z (alc qfK aln)) aln (b1 Tryz.func89) Tryz.func89
def qca:FIn:=⟨[(.agg [(.int .i64),(.int .i64),(.int .i64),(.int .i64),(.int .i64),(.int .i64),.bool]),(.agg [(.int .i64),(.int .i64),(.int .i64)])],[]⟩
def qbA:List FOut:=[⟨(.tuple [(.int .i64),(.int .i64)]),[],none⟩]
noncomputable def qgL:=qf [] [(90,Tryz.f90)] [] 0
noncomputable def q81:=qo qgL 90 Tryz.f90 true qca qbA
theorem qhL:zk Tryz.prog qc 90 (qa qca qbA q81):=sk qgL qe q9 aln aln (b1 Tryz.func90) Tryz.func90
def q12:FIn:=⟨[(.agg [(.int .i64),(.int .i64),(.int .i64),(.int .i64),(.int .i64),(.int .i64),.bool]),(.agg [(.int .i64),(.int .i64),(.int .i64)])],[]⟩
def q0V:List FOut:=[⟨(.tuple [(.int .i64),(.int .i64)]),[],none⟩]
noncomputable def q8C:=qf [(89,qa q9R q9z q33),(90,qa qca qbA q81)] [(60,Tryz.f60)] [] 0
noncomputable def wE:=qo q8C 60 Tryz.f60 true q12 q0V
theorem q5b:zk Tryz.prog qc 60 (qa q12 q0V wE):=sk q8C qe q9 (alc qfD (alc qhL aln)) aln (b1 Tryz.func60) Tryz.func60
def kI:FIn:=⟨[(.agg [(.int .i64),(.int .i64),(.int .i64),(.int .i64),(.int .i64),(.int .i64),.bool]),(.agg [(.int .i64),(.int .i64),(.int .i64)])],[]⟩
def q09:List FOut:=[⟨.bool,[],none⟩]
noncomputable def q72:=qf [] [(61,Tryz.f61)] [] 0
noncomputable def wO:=qo q72 61 Tryz.f61 true kI q09
theorem q3M:zk Tryz.prog qc 61 (qa kI q09 wO):=sk q72 qe q9 aln aln (b1 Tryz.func61) Tryz.func61
def q2u:FIn:=⟨[(.agg [(.imm [(.int .i64),(.int .i64),(.int .i64),(.int .i64),(.int .i64),(.int .i64),.bool]),(.imm [(.int .i64),(.int .i64),(.int .i64),(.int .i64),(.int .i64),(.int .i64),.bool])]),(.agg [(.imm [(.int .i64),(.int .i64),(.int .i64)]),(.imm [(.int .i64),(.int .i64),(.int .i64)])])],[]⟩
def q2p:List FOut:=[⟨(.int .i64),[],none⟩]
def q0m:Tmpl:={ t:=(.any::.any::(.ptr 0 0)::(.ptr 1 0)::zV 30 ((.int .i64)::(.int .i64)::zV 63 [])),h:=[.cells [(.imm [(.int .i64),(.int .i64),(.int .i64),(.int .i64),(.int .i64),(.int .i64),.bool]),(.imm [(.int .i64),(.int .i64),(.int .i64),(.int .i64),(.int .i64),(.int .i64),.bool])],.cells [(.imm [(.int .i64),(.int .i64),(.int .i64)]),(.imm [(.int .i64),(.int .i64),(.int .i64)])]] }
def q0s:List Out:=[⟨(.exit 0),{ t:=(zV 99 []),h:=[] }⟩,⟨.ret,{ t:=(zV 4 ((.int .i64)::zV 94 [])),h:=[] }⟩]
noncomputable def ym:=qf [(59,qa jv jw zU),(60,qa q12 q0V wE),(61,qa kI q09 wO)] [(34,Tryz.f34)] [] 0
noncomputable def vH:=q1D ym 34 Tryz.f34 10 q0m q0s
theorem q8j:qC Tryz.prog qc ym.nimp (qQ Tryz.prog ym.iter 34) (vg Tryz.f34 10) (qB q0m q0s (qw vH)):=
 gk ym qe q9 (alc ue (alc q5b (alc q3M aln))) aln (b1 Tryz.func34) Tryz.func34
noncomputable def q7w:=qf [(59,qa jv jw zU),(60,qa q12 q0V wE),(61,qa kI q09 wO)] [(34,Tryz.f34)] [((34,10),qB q0m q0s (qw vH))] 0
noncomputable def yF:=qo q7w 34 Tryz.f34 true q2u q2p
theorem qaP:zk Tryz.prog qc 34 (qa q2u q2p yF):=sk q7w qe q9 (alc ue (alc q5b (alc q3M aln))) (alc (lk Tryz.func34 q8j) aln) (b1 Tryz.func34) Tryz.func34
def wU:FIn:=⟨[(.int .i64),(.int .i64)],[]⟩
def wS:List FOut:=[⟨.bool,[],none⟩]
noncomputable def q5d:=qf [] [(37,Tryz.f37)] [] 0
noncomputable def w9:=qo q5d 37 Tryz.f37 true wU wS
theorem jn:zk Tryz.prog qc 37 (qa wU wS w9):=sk q5d qe q9 aln aln (b1 Tryz.func37) Tryz.func37
def vQ:FIn:=⟨[(.imm [(.int .i64)]),(.fn 37 [] [])],[]⟩
def vZ:List FOut:=[⟨(.imm [(.int .i64)]),[],none⟩]
def yb:Tmpl:={ t:=(.any::(.fn 37 [] [])::.any::.any::.any::(.vec 0)::.any::.any::(.imm [(.int .i64)])::(.int .i64)::(.int .i64)::zV 14 []),h:=[.vec 3 [(.int .i64)]],pro:=[(5,3,[(.int .i64)])] }
def yf:List Out:=[⟨(.exit 0),{ t:=(zV 5 ((.vec 0)::zV 19 [])),h:=[.vec 3 [(.int .i64)]] }⟩]
noncomputable def v8:=qf [(37,qa wU wS w9)] [(35,Tryz.f35)] [] 0
noncomputable def zb:=q1D v8 35 Tryz.f35 4 yb yf
theorem q3V:qC Tryz.prog qc v8.nimp (qQ Tryz.prog v8.iter 35) (vg Tryz.f35 4) (qB yb yf (qw zb)):=
 gk v8 qe q9 (alc jn aln) aln (b1 Tryz.func35) Tryz.func35
noncomputable def q1z:=qf [(37,qa wU wS w9)] [(35,Tryz.f35)] [((35,4),qB yb yf (qw zb))] 0
noncomputable def qM:=qo q1z 35 Tryz.f35 true vQ vZ
theorem q0b:zk Tryz.prog qc 35 (qa vQ vZ qM):=sk q1z qe q9 (alc jn aln) (alc (lk Tryz.func35 q3V) aln) (b1 Tryz.func35) Tryz.func35
def uu:FIn:=⟨[(.agg [(.imm [(.int .i64),(.int .i64),(.int .i64),(.int .i64),(.int .i64),(.int .i64),.bool]),(.imm [(.int .i64),(.int .i64),(.int .i64),(.int .i64),(.int .i64),(.int .i64),.bool])]),(.agg [(.imm [(.int .i64),(.int .i64),(.int .i64)]),(.imm [(.int .i64),(.int .i64),(.int .i64)])])],[]⟩
def un:List FOut:=[⟨(.imm [(.int .i64)]),[],none⟩]
def q29:Tmpl:={ t:=(.any::.any::.any::(.ptr 1 0)::.any::(.vec 2)::zV 4 ((.imm [(.int .i64),(.int .i64),(.int .i64),(.int .i64),(.int .i64),(.int .i64),.bool])::(.int .i64)::(.int .i64)::zV 27 [])),h:=[.dead,.cells [(.imm [(.int .i64),(.int .i64),(.int .i64)]),(.imm [(.int .i64),(.int .i64),(.int .i64)])],.vec 3 [(.int .i64)]],pro:=[(5,3,[(.int .i64)])] }
def q1B:List Out:=[⟨(.exit 0),{ t:=(zV 5 ((.vec 2)::zV 34 [])),h:=[.dead,.dead,.vec 3 [(.int .i64)]] }⟩]
noncomputable def uR:=qf [] [(36,Tryz.f36)] [] 0
noncomputable def vw:=q1D uR 36 Tryz.f36 4 q29 q1B
theorem q9f:qC Tryz.prog qc uR.nimp (qQ Tryz.prog uR.iter 36) (vg Tryz.f36 4) (qB q29 q1B (qw vw)):=
 gk uR qe q9 aln aln (b1 Tryz.func36) Tryz.func36
noncomputable def q8u:=qf [] [(36,Tryz.f36)] [((36,4),qB q29 q1B (qw vw))] 0
noncomputable def wF:=qo q8u 36 Tryz.f36 true uu un
theorem q1h:zk Tryz.prog qc 36 (qa uu un wF):=sk q8u qe q9 aln (alc (lk Tryz.func36 q9f) aln) (b1 Tryz.func36) Tryz.func36
def q9X:FIn:=⟨[.str,.str],[]⟩
def q9h:List FOut:=[⟨(.tuple [.str,(.int .i64)]),[],none⟩]
def q6N:Tmpl:={ t:=(.str::.str::zV 11 ((.vec 0)::(.int .i64)::(.int .i64)::zV 27 [])),h:=[.vec 150 [.str]] }
def q6D:List Out:=[⟨(.exit 0),{ t:=(.str::.str::zV 41 []),h:=[] }⟩,⟨.ret,{ t:=(zV 4 (.str::(.int .i64)::zV 37 [])),h:=[] }⟩]
noncomputable def q2U:=qf [(114,qa va vb qz),(121,qa zp zq qp)] [(91,Tryz.f91)] [] 0
noncomputable def uK:=q1D q2U 91 Tryz.f91 3 q6N q6D
theorem qdY:qC Tryz.prog qc q2U.nimp (qQ Tryz.prog q2U.iter 91) (vg Tryz.f91 3) (qB q6N q6D (qw uK)):=
 gk q2U qe q9 (alc wJ (alc zC aln)) aln (b1 Tryz.func91) Tryz.func91
noncomputable def qeW:=qf [(114,qa va vb qz),(121,qa zp zq qp)] [(91,Tryz.f91)] [((91,3),qB q6N q6D (qw uK))] 0
noncomputable def q39:=qo qeW 91 Tryz.f91 true q9X q9h
theorem qfR:zk Tryz.prog qc 91 (qa q9X q9h q39):=sk qeW qe q9 (alc wJ (alc zC aln)) (alc (lk Tryz.func91 qdY) aln) (b1 Tryz.func91) Tryz.func91
def qas:FIn:=⟨[(.int .i64),(.int .i64)],[]⟩
def qaf:List FOut:=[⟨(.tuple [.str,(.int .i64)]),[],none⟩]
noncomputable def qil:=qf [(91,qa q9X q9h q39),(92,qa q05 kL qV)] [(62,Tryz.f62)] [] 0
noncomputable def q4I:=qo qil 62 Tryz.f62 true qas qaf
theorem qcu:zk Tryz.prog qc 62 (qa qas qaf q4I):=sk qil qe q9 (alc qfR (alc u7 aln)) aln (b1 Tryz.func62) Tryz.func62
def q4o:FIn:=⟨[(.int .i64)],[]⟩
def q44:List FOut:=[⟨.str,[],none⟩]
noncomputable def qcP:=qf [(92,qa q05 kL qV)] [(64,Tryz.f64)] [] 0
noncomputable def uc:=qo qcP 64 Tryz.f64 true q4o q44
theorem q8t:zk Tryz.prog qc 64 (qa q4o q44 uc):=sk qcP qe q9 (alc u7 aln) aln (b1 Tryz.func64) Tryz.func64
def q3w:FIn:=⟨[(.agg [(.imm [(.int .i64),(.int .i64),(.int .i64),(.int .i64),(.int .i64),(.int .i64),.bool]),(.imm [(.int .i64),(.int .i64),(.int .i64),(.int .i64),(.int .i64),(.int .i64),.bool])]),(.agg [(.imm [(.int .i64),(.int .i64),(.int .i64)]),(.imm [(.int .i64),(.int .i64),(.int .i64)])])],[]⟩
def q3r:List FOut:=[⟨(.imm [.str,.str,.str]),[],none⟩]
def q1N:Tmpl:={ t:=(.any::.any::.any::(.ptr 1 0)::.any::(.vec 2)::zV 10 ((.imm [(.int .i64)])::(.int .i64)::(.int .i64)::zV 47 [])),h:=[.dead,.cells [(.imm [(.int .i64),(.int .i64),(.int .i64)]),(.imm [(.int .i64),(.int .i64),(.int .i64)])],.vec 65 [.str,.str,.str]],pro:=[(5,65,[.str,.str,.str])] }
def q1x:List Out:=[⟨(.exit 0),{ t:=(zV 5 ((.vec 2)::zV 60 [])),h:=[.dead,.dead,.vec 65 [.str,.str,.str]] }⟩]
noncomputable def kf:=qf [(36,qa uu un wF),(62,qa qas qaf q4I),(63,qa q2j q2A ul),(64,qa q4o q44 uc)] [(38,Tryz.f38)] [] 0
noncomputable def vu:=q1D kf 38 Tryz.f38 4 q1N q1x
theorem q9g:qC Tryz.prog qc kf.nimp (qQ Tryz.prog kf.iter 38) (vg Tryz.f38 4) (qB q1N q1x (qw vu)):=
 gk kf qe q9 (alc q1h (alc qcu (alc q2T (alc q8t aln)))) aln (b1 Tryz.func38) Tryz.func38
noncomputable def q8S:=qf [(36,qa uu un wF),(62,qa qas qaf q4I),(63,qa q2j q2A ul),(64,qa q4o q44 uc)] [(38,Tryz.f38)] [((38,4),qB q1N q1x (qw vu))] 0
noncomputable def um:=qo q8S 38 Tryz.f38 true q3w q3r
theorem qc4:zk Tryz.prog qc 38 (qa q3w q3r um):=sk q8S qe q9 (alc q1h (alc qcu (alc q2T (alc q8t aln)))) (alc (lk Tryz.func38 q9g) aln) (b1 Tryz.func38) Tryz.func38
def ui:FIn:=⟨[(.agg [(.imm [(.int .i64),(.int .i64),(.int .i64),(.int .i64),(.int .i64),(.int .i64),.bool]),(.imm [(.int .i64),(.int .i64),(.int .i64),(.int .i64),(.int .i64),(.int .i64),.bool])]),(.agg [(.imm [(.int .i64),(.int .i64),(.int .i64)]),(.imm [(.int .i64),(.int .i64),(.int .i64)])])],[]⟩
def ug:List FOut:=[⟨(.tuple [.bool,(.agg [(.int .i64),(.int .i64),(.int .i64)]),(.int .i64)]),[],none⟩]
noncomputable def q5f:=qf [(17,qa q6y q6M q0D),(34,qa q2u q2p yF),(35,qa vQ vZ qM),(36,qa uu un wF),(37,qa wU wS w9),(38,qa q3w q3r um)] [(13,Tryz.f13)] [] 0
noncomputable def qY:=qo q5f 13 Tryz.f13 true ui ug
theorem q2d:zk Tryz.prog qc 13 (qa ui ug qY):=sk q5f qe q9 (alc qdQ (alc qaP (alc q0b (alc q1h (alc jn (alc qc4 aln)))))) aln (b1 Tryz.func13) Tryz.func13
def qes:FIn:=⟨[(.agg [(.int .i64),(.int .i64),(.int .i64),(.int .i64),(.int .i64),(.int .i64),.bool])],[]⟩
def qdW:List FOut:=[⟨(.agg [(.int .i64),(.int .i64),(.int .i64),(.int .i64),(.int .i64),(.int .i64),.bool,(.int .i64)]),[],none⟩]
noncomputable def qis:=qf [] [(97,Tryz.f97)] [] 0
noncomputable def q7p:=qo qis 97 Tryz.f97 true qes qdW
theorem qjl:zk Tryz.prog qc 97 (qa qes qdW q7p):=sk qis qe q9 aln aln (b1 Tryz.func97) Tryz.func97
def kz:FIn:=⟨[(.agg [(.int .i64),(.int .i64),(.int .i64),(.int .i64),(.int .i64),(.int .i64),.bool,(.int .i64)]),(.int .i64)],[]⟩
def kw:List FOut:=[⟨(.int .i64),[],none⟩]
noncomputable def q34:=qf [] [(98,Tryz.f98)] [] 0
noncomputable def vh:=qo q34 98 Tryz.f98 true kz kw
theorem q76:zk Tryz.prog qc 98 (qa kz kw vh):=sk q34 qe q9 aln aln (b1 Tryz.func98) Tryz.func98
def q1K:FIn:=⟨[(.agg [(.int .i64),(.int .i64),(.int .i64),(.int .i64),(.int .i64),(.int .i64),.bool])],[]⟩
def q1R:List FOut:=[⟨(.tuple [(.int .i64),(.int .i64)]),[],none⟩]
noncomputable def q9x:=qf [(96,qa kK q04 wX),(97,qa qes qdW q7p),(98,qa kz kw vh)] [(65,Tryz.f65)] [] 0
noncomputable def vk:=qo q9x 65 Tryz.f65 true q1K q1R
theorem q69:zk Tryz.prog qc 65 (qa q1K q1R vk):=sk q9x qe q9 (alc q0Z (alc qjl (alc q76 aln))) aln (b1 Tryz.func65) Tryz.func65
def q1C:FIn:=⟨[(.agg [(.imm [(.int .i64),(.int .i64),(.int .i64),(.int .i64),(.int .i64),(.int .i64),.bool]),(.imm [(.int .i64),(.int .i64),(.int .i64),(.int .i64),(.int .i64),(.int .i64),.bool])])],[]⟩
def q1Y:List FOut:=[⟨(.tuple [(.imm [(.int .i64)]),(.int .i64)]),[],none⟩]
def q0p:Tmpl:={ t:=(.any::(.ptr 0 0)::.any::.any::.any::(.vec 1)::zV 12 ((.imm [(.int .i64),(.int .i64),(.int .i64),(.int .i64),(.int .i64),(.int .i64),.bool])::(.int .i64)::(.int .i64)::zV 37 [])),h:=[.cells [(.imm [(.int .i64),(.int .i64),(.int .i64),(.int .i64),(.int .i64),(.int .i64),.bool]),(.imm [(.int .i64),(.int .i64),(.int .i64),(.int .i64),(.int .i64),(.int .i64),.bool])],.vec 3 [(.int .i64)]],pro:=[(5,3,[(.int .i64)])] }
def q0h:List Out:=[⟨(.exit 0),{ t:=(zV 5 ((.vec 1)::zV 52 [])),h:=[.dead,.vec 3 [(.int .i64)]] }⟩,⟨.ret,{ t:=(.any::.any::.nils::(.int .i64)::zV 54 []),h:=[] }⟩]
noncomputable def yp:=qf [(59,qa jv jw zU),(65,qa q1K q1R vk)] [(39,Tryz.f39)] [] 0
noncomputable def wA:=q1D yp 39 Tryz.f39 8 q0p q0h
theorem q7E:qC Tryz.prog qc yp.nimp (qQ Tryz.prog yp.iter 39) (vg Tryz.f39 8) (qB q0p q0h (qw wA)):=
 gk yp qe q9 (alc ue (alc q69 aln)) aln (b1 Tryz.func39) Tryz.func39
noncomputable def q6f:=qf [(59,qa jv jw zU),(65,qa q1K q1R vk)] [(39,Tryz.f39)] [((39,8),qB q0p q0h (qw wA))] 0
noncomputable def jx:=qo q6f 39 Tryz.f39 true q1C q1Y
theorem qa9:zk Tryz.prog qc 39 (qa q1C q1Y jx):=sk q6f qe q9 (alc ue (alc q69 aln)) (alc (lk Tryz.func39 q7E) aln) (b1 Tryz.func39) Tryz.func39
def q1H:FIn:=⟨[(.agg [(.imm [(.int .i64),(.int .i64),(.int .i64),(.int .i64),(.int .i64),(.int .i64),.bool]),(.imm [(.int .i64),(.int .i64),(.int .i64),(.int .i64),(.int .i64),(.int .i64),.bool])])],[]⟩
def q27:List FOut:=[⟨(.tuple [.bool,(.int .i64)]),[],none⟩]
noncomputable def qa4:=qf [(35,qa vQ vZ qM),(37,qa wU wS w9),(39,qa q1C q1Y jx)] [(14,Tryz.f14)] [] 0
noncomputable def vl:=qo qa4 14 Tryz.f14 true q1H q27
theorem q5T:zk Tryz.prog qc 14 (qa q1H q27 vl):=sk qa4 qe q9 (alc q0b (alc jn (alc qa9 aln))) aln (b1 Tryz.func14) Tryz.func14
def qbG:FIn:=⟨[],[]⟩
def qc2:List FOut:=[⟨(.agg [(.imm [(.int .i64),(.int .i64),(.int .i64),(.int .i64),(.int .i64),(.int .i64),.bool]),(.imm [(.int .i64),(.int .i64),(.int .i64),(.int .i64),(.int .i64),(.int .i64),.bool])]),[],none⟩]
def q7z:Tmpl:={ t:=((.ptr 0 0)::(.ptr 1 0)::.any::.any::.any::(.vec 2)::(.int .i64)::(.int .i64)::zV 24 []),h:=[.cells [.nils,.nils],.cells [(.vec 3),(.vec 4)],.vec 3 [(.int .i64)],.vec 39 [(.int .i64),(.int .i64),(.int .i64),(.int .i64),(.int .i64),(.int .i64),.bool],.vec 39 [(.int .i64),(.int .i64),(.int .i64),(.int .i64),(.int .i64),(.int .i64),.bool]],prc:=[(1,0,39,[(.int .i64),(.int .i64),(.int .i64),(.int .i64),(.int .i64),(.int .i64),.bool]),(1,1,39,[(.int .i64),(.int .i64),(.int .i64),(.int .i64),(.int .i64),(.int .i64),.bool])] }
def q7S:List Out:=[⟨(.exit 0),{ t:=((.ptr 0 0)::(.ptr 1 0)::zV 30 []),h:=[.cells [.nils,.nils],.cells [(.vec 3),(.vec 4)],.dead,.vec 39 [(.int .i64),(.int .i64),(.int .i64),(.int .i64),(.int .i64),(.int .i64),.bool],.vec 39 [(.int .i64),(.int .i64),(.int .i64),(.int .i64),(.int .i64),(.int .i64),.bool]] }⟩]
noncomputable def q4k:=qf [] [(32,Tryz.f32)] [] 0
noncomputable def kW:=q1D q4k 32 Tryz.f32 4 q7z q7S
theorem qfm:qC Tryz.prog qc q4k.nimp (qQ Tryz.prog q4k.iter 32) (vg Tryz.f32 4) (qB q7z q7S (qw kW)):=
 gk q4k qe q9 aln aln (b1 Tryz.func32) Tryz.func32
noncomputable def qfV:=qf [] [(32,Tryz.f32)] [((32,4),qB q7z q7S (qw kW))] 0
noncomputable def q5p:=qo qfV 32 Tryz.f32 true qbG qc2
theorem qhC:zk Tryz.prog qc 32 (qa qbG qc2 q5p):=sk qfV qe q9 aln (alc (lk Tryz.func32 qfm) aln) (b1 Tryz.func32) Tryz.func32
def q3t:FIn:=⟨[(.int .i64)],[]⟩
def q3C:List FOut:=[⟨(.agg [(.imm [(.int .i64),(.int .i64),(.int .i64)]),(.imm [(.int .i64),(.int .i64),(.int .i64)])]),[],none⟩]
noncomputable def q8v:=qf [] [(33,Tryz.f33)] [] 0
noncomputable def uD:=qo q8v 33 Tryz.f33 true q3t q3C
theorem qc5:zk Tryz.prog qc 33 (qa q3t q3C uD):=sk q8v qe q9 aln aln (b1 Tryz.func33) Tryz.func33
def q4J:FIn:=⟨[],[]⟩
def q5j:List FOut:=[⟨.bool,[],none⟩]
noncomputable def q9G:=qf [(13,qa ui ug qY),(14,qa q1H q27 vl),(32,qa qbG qc2 q5p),(33,qa q3t q3C uD)] [(8,Tryz.f8)] [] 0
noncomputable def zr:=qo q9G 8 Tryz.f8 true q4J q5j
theorem qch:zk Tryz.prog qc 8 (qa q4J q5j zr):=sk q9G qe q9 (alc q2d (alc q5T (alc qhC (alc qc5 aln)))) aln (b1 Tryz.func8) Tryz.func8
def zK:FIn:=⟨[(.imm [(.int .i64),(.int .i64),(.int .i64),(.int .i64),(.int .i64),(.int .i64),.bool])],[]⟩
def zM:List FOut:=[⟨(.vec 0),[.vec 39 [(.int .i64),(.int .i64),(.int .i64),(.int .i64),(.int .i64),(.int .i64),.bool]],none⟩]
noncomputable def j3:=qf [] [(10,Tryz.f10)] [] 0
noncomputable def qv:=qo j3 10 Tryz.f10 false zK zM
theorem kq:zk Tryz.prog qc 10 (qa zK zM qv):=qbP (E:=j3) qe ⟨q3l q9,⟨aln,aln⟩,aln,(b1 Tryz.func10)⟩ Tryz.func10 (by kernel_rfl) (by kernel_rfl) (fun _=>rfl)
def zN:FIn:=⟨[(.imm [(.int .i64),(.int .i64),(.int .i64)])],[]⟩
def zP:List FOut:=[⟨(.vec 0),[.vec 43 [(.int .i64),(.int .i64),(.int .i64)]],none⟩]
noncomputable def j5:=qf [] [(12,Tryz.f12)] [] 0
noncomputable def qu:=qo j5 12 Tryz.f12 false zN zP
theorem ky:zk Tryz.prog qc 12 (qa zN zP qu):=qbP (E:=j5) qe ⟨q3l q9,⟨aln,aln⟩,aln,(b1 Tryz.func12)⟩ Tryz.func12 (by kernel_rfl) (by kernel_rfl) (fun _=>rfl)
def q1b:FIn:=⟨[(.agg [(.imm [(.int .i64),(.int .i64),(.int .i64),(.int .i64),(.int .i64),(.int .i64),.bool]),(.imm [(.int .i64),(.int .i64),(.int .i64),(.int .i64),(.int .i64),(.int .i64),.bool])]),(.agg [(.imm [(.int .i64),(.int .i64),(.int .i64)]),(.imm [(.int .i64),(.int .i64),(.int .i64)])]),(.int .u8)],[]⟩
def q15:List FOut:=[⟨.bool,[],none⟩]
noncomputable def qP:Env:={ tt:=q6m,glob:=qc,spec:=[(6,qa qbV qbY q5y),(7,qa q3W q4l ud),(8,qa q4J q5j zr),(10,qa zK zM qv),(12,qa zN zP qu),(13,qa ui ug qY),(14,qa q1H q27 vl)],body:=[(3,Tryz.f3)],loops:=[],nimp:=0,raws:=[10,12],dels:=[(9,39),(11,43)] }
noncomputable def jf:=qo qP 3 Tryz.f3 true q1b q15
theorem q8Y:zk Tryz.prog qc 3 (qa q1b q15 jf):=sk qP qe q9 (alc qhZ (alc q8T (alc qch (alc kq (alc ky (alc q2d (alc q5T aln))))))) aln (b1 Tryz.func3) Tryz.func3 (hd:=(alc qpy (alc qmL aln)))
end Go.Eng

