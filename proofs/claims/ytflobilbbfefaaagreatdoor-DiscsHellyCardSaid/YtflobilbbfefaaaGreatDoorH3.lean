/- Texts of the proof, merged: what the code computes, and plain laws. No statement stands here. -/
import Derived.KernelRfl
import Derived.Shelf.Strings.SlTrimAscii
import Derived.Shelf.Strings.Search2
import Derived.Shelf.Small.Strs
import Derived.Shelf.Strconv.Itoa3
import Derived.Shelf.Strconv.Atoi
import Derived.Shelf.Strings.BuilderK
import Derived.Shelf.LaysM
import Derived.Test.YtflobilbbfefaaaGreatDoorProg
import Derived.WalkKit
import Derived.BigCall
import Derived.Deep.RegionWith
import Derived.Laws.Externs
import Derived.Lib.Builder
import Derived.Lib.AppendStr
import Derived.Shelf.SlBodiesN
import Derived.Shelf.SlicesE.Delete
import Derived.Test.YtflobilbbfefaaaGreatDoorH2
namespace Go.Eng
theorem Sim.env{E E':Env}(he:E.glob=E'.glob)(hn:E.nimp=E'.nimp){B:Base}{X:Ctx}{st:St}{a:Act}(hs:Sim E B X st a):Sim E' B X st a:=
 ⟨hs.hs,hs.h,hs.t,hs.fs,he▸hs.glob,hs.df,hn▸hs.ni,hs.y,hs.pin⟩
theorem yU:∀c:Code,(ze c).length=zG c:=by
 intro c
 induction c<;>simp_all [ze,zG]
 all_goals omega
theorem qc1{f k:Nat}{L:St→Tree (Ex×St)}:∀{l:List ((Nat×Nat)×(St→Tree (Ex×St)))},q67 l f k=some L→((f,k),L)∈l
 | [],h=>by cases h
 | x::l,h=>by
  simp only[q67] at h
  split at h
  ·rename_i hb
   cases h
   simp only[Bool.and_eq_true] at hb
   have h1:=Nat.eq_of_beq_eq_true hb.1
   have h2:=Nat.eq_of_beq_eq_true hb.2
   have:x=((f,k),x.2):=by obtain⟨⟨a,b⟩,c⟩:=x;simp only at h1 h2;rw[h1,h2]
   exact this▸List.mem_cons_self
  ·exact List.mem_cons_of_mem _ (qc1 h)
def qp(P:Program)(gl:List (Nat×AV))(ni:Nat)(BO:Base→Prop)(c:Code)(L:St→Tree (Ex×St)):Prop:=
 ∀(E:Env) (B:Base) (X:Ctx) (st:St) (a:Act) (r:Ex×St),E.glob=gl→E.nimp=ni→BO B→Sim E B X st a→(L st).run=some r→∀(n0:Nat),c.wpIn (q0i B.ro) n0 P (qqs E B r) a X.w
def Env.loopsOK(E:Env)(P:Program):Prop:=
 ∀x,x∈E.loops→∃fn c c',P.funcs[x.1.1]?=some fn∧fn.body=some c∧(ze c)[x.1.2]?=some c'∧qp P E.glob E.nimp (qC P E.iter x.1.1) c' x.2
theorem qvS{E:Env}{P:Program}{rangeH:q9m}(hrg:qeA E P rangeH){f:FuncId}{fn:Func}(hf:P.funcs[f]?=some fn){cb:Code}(hb:fn.body=some cb){k:Nat}{x:Operand}{ps:Array Tmp}{a b:Code}
    (hk:(ze cb)[k]?=some (.rangeFunc x ps a b)) {evA evB:St→Tree (Ex×St)}
    (hA:∀(B:Base) (X:Ctx) (st:St) (act:Act) (r:Ex×St),qC P E.iter f B→Sim E B X st act→(evA st).run=some r→∀n,a.wpIn (q0i B.ro) n P (qqs E B r) act X.w)
    (hB:∀(B:Base) (X:Ctx) (st:St) (act:Act) (r:Ex×St),qC P E.iter f B→Sim E B X st act→(evB st).run=some r→∀n,b.wpIn (q0i B.ro) n P (qqs E B r) act X.w)
    {B:Base} {X:Ctx} {st:St} {act:Act} {r:Ex×St} {n0:Nat} (hbo:qC P E.iter f B) (hs:Sim E B X st act) {g:FuncId} {first caps:List AV} (hx:E.opd st.t x=.fn g first caps)
    (hc:(qlr E.iter g f k&&q5k E.iter f&&qpH st)=true) (h:((rangeH g (qnO evA evB ps.toList) (first++[.yld]++caps) st).bind qtH).run=some r) :
    (Code.rangeFunc x ps a b).wpIn (q0i B.ro) n0 P (qqs E B r) act X.w:=by
  simp only[Bool.and_eq_true] at hc
  obtain⟨⟨hit,hni⟩,htop⟩:=hc
  have htop':st.fs=[[]]∧st.pend=none∧AV.noYL st.t=true∧st.h.all Blk.noY=true:=by
    unfold qpH at htop
    split at htop
    · rename_i h1 h2
      simp only[Bool.and_eq_true] at htop
      exact⟨h1,h2,htop.1,htop.2⟩
    · cases htop
  obtain⟨t1,t2,t3,t4⟩:=htop'
  have hBfs:B.fs=[[]]:=by
    have:=hs.fs
    rw[t1] at this
    generalize B.fs=l at this
    cases this with
    | cons g1 g2=>cases g1;cases g2;rfl
  have hro:B.ro=none:=by
    cases hr:B.ro with
    | none=>rfl
    | some l =>
      have:=hbo.1 (by rw[hr];rfl)
      rw[hBfs] at this
      simp at this
  have hfi:qcQ E.iter g=some (f,k):=by
    unfold qlr at hit
    split at hit
    · rename_i y hy
      simp only[Bool.and_eq_true] at hit
      rw[hy]
      obtain⟨y1,y2⟩:=y
      have e1:y1=f:=Nat.eq_of_beq_eq_true hit.1
      have e2:y2=k:=Nat.eq_of_beq_eq_true hit.2
      rw[e1,e2]
    · cases hit
  obtain⟨q,h1,h2⟩:=bind_some h
  have hvx:=q5F hs x
  rw[hx] at hvx
  generalize hev:act.eval x=vx at hvx
  cases hvx with
  | fn _ _ _ vf vc g1 g2 =>
  rw[hro]
  apply wpIn_rangeFunc
  intro fid _
  let D:=X.w.heap.size
  let l:=X.w.heap.size+1
  let rec0:Obj:=.loop (q4N fid act.tmps ps a b D none)
  obtain⟨k1,k2⟩:=qgp hs.hs (o:=.deferred (some [])) (fun _ _ _ h=>by cases h)
  obtain⟨k3,k4⟩:=qgp k1 (o:=rec0) (fun _ _ _ h=>Obj.noConfusion h)
  let X1:Ctx:={ X with w:=(X.w.alloc (.deferred (some []))).alloc rec0,kept:=(l,rec0)::(D,.deferred (some []))::X.kept }
  have hsz:(X.w.alloc (.deferred (some []))).heap.size=l:=by simp[l]
  have hX1:({ ({ X with w:=X.w.alloc (.deferred (some [])),kept:=(X.w.heap.size,.deferred (some []))::X.kept }:Ctx) with w:=(X.w.alloc (.deferred (some []))).alloc rec0,kept:=((X.w.alloc (.deferred (some []))).heap.size,rec0)::(X.w.heap.size,.deferred (some []))::X.kept }:Ctx)=X1:=by
    rw[hsz]
  have k3':HSim B X1:=hX1▸k3
  have k4':Move0 { X with w:=X.w.alloc (.deferred (some [])),kept:=(X.w.heap.size,.deferred (some []))::X.kept } X1 some:=hX1▸k4
  have hall:X1.h.all Blk.noY=true:=by show X.h.all Blk.noY=true;rw[hs.h];exact t4
  let X2:Ctx:={ X1 with y:=l }
  have hs2:HSim B X2:=k3'.setY l hall
  let B1:Base:={ B with fs:=act.tmps.toList::B.fs,ro:=none,y:=l,pin:=fun e=>(l,.loop (q4N fid act.tmps ps a b D e))::(D,.deferred (some []))::X.kept }
  have hlt:∀p,p∈(D,(.deferred (some []):Obj))::X.kept→p.1≠l:=by
    intro p hp
    rcases List.mem_cons.1 hp with rfl|hp
    · show D≠l;simp[D,l]
    · have:=qpD hs.hs hp;simp only[l];omega
  have hI:qpy P (f,k) B1:=⟨fn,cb,x,ps,a,b,hf,hb,hk,act.tmps,B.fs,D,fid,(D,.deferred (some []))::X.kept,rfl,fun e=>rfl,hlt,rfl⟩
  have hB1:qC P E.iter g B1:=⟨fun h=>(by cases h),by rw[hfi];exact hI⟩
  have hargs:RepL X2 (first++[.yld]++caps) (vf++[Value.func (.yield l) #[] #[]]++vc):=by
    have hno:AV.noYL first=true∧AV.noYL caps=true:=by
      have hn:(AV.fn g first caps).noY=true:=by
        rw[←hx]
        cases x with
        | tmp i =>
          simp only[Env.opd]
          rw[List.getD_eq_getElem?_getD]
          cases hi:st.t[i]? with
          | none=>rfl
          | some v =>
            have:∀(l:List AV),AV.noYL l=true→∀v,v∈l→v.noY=true:=by
              intro l
              induction l with
              | nil=>intro _ v hv;cases hv
              | cons y l ih =>
                intro hl v hv
                simp only[AV.noYL,Bool.and_eq_true] at hl
                rcases List.mem_cons.1 hv with rfl|hv
                · exact hl.1
                · exact ih hl.2 v hv
            exact this _ t3 v (List.mem_of_getElem? hi)
        | const v => rw [show E.opd st.t (.const v) = ofV v from rfl] at hx; unfold ofV at hx; split at hx; · cases hx
                     · unfold vH at hx;split at hx<;>first|cases hx|(split at hx<;>cases hx)
        | global g' =>
          simp only[Env.opd] at hx
          cases hg:E.glob.find? fun x=>x.1==g' with
          | none=>rw[hg] at hx;cases hx
          | some y =>
            rw[hg] at hx
            obtain⟨⟨sh,r',i,off,he⟩,_⟩:=hs.glob y (List.mem_of_find?_eq_some hg)
            simp only[Option.map_some,Option.getD_some] at hx
            rw[he] at hx;cases hx
        | func f'=>rw[show E.opd st.t (.func f')=.fn f' [] [] from rfl] at hx;cases hx;rfl
      simpa only [AV.noY,Bool.and_eq_true] using hn
    have m1:RepL X1 first vf:=(g1.ext0 k2).ext0 k4'
    have m2:RepL X1 caps vc:=(g2.ext0 k2).ext0 k4'
    exact((m1.setY l hno.1).append (.cons .yld .nil)).append (m2.setY l hno.2)
  have hF:SimF E B1 X2 st:=by
    have m1:RepL X1 st.t act.tmps.toList:=(hs.t.ext0 k2).ext0 k4'
    refine⟨hs2.base rfl rfl rfl,hs.h,?_,qoz (qbC k4' (qbC k2 hs.glob)) l,hs.ni,rfl,fun p hp=>by rw[t2] at hp;exact hp⟩
    show RepLL X2 _ (act.tmps.toList::B.fs)
    rw[t1,hBfs]
    exact .cons (m1.setY l t3) (.cons .nil .nil)
  obtain⟨henter,hcalls⟩:=hrg g _ _ st q B1 X2 _ hF hB1 (fun B' hB'=>by
    obtain⟨_,h'⟩:=hB'
    rw[hfi] at h'
    exact qr4 hf hb hk hni hA hB h') rfl hargs h1
  refine⟨l,[qdl D],X1.w,{ target:=.fn (.func g) vc.toArray,args:=vf.toArray++#[Value.func (.yield l) #[] #[]] },X1.w,g,(vf++[Value.func (.yield l) #[] #[]]++vc).toArray,X1.w,?_,?_,fun _ _=>trivial,?_,qa4 none,?_⟩
  · exact run_enterLoop_outer fid act.tmps ps a b
  · simp only[resolve,hev,Deferred.ofValue,Sem.run_pure]
    simp[Act.eval]
  · simp only[invoke]
    have:vf.toArray++#[Value.func (.yield l) #[] #[]]++vc.toArray=(vf++[Value.func (.yield l) #[] #[]]++vc).toArray:=by
      apply Array.ext';simp
    rw[this]
    exact henter X1.w
  · refine qtN.2 (hcalls.mono fun e w' ⟨v,X',e1,e2,_,hF'⟩=>?_)
    subst e1 e2
    have hpin:=hF'.pin
    have hrec:(l,.loop (q4N fid act.tmps ps a b D q.2.pend))∈X'.kept:=hpin _ List.mem_cons_self
    have hlie:=(hF'.hs.kept _ hrec).1
    simp only at hlie
    have hbusy:(q4N fid act.tmps ps a b D q.2.pend).state≠.busy:=by
      simp only[q4N];split<;>simp
    obtain⟨m1,m2⟩:=q8p hF'.hs (o':=.loop { q4N fid act.tmps ps a b D q.2.pend with state:=.exhausted }) hrec (fun _ _ _ h=>by cases h)
    refine⟨_,_,run_endLoop hlie hbusy,?_⟩
    unfold qtH at h2
    cases htq:qpH { q.2 with pend:=none } with
    | false=>rw[htq] at h2;cases h2
    | true =>
    rw[htq] at h2
    simp only at h2
    have htop2:q.2.fs=[[]]∧AV.noYL q.2.t=true∧q.2.h.all Blk.noY=true:=by
      unfold qpH at htq
      split at htq
      · rename_i h1 h2
        simp only[Bool.and_eq_true] at htq
        exact⟨h1,htq.1,htq.2⟩
      · cases htq
    obtain⟨u1,u2,u3⟩:=htop2
    let X3:Ctx:={ X' with w:=X'.w.putObj l (.loop { q4N fid act.tmps ps a b D q.2.pend with state:=.exhausted }),kept:=q8N l (.loop { q4N fid act.tmps ps a b D q.2.pend with state:=.exhausted }) X'.kept }
    have hsim:Sim E B { X3 with y:=B.y } { q.2 with pend:=none } { act with defers:=[qdl D]++act.defers }:=by
      have hfs':=hF'.fs.ext0 m2
      have hold:∀p,p∈(D,(.deferred (some []):Obj))::X.kept→p∈X3.kept:=fun p hp=>kT (hpin p (List.mem_cons_of_mem _ hp)) (hlt p hp)
      have hfs2:RepLL X3 (q.2.t::q.2.fs) (act.tmps.toList::B.fs):=hfs'
      refine⟨((m1.base (B':=B) rfl rfl rfl).setY B.y (by show X'.h.all Blk.noY=true;rw[hF'.h];exact u3)),hF'.h,?_,?_,qoz (qbC m2 hF'.glob) B.y,?_,hs.ni,rfl,?_⟩
      · cases hfs2 with|cons z1 z2=>exact z1.setY B.y u2
      · show RepLL _ q.2.fs B.fs
        rw[u1,hBfs];exact .cons .nil .nil
      · obtain⟨Ds,d1,d2,d3⟩:=hs.df
        rw[t2] at d3
        refine⟨D::Ds,by rw[d1];rfl,List.nodup_cons.2 ⟨fun hD=>?_,d2⟩,fun D' hD'=>?_⟩
        · have:=qpD hs.hs (d3 D hD).1
          simp[D] at this
        · rcases List.mem_cons.1 hD' with rfl|hD'
          · refine⟨hold _ List.mem_cons_self,fun p hp=>?_⟩
            have hp':=hs.pin p (by rw[t2];exact hp)
            have:=qpD hs.hs hp'
            simp only[D];omega
          · exact⟨hold _ (List.mem_cons_of_mem _ (d3 D' hD').1),(d3 D' hD').2⟩
      · intro p hp
        exact hold p (List.mem_cons_of_mem _ (hs.pin p (by rw[t2];exact hp)))
    cases hpe:q.2.pend with
    | none =>
      rw[hpe] at h2
      simp only[Tree.run,Option.some.injEq] at h2
      subst h2
      exact⟨rfl,{ X3 with y:=B.y },by show X'.w.putObj l _=_;rw[hpe],hsim⟩
    | some e =>
      rw[hpe] at h2
      cases e with
      | normal=>cases h2
      | ret =>
        simp only[Tree.run,Option.some.injEq] at h2
        subst h2
        exact wpIn_ret ⟨rfl,{ X3 with y:=B.y },by show X'.w.putObj l _=_;rw[hpe],hsim⟩
      | exit i =>
        simp only[Tree.run,Option.some.injEq] at h2
        subst h2
        exact wpIn_exit ⟨rfl,{ X3 with y:=B.y },by show X'.w.putObj l _=_;rw[hpe],hsim⟩
theorem q8g{E:Env}{P:Program}(hm:P.follows .mixedOrders=true)(hE:E.tok P)(hS:E.specs P)(hL:E.loopsOK P){f:FuncId}{fn:Func}(hf:P.funcs[f]?=some fn){cb:Code}(hb:fn.body=some cb)
  {callH:q3Z} (hcH:∀B,qC P E.iter f B→CallOK E P callH B) {callS:List Blk→q0Z} (hc:q8F E P callS) (hmo:q1j E callS) {rangeH:q9m} (hrg:qeA E P rangeH) :
  ∀(c:Code) (k:Nat),(∀j c',(ze c)[j]?=some c'→(ze cb)[k+j]?=some c') →
  ∀{B:Base} {X:Ctx} {st:St} {a:Act} {r:Ex×St} {n0:Nat},qC P E.iter f B→Sim E B X st a→(jB E callH callS rangeH f c k st).run=some r→c.wpIn (q0i B.ro) n0 P (qqs E B r) a X.w:=by
 intro c
 induction c with
 | skip=>
  intro k _ B X st a r n0 hbo hs h
  simp only[jB,Tree.run,Option.some.injEq] at h
  subst h
  exact wpIn_skip ⟨rfl,X,rfl,hs⟩
 | label _=>
  intro k _ B X st a r n0 hbo hs h
  simp only[jB,Tree.run,Option.some.injEq] at h
  subst h
  exact wpIn_label ⟨rfl,X,rfl,hs⟩
 | region id ops draw=>
  intro k _ B X st a r n0 hbo hs h
  simp only[jB] at h
  obtain⟨s,h1,h2⟩:=bind_some h
  simp only[Tree.run,Option.some.injEq] at h2
  subst h2
  cases draw with
  | true=>exact qoV hm hE hS (hcH B hbo) hc hmo hs h1 fun X' a' hs'=>⟨rfl,X',rfl,hs'⟩
  | false=>exact qkB hE (hcH B hbo) hs h1 fun X' a' hs'=>⟨rfl,X',rfl,hs'⟩
 | seq c d ihc ihd=>
  intro k hl B X st a r n0 hbo hs h
  simp only[jB] at h
  cases hfn:q67 E.loops f k with
  | some L=>
   rw[hfn] at h
   obtain⟨fn',c1,c2,q1,q2,q3,q4⟩:=hL _ (qc1 hfn)
   simp only at q1 q3 q4
   rw[hf] at q1;cases q1
   rw[hb] at q2;cases q2
   have:=hl 0 (.seq c d) (by simp[ze])
   rw[Nat.add_zero,q3] at this
   cases this
   exact q4 E B X st a r rfl rfl hbo hs h n0
  | none=>
  rw[hfn] at h
  obtain⟨r1,h1,h2⟩:=bind_some h
  apply wpIn_seq
  have g1:=ihc (k+1) (fun j c' hj=>by
   have:=hl (1+j) c' (by simp only[ze];rw[Nat.add_comm,List.getElem?_cons_succ,List.getElem?_append_left (ql hj)];exact hj)
   rw[show k+1+j=k+(1+j) by omega];exact this) (n0:=n0) hbo hs h1
  refine wpIn_mono g1 fun e a' w' ⟨he,X',hw,hs'⟩=>?_
  subst hw
  obtain⟨x1,s1⟩:=r1
  cases x1 with
  | normal=>
   subst he
   refine ihd (k+1+zG c) (fun j c' hj=>?_) hbo hs' h2
   have:=hl (1+zG c+j) c' (by
    simp only[ze]
    rw[show 1+zG c+j=(zG c+j)+1 by omega,List.getElem?_cons_succ,List.getElem?_append_right (by rw[yU];omega),yU]
    rw[show zG c+j-zG c=j by omega];exact hj)
   rw[show k+1+zG c+j=k+(1+zG c+j) by omega];exact this
  | exit i=>
   simp only[Tree.run,Option.some.injEq] at h2
   subst he h2
   exact⟨rfl,X',rfl,hs'⟩
  | ret=>
   simp only[Tree.run,Option.some.injEq] at h2
   subst he h2
   exact⟨rfl,X',rfl,hs'⟩
 | cond x c d ihc ihd=>
  intro k hl B X st a r n0 hbo hs h
  simp only[jB] at h
  have hlc:=fun j c' (hj:(ze c)[j]?=some c')=>hl j c' (by simp only[ze];rw[List.getElem?_append_left (ql hj)];exact hj)
  have hld:∀j c',(ze d)[j]?=some c'→(ze cb)[k+zG c+j]?=some c':=fun j c' hj=>by
   have:=hl (zG c+j) c' (by
    simp only[ze]
    rw[List.getElem?_append_right (by rw[yU];omega),yU]
    rw[show zG c+j-zG c=j by omega];exact hj)
   rw[show k+zG c+j=k+(zG c+j) by omega];exact this
  have hx:=q5F hs x
  cases hv:E.opd st.t x with
  | blit b=>
   rw[hv] at h hx
   generalize hev:a.eval x=vx at hx
   cases hx
   cases b with
   | true=>exact wpIn_cond_true hev (ihc k hlc hbo hs h)
   | false=>exact wpIn_cond_false hev (ihd _ hld hbo hs h)
  | bool b=>
   rw[hv] at h hx
   generalize hev:a.eval x=vx at hx
   cases hx
   cases x with
   | tmp t=>
    simp only at h
    have ht:st.t[t]?=some (.bool b):=by
     simp only[Env.opd,List.getD_eq_getElem?_getD] at hv
     cases hg:st.t[t]? with
     | none=>rw[hg] at hv;cases hv
     | some y=>rw[hg] at hv;simp at hv;rw[hv]
    have hs':=hs.lit ht
    cases b with
    | true=>exact wpIn_cond_true hev (ihc k hlc hbo hs' h)
    | false=>exact wpIn_cond_false hev (ihd _ hld hbo hs' h)
   | _=>cases h
  | _=>rw[hv] at h;cases h
 | block id c ihc=>
  intro k hl B X st a r n0 hbo hs h
  simp only[jB] at h
  obtain⟨r1,h1,h2⟩:=bind_some h
  apply wpIn_block
  have g1:=@ihc k hl _ _ _ _ _ n0 hbo hs h1
  refine wpIn_mono g1 fun e a' w' ⟨he,X',hw,hs'⟩=>?_
  subst hw he
  obtain⟨x1,s1⟩:=r1
  cases x1 with
  | normal=>
   simp only[Tree.run,Option.some.injEq] at h2
   subst h2
   exact⟨rfl,X',rfl,hs'⟩
  | ret=>
   simp only[Tree.run,Option.some.injEq] at h2
   subst h2
   exact⟨rfl,X',rfl,hs'⟩
  | exit i=>
   simp only[Ex.out,Exit.inBlock]
   simp only at h2
   by_cases hi:i=id
   ·rw[if_pos hi] at h2 ⊢
    simp only[Tree.run,Option.some.injEq] at h2
    subst h2
    exact⟨rfl,X',rfl,hs'⟩
   ·rw[if_neg hi] at h2 ⊢
    simp only[Tree.run,Option.some.injEq] at h2
    subst h2
    exact⟨rfl,X',rfl,hs'⟩
 | loop c ihc=>
  intro k hl B X st a r n0 hbo hs h
  simp only[jB] at h
  cases hfn:q67 E.loops f k with
  | none=>rw[hfn] at h;cases h
  | some L=>
   rw[hfn] at h
   obtain⟨fn',c1,c2,q1,q2,q3,q4⟩:=hL _ (qc1 hfn)
   simp only at q1 q3 q4
   rw[hf] at q1;cases q1
   rw[hb] at q2;cases q2
   have:=hl 0 (.loop c) (by simp[ze])
   rw[Nat.add_zero,q3] at this
   cases this
   exact q4 E B X st a r rfl rfl hbo hs h n0
 | exit id=>
  intro k _ B X st a r n0 hbo hs h
  simp only[jB,Tree.run,Option.some.injEq] at h
  subst h
  exact wpIn_exit ⟨rfl,X,rfl,hs⟩
 | ret  =>
  intro k _ B X st a r n0 hbo hs h
  simp only[jB,Tree.run,Option.some.injEq] at h
  subst h
  exact wpIn_ret ⟨rfl,X,rfl,hs⟩
 | goto _=>
  intro k _ B X st a r n0 hbo hs h
  simp only[jB] at h;cases h
 | scope _ ihc=>
  intro k _ B X st a r n0 hbo hs h
  simp only[jB] at h;cases h
 | rangeFunc x ps c d ihc ihd=>
  intro k hl B X st a r n0 hbo hs h
  simp only[jB] at h
  cases hx:E.opd st.t x with
  | fn g first caps=>
   rw[hx] at h
   simp only at h
   cases hcd:qlr E.iter g f k&&q5k E.iter f&&qpH st with
   | false=>rw[hcd] at h;cases h
   | true=>
    rw[hcd] at h
    simp only at h
    refine qvS hrg hf hb (hl 0 _ (by simp[ze])) (fun B X st act r hbo hs hr n=>?_) (fun B X st act r hbo hs hr n=>?_) hbo hs hx hcd h
    ·refine ihc (k+1) (fun j c' hj=>?_) hbo hs hr
     have:=hl (1+j) c' (by simp only[ze];rw[Nat.add_comm,List.getElem?_cons_succ,List.getElem?_append_left (ql hj)];exact hj)
     rw[show k+1+j=k+(1+j) by omega];exact this
    ·refine ihd (k+1+zG c) (fun j c' hj=>?_) hbo hs hr
     have:=hl (1+zG c+j) c' (by
      simp only[ze]
      rw[show 1+zG c+j=(zG c+j)+1 by omega,List.getElem?_cons_succ,List.getElem?_append_right (by rw[yU];omega),yU]
      rw[show zG c+j-zG c=j by omega];exact hj)
     rw[show k+1+zG c+j=k+(1+zG c+j) by omega];exact this
  | _=>rw[hx] at h;cases h
 | _=>
  intro k hl B X st a r n0 hbo hs h
  simp only[jB] at h;cases h
theorem qpE{P:Program}{w:World}{t:TypeId}{v u:Value}(h:(Instr.loadAt t v).run P w=.ok u w):∃ad,v=.pointer (some ad)∧(loadVar t ad).run P w=.ok u w:=by
 cases v with
 | pointer p=>
  cases p with
  | some ad=>exact⟨ad,rfl,by simpa[Instr.loadAt,Instr.sureAddr] using h⟩
  | none=>simp[Instr.loadAt,Instr.sureAddr] at h
 | _=>simp[Instr.loadAt,Instr.sureAddr] at h
def qym(tmps:Array Value):ResultVar→Sem Value
 | .tmp t=>pure (tmps.getD t undef)
 | .cell a t=>do loadVar t (←asAddr (tmps.getD a undef))
theorem qsl(fn:Func)(tmps:Array Value):results fn tmps=(fn.results.mapM (qym tmps) >>= fun vs=>pure (if h:vs.size=1 then vs[0] else .tuple vs)):=by
 unfold results
 congr 1
theorem qe1{E:Env}{P:Program}(hE:E.tok P){B:Base}{X:Ctx}{st:St}{a:Act}(hs:Sim E B X st a):∀(l:List ResultVar) (vs:List AV),qhZ E st.h st.t l=some vs →
  ∃us,(l.mapM (qym a.tmps)).run P X.w=.ok us X.w∧RepL X vs us
 | [],vs,h=>by simp only[qhZ,Option.some.injEq] at h;subst h;exact⟨[],by simp,.nil⟩
 | .tmp i::l,vs,h=>by
  simp only[qhZ] at h
  split at h
  ·rename_i r hr
   cases h
   obtain⟨us,h1,h2⟩:=qe1 hE hs l r hr
   have:=q5F hs (.tmp i)
   simp only[Env.opd,Act.eval] at this
   exact⟨_::us,by simp[List.mapM_cons,qym,h1],.cons this h2⟩
  ·cases h
 | .cell i ty::l,vs,h=>by
  simp only[qhZ] at h
  split at h
  ·rename_i v h' n r hld hr
   cases h
   obtain⟨us,h1,h2⟩:=qe1 hE hs l r hr
   have hv:=q5F hs (.tmp i)
   simp only[Env.opd,Act.eval] at hv
   rw[←hs.h] at hld
   obtain⟨av,u,g1,g2,g3⟩:=qbI hE hs.hs hv (r:=(v,h',n)) (by rw[hld];rfl)
   obtain⟨ad,g4,g5⟩:=qpE g2
   have:v=av:=congrArg Prod.fst g1
   subst this
   refine⟨u::us,?_,.cons g3 h2⟩
   simp only[List.mapM_cons,qym,Sem.run_bind,g4,asAddr,Sem.run_pure,Result.andThen_ok,g5,h1]
  ·cases h
theorem RepL.len{X:Ctx}:∀{azz:List AV} {vs:List Value},RepL X azz vs→azz.length=vs.length
 | _,_,.nil=>rfl
 | _,_,.cons _ t=>by simp[t.len]
theorem qmm{E:Env}{P:Program}(hE:E.tok P){B:Base}{X:Ctx}{st:St}{a:Act}(hs:Sim E B X st a){fn:Func}{vs:List AV}(h:qhZ E st.h st.t fn.results.toList=some vs) :
  ∃u,(results fn a.tmps).run P X.w=.ok u X.w∧Rep X (qts vs) u:=by
 obtain⟨us,h1,h2⟩:=qe1 hE hs _ _ h
 have hm:(fn.results.mapM (qym a.tmps)).run P X.w=.ok us.toArray X.w:=by
  rw[Array.mapM_eq_mapM_toList,Sem.run_map,h1];rfl
 rw[qsl,Sem.run_bind,hm]
 simp only[Result.andThen_ok,Sem.run_pure]
 have hl:=h2.len
 cases h2 with
 | nil=>exact⟨_,rfl,.tuple [] [] .nil⟩
 | cons g1 g2=>
  cases g2 with
  | nil=>exact⟨_,rfl,by simpa[qts] using g1⟩
  | cons g3 g4=>
   refine⟨_,rfl,?_⟩
   rw[dif_neg (by simp)]
   exact .tuple _ _ (.cons g1 (.cons g3 g4))
theorem qtq{X:Ctx}{fn:Func}{args:List AV}{vargs:List Value}(h:RepL X args vargs):RepL X (qsm fn args) (vargs.toArray++Array.replicate (fn.ntmps-vargs.toArray.size) undef).toList:=by
 have hrep:∀n,RepL X (List.replicate n .skip) (List.replicate n undef):=by
  intro n
  induction n with
  | zero=>exact .nil
  | succ n ih=>simp only[List.replicate_succ];exact .cons .skip ih
 unfold qsm
 simp only[Array.toList_append,Array.toList_replicate,List.size_toArray]
 rw[h.len]
 exact h.append (hrep _)
def Env.bodies(E:Env)(P:Program):Prop:=∀x,x∈E.body→P.funcs[x.1]?=some x.2∧(x.2.name == "runtime.NumGoroutine")=false
theorem qfR{E:Env}{P:Program}(hm:P.follows .mixedOrders=true)(hE:E.tok P)(hS:E.specs P)(hL:E.loopsOK P){f:FuncId}{fn:Func}(hf:P.funcs[f]?=some fn)
  {callH:q3Z} (hcH:∀B,qC P E.iter f B→CallOK E P callH B) {callS:List Blk→q0Z} (hc:q8F E P callS) (hmo:q1j E callS) {rangeH:q9m} (hrg:qeA E P rangeH)
  {args:List AV} {st:St} {r:AV×St} {B:Base} {X:Ctx} {vargs:List Value} (hro:B.ro=none) (hbo:qC P E.iter f B) (hs:SimF E B X st) (ha:RepL X args vargs) (h:(qmn E callS callH rangeH f fn args st).run=some r) :
  fn.body.isNone=false∧Calls P f vargs.toArray X.w fun e w'=>∃v X',e=.returned v∧X'.w=w'∧Rep X' r.1 v∧SimF E B X' r.2:=by
 unfold qmn at h
 cases hb:fn.body with
 | none=>rw[hb] at h;cases h
 | some c=>
  rw[hb] at h
  refine⟨rfl,qtN.1 (callsIn_of_wp_marks (F:=q0i none) (n:=0) hf hb trivial ?_)⟩
  obtain⟨r1,h1,h2⟩:=bind_some h
  have hsim:Sim E B X { t:=qsm fn args,fs:=st.t::st.fs,h:=st.h,pend:=st.pend } { tmps:=vargs.toArray++Array.replicate (fn.ntmps-vargs.toArray.size) undef,defers:=[] }:=
   ⟨hs.hs,hs.h,qtq ha,hs.fs,hs.glob,qpb.nil,hs.ni,hs.y,hs.pin⟩
  have hcode:=q8g (n0:=0) hm hE hS hL hf hb hcH hc hmo hrg c 0 (fun j c' hj=>by rw[Nat.zero_add];exact hj) hbo hsim h1
  rw[hro] at hcode
  refine wpIn_mono hcode fun e a' w' ⟨he,X',hw,hs'⟩=>?_
  subst he hw
  obtain⟨x1,s1⟩:=r1
  have fin:∀{vs:List AV} {caller:List AV} {fs:List (List AV)},qhZ E s1.h s1.t fn.results.toList=some vs→s1.fs=caller::fs→r=(qts vs,{ t:=caller,fs:=fs,h:=s1.h,pend:=s1.pend }) →
    LeavesInM (q0i none) 0 P fn a'.tmps (fun e w'=>∃v X',e=.returned v∧X'.w=w'∧Rep X' r.1 v∧SimF E B X' r.2) a'.defers .returning X'.w:=by
   intro vs caller fs hr hfs hre
   obtain⟨Ds,d1,_⟩:=hs'.df
   rw[d1]
   refine qow Ds hs' d1 fun X2 hs2=>?_
   obtain⟨u,g1,g2⟩:=qmm hE hs2 hr
   refine⟨u,g1,u,X2,rfl,rfl,by rw[hre];exact g2,?_⟩
   rw[hre]
   exact⟨hs2.hs,hs2.h,by rw[←hfs];exact hs2.fs,hs2.glob,hs2.ni,hs2.y,hs2.pin⟩
  unfold qvf at h2
  cases x1 with
  | exit i=>simp only at h2;cases h2
  | normal=>
   simp only at h2
   split at h2
   ·rename_i vs caller fs hr hfs;cases h2;exact fin hr hfs rfl
   ·cases h2
  | ret=>
   simp only at h2
   split at h2
   ·rename_i vs caller fs hr hfs;cases h2;exact fin hr hfs rfl
   ·cases h2
theorem q0m {P:Program} {f:FuncId} {fn:Func} (hf:P.funcs[f]?=some fn) (hn:(fn.name == "runtime.NumGoroutine")=false) (hb:fn.body.isNone=false):qg1 P f:=by
 intro args w
 unfold callFunc
 rw[Sem.run_bind]
 show (Result.ok P w).andThen _=_
 simp only[Result.andThen_ok,hf,hn,hb,Bool.false_eq_true,if_false,Sem.run_pure]
theorem qxu{all:Array Oper}{k:Nat}{o:Oper}{s s':St}(h:(qjg all k o s).run=some s')(u:St)(hu:u.t=s.t):(qjg all k o u).run=some { u with t:=s'.t }:=by
 unfold qjg at h ⊢
 split at h
 ·rename_i hg
  rw[if_pos hg]
  split at h
  ·rename_i d hd
   simp only[hu]
   split at h
   ·rename_i b hb
    simp only[Tree.run] at h ⊢
    cases b<;>(simp only[Option.some.injEq] at h ⊢;subst h;rfl)
   ·rename_i hb
    cases hx:s.t[d]? with
    | none=>simp only[Tree.run,Option.some.injEq] at h ⊢;subst h;rw[←hu]
    | some v=>
     rw[hx] at hb
     cases v<;>first|(exact absurd rfl (hb _))|(simp only[Tree.run,Option.some.injEq] at h ⊢;subst h;rw[←hu])
  ·simp only[Tree.run,Option.some.injEq] at h ⊢;subst h;rw[←hu]
 ·rename_i hg
  rw[if_neg hg]
  simp only[Tree.run,Option.some.injEq] at h ⊢;subst h;rw[←hu]
theorem qgR{E:Env}{callH:q3Z}{all:Array Oper}{st0:St}:∀(l:List Oper) (k:Nat) (t t':List AV),(qlG E st0.h all k l t).run=some t'→(qcd E callH all k l { st0 with t:=t }).run=some { st0 with t:=t' }
 | [],k,t,t',h=>by simp only[qlG,Tree.run,Option.some.injEq] at h;subst h;rfl
 | o::rest,k,t,t',h=>by
  simp only[qlG] at h
  simp only[qcd]
  cases hw:jM all o t with
  | none=>rw[hw] at h;cases h
  | some b=>
   rw[hw] at h
   cases b with
   | false=>
    simp only at h ⊢
    exact qgR rest (k+1) _ t' h
   | true=>
    simp only at h ⊢
    cases hst:q72 E o.op with
    | false=>rw[hst] at h;cases h
    | true=>
     rw[hst] at h
     obtain⟨r,h1,h2⟩:=bind_some h
     obtain⟨s,h3,h4⟩:=bind_some h2
     have hr:=qlo hst h1
     have hstep:(qkr E callH o { st0 with t:=t }).run=some { st0 with t:=qbu t o.dst r.1 }:=by
      unfold qkr
      split
      ·rename_i x args tys hop;rw[hop] at hst;cases hst
      ·rw[Tree.run_bind,h1]
       obtain⟨r1,r2⟩:=r
       simp only at hr
       subst hr
       rfl
     rw[Tree.run_bind,hstep]
     simp only[Option.bind_some]
     rw[Tree.run_bind,qxu h3 { st0 with t:=qbu t o.dst r.1 } rfl]
     exact qgR rest (k+1) _ t' h4
theorem qp2{E:Env}{callH:q3Z}{callS:List Blk→q0Z}{rangeH:q9m}{f:FuncId}{st0:St}:∀(c:Code) (k:Nat) (t:List AV) (r:Ex×List AV),(q0E E st0.h f c k t).run=some r →
  (jB E callH callS rangeH f c k { st0 with t:=t }).run=some (r.1,{ st0 with t:=r.2 }):=by
 intro c
 induction c with
 | skip=>intro k t r h;simp only[q0E,Tree.run,Option.some.injEq] at h;subst h;rfl
 | label _=>intro k t r h;simp only[q0E,Tree.run,Option.some.injEq] at h;subst h;rfl
 | region id ops draw=>
  intro k t r h
  simp only[q0E] at h
  cases draw with
  | true=>cases h
  | false=>
   obtain⟨s,h1,h2⟩:=bind_some h
   simp only[Tree.run,Option.some.injEq] at h2
   subst h2
   simp only[jB]
   rw[Tree.run_bind,qgR (callH:=callH) _ _ _ _ h1]
   rfl
 | seq c d ihc ihd=>
  intro k t r h
  simp only[q0E] at h
  simp only[jB]
  cases hfn:q67 E.loops f k with
  | some L=>rw[hfn] at h;cases h
  | none=>
   rw[hfn] at h
   simp only at h ⊢
   obtain⟨s,h1,h2⟩:=bind_some h
   rw[Tree.run_bind,ihc _ _ _ h1]
   simp only[Option.bind_some]
   obtain⟨e,s2⟩:=s
   cases e with
   | normal=>exact ihd _ _ _ h2
   | ret=>simp only[Tree.run,Option.some.injEq] at h2 ⊢;subst h2;rfl
   | exit i=>simp only[Tree.run,Option.some.injEq] at h2 ⊢;subst h2;rfl
 | cond x c d ihc ihd=>
  intro k t r h
  simp only[q0E] at h
  simp only[jB]
  split at h
  ·exact ihc _ _ _ h
  ·exact ihd _ _ _ h
  ·rename_i b hx
   cases x with
   | tmp d'=>
    simp only[Tree.run] at h ⊢
    cases b with
    | true=>exact ihc _ _ _ h
    | false=>exact ihd _ _ _ h
   | _=>cases h
  ·cases h
 | block id c ihc=>
  intro k t r h
  simp only[q0E] at h
  simp only[jB]
  obtain⟨s,h1,h2⟩:=bind_some h
  rw[Tree.run_bind,ihc _ _ _ h1]
  simp only[Option.bind_some]
  obtain⟨e,s2⟩:=s
  cases e with
  | normal=>simp only[Tree.run,Option.some.injEq] at h2 ⊢;subst h2;rfl
  | ret=>simp only[Tree.run,Option.some.injEq] at h2 ⊢;subst h2;rfl
  | exit i=>
   simp only at h2 ⊢
   split at h2
   ·rename_i hi;rw[if_pos hi];simp only[Tree.run,Option.some.injEq] at h2 ⊢;subst h2;rfl
   ·rename_i hi;rw[if_neg hi];simp only[Tree.run,Option.some.injEq] at h2 ⊢;subst h2;rfl
 | exit id=>intro k t r h;simp only[q0E,Tree.run,Option.some.injEq] at h;subst h;rfl
 | ret=>intro k t r h;simp only[q0E,Tree.run,Option.some.injEq] at h;subst h;rfl
 | _=>intro k t r h;simp only[q0E] at h;cases h
theorem qnZ{E:Env}{callH:q3Z}{rangeH:q9m}{f:FuncId}{fn:Func}{args:List AV}{st:St}{v:AV}(h:(qqk E st.h f fn args).run=some v):(qmn E qmw callH rangeH f fn args st).run=some (v,st):=by
 unfold qqk at h
 unfold qmn
 cases hb:fn.body with
 | none=>rw[hb] at h;cases h
 | some c=>
  rw[hb] at h
  simp only at h ⊢
  obtain⟨r,h1,h2⟩:=bind_some h
  rw[Tree.run_bind,qp2 (callH:=callH) (callS:=qmw) (rangeH:=rangeH) (st0:={ t:=[],fs:=st.t::st.fs,h:=st.h,pend:=st.pend }) c 0 _ r h1]
  simp only[Option.bind_some]
  obtain⟨e,t'⟩:=r
  unfold qvf
  cases e with
  | exit i=>cases h2
  | normal=>
   simp only at h2 ⊢
   cases hr:qhZ E st.h t' fn.results.toList with
   | none=>rw[hr] at h2;cases h2
   | some vs=>rw[hr] at h2;cases h2;rfl
  | ret=>
   simp only at h2 ⊢
   cases hr:qhZ E st.h t' fn.results.toList with
   | none=>rw[hr] at h2;cases h2
   | some vs=>rw[hr] at h2;cases h2;rfl
theorem qeq{P:Program}{it:List (FuncId×FuncId×Nat)}{f:FuncId}(h:q5k it f=true){B:Base}(hB:B.ro.isSome=true→2≤B.fs.length):qC P it f B:=by
 refine⟨hB,?_⟩
 unfold q5k at h
 split at h
 ·cases h
 ·rename_i hn;rw[hn];trivial
theorem qh0(E:Env)(P:Program):qeA E P qnn:=fun _ _ _ _ _ _ _ _ _ _ _ _ _ h=>by cases h
theorem qu4{E:Env}{P:Program}(B:Base):CallOK E P (fun _ _ _=>.fail) B:=⟨(fun f args st r X a vargs _ _ h=>by cases h),(fun args st r X a vargs _ _ h=>by cases h)⟩
theorem q8d{E:Env}{P:Program}(hm:P.follows .mixedOrders=true)(hE:E.tok P)(hS:E.specs P)(hL:E.loopsOK P)(hb:E.bodies P):q8F E P (q5o E):=by
 intro f args st v B X a vargs hs ha h
 unfold q5o at h
 cases hsp:E.spec.find? fun x=>x.1==f with
 | some G=>rw[hsp] at h;exact qm4 hS f args st v B X a vargs hs ha h
 | none=>
  rw[hsp] at h
  simp only at h
  cases hbd:E.body.find? fun x=>x.1==f with
  | none=>rw[hbd] at h;cases h
  | some fn=>
   rw[hbd] at h
   simp only at h
   cases hni:q5k E.iter f with
   | false=>rw[hni] at h;cases h
   | true=>
   rw[hni] at h
   simp only at h
   have hx:=hb fn (List.mem_of_find?_eq_some hbd)
   have hfe:fn.1=f:=by simpa using List.find?_some hbd
   rw[hfe] at hx
   let B':Base:={ B with fs:=a.tmps.toList::B.fs,ro:=none,pin:=fun _=>X.kept }
   have hF:SimF E B' X st:=⟨hs.hs.base rfl rfl rfl,hs.h,.cons hs.t hs.fs,hs.glob,hs.ni,hs.y,fun p hp=>hp⟩
   have h1:=qnZ (callH:=fun _ _ _=>.fail) (rangeH:=qnn) h
   obtain⟨g1,g2⟩:=qfR hm hE hS hL hx.1 (fun B _=>qu4 B) (callS:=qmw) (fun _ _ _ _ _ _ _ _ _ _ h=>by cases h) (qnV E) (qh0 E P) (B:=B') rfl (qeq hni (fun h=>by cases h)) hF ha h1
   refine⟨q0m hx.1 hx.2 g1 _,g2.mono fun e w' ⟨u,X',e1,e2,e3,e4⟩=>⟨u,X',e1,e2,e3,?_⟩⟩
   have hpin:∀p,p∈X.kept→p∈X'.kept:=e4.pin
   have hfs:RepLL X' (st.t::st.fs) (a.tmps.toList::B.fs):=e4.fs
   obtain⟨Ds,d1,d2,d3⟩:=hs.df
   refine⟨e4.hs.base rfl rfl rfl,e4.h,?_,?_,e4.glob,⟨Ds,d1,d2,fun D hD=>⟨hpin _ (d3 D hD).1,(d3 D hD).2⟩⟩,hs.ni,e4.y,fun p hp=>hpin p (hs.pin p hp)⟩
   ·cases hfs with|cons k1 k2=>exact k1
   ·cases hfs with|cons k1 k2=>exact k2
theorem qc3{E:Env}{P:Program}(hm:P.follows .mixedOrders=true)(hE:E.tok P)(hS:E.specs P)(hL:E.loopsOK P)(hbs:E.bodies P){f:FuncId}{fn:Func}(hf:P.funcs[f]?=some fn)
  {callH:q3Z} (hcH:∀B,qC P E.iter f B→CallOK E P callH B) {rangeH:q9m} (hrg:qeA E P rangeH)
  {args:List AV} {st:St} {r:AV×St} {B:Base} {X:Ctx} {vargs:List Value} (hro:B.ro=none) (hbo:qC P E.iter f B) (hs:SimF E B X st) (ha:RepL X args vargs) (h:(qqM E callH rangeH f fn args st).run=some r) :
  fn.body.isNone=false∧Calls P f vargs.toArray X.w fun e w'=>∃v X',e=.returned v∧X'.w=w'∧Rep X' r.1 v∧SimF E B X' r.2:=
 qfR hm hE hS hL hf hcH (q8d hm hE hS hL hbs) (q4T E) hrg hro hbo hs ha h
theorem q9R{E:Env}{P:Program}(hm:P.follows .mixedOrders=true)(hE:E.tok P)(hS:E.specs P)(hL:E.loopsOK P)(hb:E.bodies P){callH:q3Z}(hcH:∀B,CallOK E P callH B):qeA E P (qeK E callH):=by
 intro g y args st r B X vargs hs hbo hy hro ha h
 unfold qeK at h
 cases hbd:E.body.find? fun x=>x.1==g with
 | none=>rw[hbd] at h;cases h
 | some fn=>
  rw[hbd] at h
  have hx:=hb fn (List.mem_of_find?_eq_some hbd)
  have hfe:fn.1=g:=by simpa using List.find?_some hbd
  rw[hfe] at hx
  obtain⟨g1,g2⟩:=qc3 hm hE hS hL hb hx.1 (callH:=qwf y callH) (fun B' hB'=>⟨(hcH B').fn,hy B' hB'⟩) (qh0 E P) hro hbo hs ha h
  exact⟨q0m hx.1 hx.2 g1 _,g2⟩
theorem qbR{E:Env}{P:Program}(hm:P.follows .mixedOrders=true)(hE:E.tok P)(hS:E.specs P)(hL:E.loopsOK P)(hb:E.bodies P):∀n B,CallOK E P (q5T E n) B
 | 0,_=>⟨(fun f args st r X a vargs _ _ h=>by simp only[q5T] at h;cases h),(fun args st r X a vargs _ _ h=>by simp only[q5T] at h;cases h)⟩
 | n+1,B=>⟨(fun f args st r X a vargs hs ha h=>by
  simp only[q5T] at h
  cases hdl:qwZ E f with
  | some e=>
   rw[hdl] at h
   have hD:=qod hS hdl
   exact⟨hD.1 _,qnK hE hD hs ha h⟩
  | none=>
  rw[hdl] at h
  simp only at h
  cases hsp:E.spec.find? fun x=>x.1==f with
  | some G=>
   rw[hsp] at h
   have hG:=hS.sp G (List.mem_of_find?_eq_some hsp)
   have hfe:G.1=f:=by simpa using List.find?_some hsp
   rw[hfe] at hG
   exact⟨hG.1 _,q4S hG hs ha h⟩
  | none=>
   rw[hsp] at h
   cases hbd:E.body.find? fun x=>x.1==f with
   | none=>rw[hbd] at h;cases h
   | some fn=>
    rw[hbd] at h
    simp only at h
    cases hni:q5k E.iter f with
    | false=>rw[hni] at h;cases h
    | true=>
    rw[hni] at h
    simp only at h
    obtain⟨r1,h1,h2⟩:=bind_some h
    simp only[Tree.run,Option.some.injEq] at h2
    subst h2
    have hx:=hb fn (List.mem_of_find?_eq_some hbd)
    have hfe:fn.1=f:=by simpa using List.find?_some hbd
    rw[hfe] at hx
    let B':Base:={ B with fs:=a.tmps.toList::B.fs,ro:=none,pin:=fun _=>X.kept }
    have hF:SimF E B' X st:=⟨hs.hs.base rfl rfl rfl,hs.h,.cons hs.t hs.fs,hs.glob,hs.ni,hs.y,fun p hp=>hp⟩
    obtain⟨g1,g2⟩:=qc3 hm hE hS hL hb hx.1 (fun B _=>qbR hm hE hS hL hb n B) (q9R hm hE hS hL hb (qbR hm hE hS hL hb n)) (B:=B') rfl (qeq hni (fun h=>by cases h)) hF ha h1
    refine⟨q0m hx.1 hx.2 g1 _,g2.mono fun e w' ⟨v,X',e1,e2,e3,e4⟩=>⟨v,X',e1,e2,e3,?_⟩⟩
    have hpin:∀p,p∈X.kept→p∈X'.kept:=e4.pin
    have hfs:RepLL X' (r1.2.t::r1.2.fs) (a.tmps.toList::B.fs):=e4.fs
    obtain⟨Ds,d1,d2,d3⟩:=hs.df
    refine⟨e4.hs.base rfl rfl rfl,e4.h,?_,?_,e4.glob,⟨Ds,d1,d2,fun D hD=>⟨hpin _ (d3 D hD).1,(d3 D hD).2⟩⟩,hs.ni,e4.y,fun p hp=>hpin p (hs.pin p hp)⟩
    ·cases hfs with|cons k1 k2=>exact k1
    ·cases hfs with|cons k1 k2=>exact k2),
  (fun args st r X a vargs _ _ h=>by simp only[q5T] at h;cases h)⟩
theorem qnI{E:Env}{P:Program}(hm:P.follows .mixedOrders=true)(hE:E.tok P)(hS:E.specs P)(hL:E.loopsOK P)(hb:E.bodies P){f:FuncId}{fn:Func}(hf:P.funcs[f]?=some fn)
  {n:Nat} {B:Base} {X:Ctx} {args:List AV} {vargs:List Value} {r:AV×List Blk} (hs:HSim B X) (h0:B.imps.length≤E.nimp) (hgl:q9q E.glob X) (ha:RepL X args vargs)
  (h:(qrm E n f fn args X.h).run=some r) :
  Calls P f vargs.toArray X.w fun e w'=>∃v X',e=.returned v∧X'.w=w'∧Rep X' r.1 v∧X'.h=r.2∧HSim B X'∧X'.y=X.y:=by
 unfold qrm at h
 cases hni:q5k E.iter f with
 | false=>rw[hni] at h;cases h
 | true=>
 rw[hni] at h
 simp only at h
 obtain⟨r1,h1,h2⟩:=bind_some h
 simp only[Tree.run,Option.some.injEq] at h2
 subst h2
 let B0:Base:={ B with fs:=[[]],ro:=none,y:=X.y,pin:=fun _=>[] }
 have hF:SimF E B0 X { t:=[],fs:=[],h:=X.h,pend:=none }:=⟨hs.base rfl rfl rfl,rfl,.cons .nil .nil,hgl,h0,rfl,fun p hp=>by cases hp⟩
 obtain⟨_,g2⟩:=qc3 hm hE hS hL hb hf (fun B _=>qbR hm hE hS hL hb n B) (q9R hm hE hS hL hb (qbR hm hE hS hL hb n)) (B:=B0) rfl (qeq hni (fun h=>by cases h)) hF ha h1
 refine g2.mono fun e w' ⟨v,X',e1,e2,e3,e4⟩=>⟨v,X',e1,e2,e3,e4.h,e4.hs.base rfl rfl rfl,e4.y⟩
end Go.Eng

namespace Go.Eng
inductive PK where
 | i|b|s|r
inductive PV where
 | i (n:Int)|b (x:Bool)|s (l:List UInt8)|r (l:R)
def PV.kind:PV→PK|.i _=>.i|.b _=>.b|.s _=>.s|.r _=>.r
def PV.toI:PV→Int|.i n=>n|_=>0
def PV.toB:PV→Bool|.b x=>x|_=>false
def PV.toS:PV→List UInt8|.s x=>x|_=>[]
def PV.toR:PV→R|.r x=>x|_=>[]
inductive AP where
 | any|yld
 | int (k:IntKind)|bool|str|blit (b:Bool)
 | nilp|ptr (b off:Nat)|eptr (sh:List Sh) (off:Nat)|mptr (sh:List Sh) (off:Nat)|vptr (b off:Nat)
 | nils|imm (sh:List Sh)|vec (b:Nat)
 | nilf|fn (f:FuncId) (first caps:List AP)
 | agg (l:List AP)|tuple (l:List AP)
def qP:Nat→List AP→List AP
 | 0,l=>l
 | n+1,l=>.any::qP n l
def qt4:Option (List PV)→Option (List PV)→Option (List PV)
 | some a,some b=>some (a++b)
 | _,_=>none
mutual
def AP.take:AP→AV→Option (List PV)
 | .any,_=>some []
 | .yld,.yld=>some []
 | .int k,.int k' n=>if k=k' then some [.i n] else none
 | .int k,.ilit k' n=>if k=k' then some [.i n] else none
 | .bool,.bool b=>some [.b b]
 | .bool,.blit b=>some [.b b]
 | .str,.str s=>some [.s s]
 | .blit b,.blit b'=>if b=b' then some [] else none
 | .nilp,.nilp=>some []
 | .ptr b off,.ptr b' off'=>if b=b'∧off=off' then some [] else none
 | .eptr sh off,.eptr sh' l i off'=>if Sh.beqL sh sh'=true∧off=off' then some [.r l,.i i] else none
 | .mptr _ _,.nilp=>some [.b false,.r [],.i 0]
 | .mptr sh off,.eptr sh' l i off'=>if Sh.beqL sh sh'=true∧off=off' then some [.b true,.r l,.i i] else none
 | .mptr sh off,.mptr c sh' l i off'=>if Sh.beqL sh sh'=true∧off=off' then some [.b c,.r l,.i i] else none
 | .vptr b off,.vptr b' i off'=>if b=b'∧off=off' then some [.i i] else none
 | .nils,.nils=>some []
 | .imm sh,.imm sh' l=>if Sh.beqL sh sh'=true then some [.r l] else none
 | .imm _,.nils=>some [.r []]
 | .vec b,.vec b'=>if b=b' then some [] else none
 | .nilf,.nilf=>some []
 | .fn f p q,.fn g a c=>if f=g then qt4 (AP.takeL p a) (AP.takeL q c) else none
 | .agg l,.agg a=>AP.takeL l a
 | .tuple l,.tuple a=>AP.takeL l a
 | _,_=>none
def AP.takeL:List AP→List AV→Option (List PV)
 | [],[]=>some []
 | p::l,a::azz=>qt4 (p.take a) (AP.takeL l azz)
 | _,_=>none
end
mutual
def AP.make:AP→List PV→AV×List PV
 | .any,ps=>(.undef,ps)
 | .yld,ps=>(.yld,ps)
 | .int k,.i n::ps=>(.int k n,ps)
 | .bool,.b x::ps=>(.bool x,ps)
 | .str,.s x::ps=>(.str x,ps)
 | .blit b,ps=>(.blit b,ps)
 | .nilp,ps=>(.nilp,ps)
 | .ptr b off,ps=>(.ptr b off,ps)
 | .eptr sh off,.r l::.i i::ps=>(.eptr sh l i off,ps)
 | .mptr sh off,.b c::.r l::.i i::ps=>(.mptr c sh l i off,ps)
 | .vptr b off,.i i::ps=>(.vptr b i off,ps)
 | .nils,ps=>(.nils,ps)
 | .imm sh,.r l::ps=>(.imm sh l,ps)
 | .vec b,ps=>(.vec b,ps)
 | .nilf,ps=>(.nilf,ps)
 | .fn f p q,ps=>let x:=AP.makeL p ps;let y:=AP.makeL q x.2;(.fn f x.1 y.1,y.2)
 | .agg l,ps=>let x:=AP.makeL l ps;(.agg x.1,x.2)
 | .tuple l,ps=>let x:=AP.makeL l ps;(.tuple x.1,x.2)
 | _,ps=>(.undef,ps)
def AP.makeL:List AP→List PV→List AV×List PV
 | [],ps=>([],ps)
 | p::l,ps=>let x:=p.make ps;let y:=AP.makeL l x.2;(x.1::y.1,y.2)
end
mutual
def AP.kinds:AP→List PK
 | .int _=>[.i]|.bool=>[.b]|.str=>[.s]
 | .eptr _ _=>[.r,.i]|.mptr _ _=>[.b,.r,.i]|.vptr _ _=>[.i]|.imm _=>[.r]
 | .fn _ p q=>AP.kindsL p++AP.kindsL q
 | .agg l=>AP.kindsL l
 | .tuple l=>AP.kindsL l
 | _=>[]
def AP.kindsL:List AP→List PK
 | []=>[]
 | p::l=>p.kinds++AP.kindsL l
end
theorem q2n{a b:Option (List PV)}{c:List PV}(h:qt4 a b=some c):∃x y,a=some x∧b=some y∧c=x++y:=by
 cases a<;>cases b<;>simp[qt4] at h
 exact⟨_,_,rfl,rfl,h.symm⟩
mutual
theorem AP.take_ok{X:Ctx}:∀(p:AP) (a:AV) (ps rest:List PV),p.take a=some ps→(p.make (ps++rest)).2=rest∧ps.map PV.kind=p.kinds∧∀v,Rep X a v→Rep X (p.make (ps++rest)).1 v
 | .any,a,ps,rest,h=>by simp only[AP.take,Option.some.injEq] at h;subst h;exact⟨rfl,rfl,fun v _=>.undef v⟩
 | .yld,a,ps,rest,h=>by
  cases a<;>simp only[AP.take] at h<;>first|(cases h;done)|skip
  cases h;exact⟨rfl,rfl,fun v hv=>hv⟩
 | .int k,a,ps,rest,h=>by
  cases a<;>simp only[AP.take] at h<;>first|(cases h;done)|skip
  all_goals
   split at h
   ·rename_i hk;cases h;subst hk
    refine⟨rfl,rfl,fun v hv=>?_⟩
    cases hv
    exact .int _ _
   ·cases h
 | .bool,a,ps,rest,h=>by
  cases a<;>simp only[AP.take] at h<;>first|(cases h;done)|skip
  all_goals
   cases h
   refine⟨rfl,rfl,fun v hv=>?_⟩
   cases hv
   exact .bool _
 | .str,a,ps,rest,h=>by
  cases a<;>simp only[AP.take] at h<;>first|(cases h;done)|skip
  cases h
  exact⟨rfl,rfl,fun v hv=>hv⟩
 | .blit b,a,ps,rest,h=>by
  cases a<;>simp only[AP.take] at h<;>first|(cases h;done)|skip
  split at h
  ·rename_i hb;cases h;subst hb;exact⟨rfl,rfl,fun v hv=>hv⟩
  ·cases h
 | .nilp,a,ps,rest,h=>by
  cases a<;>simp only[AP.take] at h<;>first|(cases h;done)|skip
  cases h;exact⟨rfl,rfl,fun v hv=>hv⟩
 | .ptr b off,a,ps,rest,h=>by
  cases a<;>simp only[AP.take] at h<;>first|(cases h;done)|skip
  split at h
  ·rename_i hb;cases h;obtain⟨rfl,rfl⟩:=hb;exact⟨rfl,rfl,fun v hv=>hv⟩
  ·cases h
 | .eptr sh off,a,ps,rest,h=>by
  cases a<;>simp only[AP.take] at h<;>first|(cases h;done)|skip
  split at h
  ·rename_i hb;cases h;obtain⟨hb,rfl⟩:=hb;have:=Sh.beqL_eq _ _ hb;subst this;exact⟨rfl,rfl,fun v hv=>hv⟩
  ·cases h
 | .mptr sh off,a,ps,rest,h=>by
  cases a<;>simp only[AP.take] at h<;>first|(cases h;done)|skip
  ·cases h
   refine⟨rfl,rfl,fun v hv=>?_⟩
   cases hv
   exact .mnil _ _ _ _
  ·split at h
   ·rename_i hb;cases h;obtain⟨hb,rfl⟩:=hb;have:=Sh.beqL_eq _ _ hb;subst this
    refine⟨rfl,rfl,fun v hv=>?_⟩
    cases hv with
    | eptr _ _ _ _ a h1 h2 h3 h4=>exact .mptr _ _ _ _ a h1 h2 h3 h4
   ·cases h
  ·split at h
   ·rename_i hb;cases h;obtain⟨hb,rfl⟩:=hb;have:=Sh.beqL_eq _ _ hb;subst this;exact⟨rfl,rfl,fun v hv=>hv⟩
   ·cases h
 | .vptr b off,a,ps,rest,h=>by
  cases a<;>simp only[AP.take] at h<;>first|(cases h;done)|skip
  split at h
  ·rename_i hb;cases h;obtain⟨rfl,rfl⟩:=hb;exact⟨rfl,rfl,fun v hv=>hv⟩
  ·cases h
 | .nils,a,ps,rest,h=>by
  cases a<;>simp only[AP.take] at h<;>first|(cases h;done)|skip
  cases h;exact⟨rfl,rfl,fun v hv=>hv⟩
 | .imm sh,a,ps,rest,h=>by
  cases a<;>simp only[AP.take] at h<;>first|(cases h;done)|skip
  ·cases h
   refine⟨rfl,rfl,fun v hv=>?_⟩
   cases hv
   exact .imm _ _ _ (.inl ⟨rfl,rfl⟩)
  ·split at h
   ·rename_i hb;cases h;have:=Sh.beqL_eq _ _ hb;subst this;exact⟨rfl,rfl,fun v hv=>hv⟩
   ·cases h
 | .vec b,a,ps,rest,h=>by
  cases a<;>simp only[AP.take] at h<;>first|(cases h;done)|skip
  split at h
  ·rename_i hb;cases h;subst hb;exact⟨rfl,rfl,fun v hv=>hv⟩
  ·cases h
 | .nilf,a,ps,rest,h=>by
  cases a<;>simp only[AP.take] at h<;>first|(cases h;done)|skip
  cases h;exact⟨rfl,rfl,fun v hv=>hv⟩
 | .fn f p q,a,ps,rest,h=>by
  cases a<;>simp only[AP.take] at h<;>first|(cases h;done)|skip
  rename_i g a c
  split at h
  ·rename_i hf;subst hf
   obtain⟨x,y,h1,h2,rfl⟩:=q2n h
   obtain⟨a1,a2,a3⟩:=AP.takeL_ok (X:=X) p a x (y++rest) h1
   obtain⟨b1,b2,b3⟩:=AP.takeL_ok (X:=X) q c y rest h2
   simp only[AP.make,List.append_assoc,a1,b1,AP.kinds,List.map_append,a2,b2,true_and]
   intro v hv
   cases hv with
   | fn _ _ _ vf vc g1 g2=>exact .fn _ _ _ vf vc (a3 _ g1) (b3 _ g2)
  ·cases h
 | .agg l,a,ps,rest,h=>by
  cases a<;>simp only[AP.take] at h<;>first|(cases h;done)|skip
  obtain⟨a1,a2,a3⟩:=AP.takeL_ok (X:=X) l _ ps rest h
  simp only[AP.make,a1,AP.kinds,a2,true_and]
  intro v hv
  cases hv with
  | agg _ vs g=>exact .agg _ vs (a3 _ g)
 | .tuple l,a,ps,rest,h=>by
  cases a<;>simp only[AP.take] at h<;>first|(cases h;done)|skip
  obtain⟨a1,a2,a3⟩:=AP.takeL_ok (X:=X) l _ ps rest h
  simp only[AP.make,a1,AP.kinds,a2,true_and]
  intro v hv
  cases hv with
  | tuple _ vs g=>exact .tuple _ vs (a3 _ g)
theorem AP.takeL_ok{X:Ctx}:∀(p:List AP) (a:List AV) (ps rest:List PV),AP.takeL p a=some ps→(AP.makeL p (ps++rest)).2=rest∧ps.map PV.kind=AP.kindsL p∧∀v,RepL X a v→RepL X (AP.makeL p (ps++rest)).1 v
 | [],a,ps,rest,h=>by
  cases a<;>simp only[AP.takeL] at h<;>cases h
  exact⟨rfl,rfl,fun v hv=>hv⟩
 | p::l,a,ps,rest,h=>by
  cases a with
  | nil=>simp only[AP.takeL] at h;cases h
  | cons a azz=>
   simp only[AP.takeL] at h
   obtain⟨x,y,h1,h2,rfl⟩:=q2n h
   obtain⟨a1,a2,a3⟩:=AP.take_ok (X:=X) p a x (y++rest) h1
   obtain⟨b1,b2,b3⟩:=AP.takeL_ok (X:=X) l azz y rest h2
   simp only[AP.makeL,List.append_assoc,a1,b1,AP.kindsL,List.map_append,a2,b2,true_and]
   intro v hv
   cases hv with
   | cons g1 g2=>exact .cons (a3 _ g1) (b3 _ g2)
end
def AP.takeLL:List (List AP)→List (List AV)→Option (List PV)
 | [],[]=>some []
 | p::l,a::azz=>qt4 (AP.takeL p a) (AP.takeLL l azz)
 | _,_=>none
def AP.makeLL:List (List AP)→List PV→List (List AV)×List PV
 | [],ps=>([],ps)
 | p::l,ps=>let x:=AP.makeL p ps;let y:=AP.makeLL l x.2;(x.1::y.1,y.2)
def AP.kindsLL:List (List AP)→List PK
 | []=>[]
 | p::l=>AP.kindsL p++AP.kindsLL l
theorem AP.takeLL_ok{X:Ctx}:∀(p:List (List AP)) (a:List (List AV)) (ps rest:List PV),AP.takeLL p a=some ps→(AP.makeLL p (ps++rest)).2=rest∧ps.map PV.kind=AP.kindsLL p∧∀v,RepLL X a v→RepLL X (AP.makeLL p (ps++rest)).1 v
 | [],a,ps,rest,h=>by
  cases a<;>simp only[AP.takeLL] at h<;>cases h
  exact⟨rfl,rfl,fun v hv=>hv⟩
 | p::l,a,ps,rest,h=>by
  cases a with
  | nil=>simp only[AP.takeLL] at h;cases h
  | cons a azz=>
   simp only[AP.takeLL] at h
   obtain⟨x,y,h1,h2,rfl⟩:=q2n h
   obtain⟨a1,a2,a3⟩:=AP.takeL_ok (X:=X) p a x (y++rest) h1
   obtain⟨b1,b2,b3⟩:=AP.takeLL_ok (X:=X) l azz y rest h2
   simp only[AP.makeLL,List.append_assoc,a1,b1,AP.kindsLL,List.map_append,a2,b2,true_and]
   intro v hv
   cases hv with
   | cons g1 g2=>exact .cons (a3 _ g1) (b3 _ g2)
inductive BP where
 | cells (l:List AP)|big (l:List AP) (k:IntKind) (n:Nat)|vec (e:TypeId) (sh:List Sh)|frz (e:TypeId) (sh:List Sh)|dead
def BP.take:BP→Blk→Option (List PV)
 | .cells l,.cells cs=>AP.takeL l cs
 | .big l k n,.big cs k' n' r=>if k=k'∧n=n' then qt4 (AP.takeL l cs) (some [.r r]) else none
 | .vec e sh,.vec e' sh' l=>if e=e'∧Sh.beqL sh sh'=true then some [.r l] else none
 | .frz e sh,.frz e' sh' l=>if e=e'∧Sh.beqL sh sh'=true then some [.r l] else none
 | .dead,_=>some []
 | _,_=>none
def BP.make:BP→List PV→Blk×List PV
 | .cells l,ps=>let x:=AP.makeL l ps;(.cells x.1,x.2)
 | .big l k n,ps=>let x:=AP.makeL l ps;match x.2 with
  | .r r::qs=>(.big x.1 k n r,qs)
  | qs=>(.dead,qs)
 | .vec e sh,.r l::ps=>(.vec e sh l,ps)
 | .frz e sh,.r l::ps=>(.frz e sh l,ps)
 | _,ps=>(.dead,ps)
def BP.kinds:BP→List PK
 | .cells l=>AP.kindsL l
 | .big l _ _=>AP.kindsL l++[.r]
 | .vec _ _=>[.r]
 | .frz _ _=>[.r]
 | .dead=>[]
def BP.takeL:List BP→List Blk→Option (List PV)
 | [],[]=>some []
 | p::l,b::bs=>qt4 (p.take b) (BP.takeL l bs)
 | _,_=>none
def BP.makeL:List BP→List PV→List Blk×List PV
 | [],ps=>([],ps)
 | p::l,ps=>let x:=p.make ps;let y:=BP.makeL l x.2;(x.1::y.1,y.2)
def BP.kindsL:List BP→List PK
 | []=>[]
 | p::l=>p.kinds++BP.kindsL l
def BP.isCells:BP→Bool
 | .cells _|.big _ _ _=>true
 | _=>false
theorem BP.take_ok{X:Ctx}(p:BP)(k:Blk)(ps rest:List PV)(h:p.take k=some ps):(p.make (ps++rest)).2=rest∧ps.map PV.kind=p.kinds∧Wk X k (p.make (ps++rest)).1 ∧
  (p.isCells=true→(p.make (ps++rest)).1.solid=true):=by
 cases p with
 | cells l=>
  cases k<;>simp only[BP.take] at h<;>first|(cases h;done)|skip
  obtain⟨a1,a2,a3⟩:=AP.takeL_ok (X:=X) l _ ps rest h
  simp only[BP.make,a1,BP.kinds,a2,true_and]
  exact⟨.inr (.inr (.inl ⟨_,_,rfl,rfl,a3⟩)),fun _=>rfl⟩
 | big l kk n=>
  cases k<;>simp only[BP.take] at h<;>first|(cases h;done)|skip
  split at h
  ·rename_i hb;obtain⟨rfl,rfl⟩:=hb
   obtain⟨x,y,h1,h2,rfl⟩:=q2n h
   cases h2
   rename_i cs r
   obtain⟨a1,a2,a3⟩:=AP.takeL_ok (X:=X) l _ x ([.r r]++rest) h1
   simp only[List.cons_append,List.nil_append] at a1 a3
   simp only[BP.make,List.append_assoc,a1,List.cons_append,List.nil_append,BP.kinds,List.map_append,a2,List.map_cons,List.map_nil,PV.kind,true_and]
   exact⟨.inr (.inr (.inr ⟨_,_,_,_,_,rfl,rfl,a3⟩)),fun _=>rfl⟩
  ·cases h
 | vec e sh=>
  cases k<;>simp only[BP.take] at h<;>first|(cases h;done)|skip
  split at h
  ·rename_i hb;cases h;obtain⟨rfl,hb⟩:=hb;have:=Sh.beqL_eq _ _ hb;subst this;exact⟨rfl,rfl,.inr (.inl rfl),fun h=>by cases h⟩
  ·cases h
 | frz e sh=>
  cases k<;>simp only[BP.take] at h<;>first|(cases h;done)|skip
  split at h
  ·rename_i hb;cases h;obtain⟨rfl,hb⟩:=hb;have:=Sh.beqL_eq _ _ hb;subst this;exact⟨rfl,rfl,.inr (.inl rfl),fun h=>by cases h⟩
  ·cases h
 | dead=>
  have:ps=[]:=by cases k<;>simp[BP.take] at h<;>exact h
  subst this
  exact⟨rfl,rfl,.inl rfl,fun h=>by cases h⟩
theorem BP.takeL_ok{X:Ctx}:∀(p:List BP) (k:List Blk) (ps rest:List PV),BP.takeL p k=some ps→(BP.makeL p (ps++rest)).2=rest∧ps.map PV.kind=BP.kindsL p ∧
  (BP.makeL p (ps++rest)).1.length=k.length∧p.length=k.length∧∀(b:Nat) (k':Blk),(BP.makeL p (ps++rest)).1[b]?=some k'→∃k0,k[b]?=some k0∧Wk X k0 k'∧∀q:BP,p[b]?=some q→q.isCells=true→k'.solid=true
 | [],k,ps,rest,h=>by
  cases k<;>simp only[BP.takeL] at h<;>cases h
  exact⟨rfl,rfl,rfl,rfl,fun b k' hb=>by simp[BP.makeL] at hb⟩
 | p::l,k,ps,rest,h=>by
  cases k with
  | nil=>simp only[BP.takeL] at h;cases h
  | cons k ks=>
   simp only[BP.takeL] at h
   obtain⟨x,y,h1,h2,rfl⟩:=q2n h
   obtain⟨a1,a2,a3,a4⟩:=BP.take_ok (X:=X) p k x (y++rest) h1
   obtain⟨b1,b2,b3,b4,b5⟩:=BP.takeL_ok (X:=X) l ks y rest h2
   simp only[BP.makeL,List.append_assoc,a1,b1,BP.kindsL,List.map_append,a2,b2,List.length_cons,b3,b4,true_and]
   intro b k' hb
   cases b with
   | zero=>
    simp only[List.getElem?_cons_zero,Option.some.injEq] at hb
    subst hb
    exact⟨k,rfl,a3,fun q hq hc=>by simp only[List.getElem?_cons_zero,Option.some.injEq] at hq;subst hq;exact a4 hc⟩
   | succ b=>
    simp only[List.getElem?_cons_succ] at hb ⊢
    exact b5 b k' hb
def qp4(n:Nat):Nat→Option Nat:=fun b=>if Nat.blt b n then some b else none
theorem qtF{n b b':Nat}(h:qp4 n b=some b'):b'=b∧b<n:=by
 unfold qp4 at h
 split at h
 ·rename_i hb;cases h;exact⟨rfl,by simpa[Nat.blt_eq] using hb⟩
 ·cases h
def Ctx.cut(X:Ctx)(n:Nat):Ctx:={ X with h:=(X.h.take n).map (Blk.ren (qp4 n)) }
theorem Ctx.cut_get{X:Ctx}{n b:Nat}{k:Blk}(h:(X.cut n).h[b]?=some k):b<n∧∃k0,X.h[b]?=some k0∧k=k0.ren (qp4 n):=by
 have h':((X.h.take n).map (Blk.ren (qp4 n)))[b]?=some k:=h
 rw[List.getElem?_map,List.getElem?_take] at h'
 split at h'
 ·rename_i hb
  refine⟨hb,?_⟩
  cases hk:X.h[b]? with
  | none=>rw[hk] at h';cases h'
  | some k0=>rw[hk] at h';exact⟨k0,rfl,(Option.some.inj h').symm⟩
 ·cases h'
theorem qqU{B:Base}{X:Ctx}(hs:HSim B X){n:Nat}(hn:B.imps.length≤n):HSim B (X.cut n)∧Move X (X.cut n) (qp4 n):=by
 have hvec:∀b sh m,(X.cut n).isVec b sh m→X.isVec b sh m:=by
  intro b sh m ⟨e,l,h1,h2⟩
  refine⟨e,l,?_,h2⟩
  rcases h1 with h1|h1
  ·obtain⟨_,k0,h3,h4⟩:=Ctx.cut_get h1
   cases k0<;>simp[Blk.ren] at h4
   obtain⟨rfl,rfl,rfl⟩:=h4;exact .inl h3
  ·obtain⟨_,k0,h3,h4⟩:=Ctx.cut_get h1
   cases k0<;>simp[Blk.ren] at h4
   obtain⟨rfl,rfl,rfl⟩:=h4;exact .inr h3
 have hm:Move X (X.cut n) (qp4 n):=by
  refine Move.of (fun _ h=>h) (fun _ _=>rfl) (fun b b' hb hf=>?_)
  obtain⟨rfl,hlt⟩:=qtF hf
  exact⟨by simp[Ctx.cut];omega,rfl,hvec b',fun sh m _ k hk c T fr hc=>⟨c,T,fr,hc,rfl⟩⟩
 have hown:∀b m,(X.cut n).own b m→X.own b m:=by
  intro b m ⟨h1,k,h2,h3⟩
  obtain⟨_,k0,h4,h5⟩:=Ctx.cut_get h2
  exact⟨h1,k0,h4,by rw[h5,Blk.mut_ren] at h3;exact h3⟩
 refine⟨⟨?_,fun b b' m h h'=>hs.inj b b' m (hown _ _ h) (hown _ _ h'),fun b m h=>hs.notM b m (hown _ _ h),hs.ltM,hs.M0,hs.newM,hs.os,hs.tape,hs.output,hs.size,hs.frame,hs.imps,?_,fun b m h=>hs.fresh b m (hown _ _ h),hs.kept⟩,hm⟩
 ·intro b k hk
  obtain⟨_,k0,h1,h2⟩:=Ctx.cut_get hk
  rw[h2]
  exact jC.move hm.toMove0 rfl (fun _ _=>rfl) (hs.blk b k0 h1)
 ·intro b hb
  obtain⟨cs,h1,h2⟩:=hs.impc b hb
  refine⟨cs.ren (qp4 n),?_,by rw[Blk.solid_ren];exact h2⟩
  show ((X.h.take n).map (Blk.ren (qp4 n)))[b]?=_
  rw[List.getElem?_map,List.getElem?_take,if_pos (by omega),h1]
  rfl
end Go.Eng

namespace Go.Eng
def Ex.beq:Ex→Ex→Bool
 | .normal,.normal=>true
 | .ret,.ret=>true
 | .exit i,.exit j=>Nat.beq i j
 | _,_=>false
theorem Ex.beq_eq{x y:Ex}(h:x.beq y=true):x=y:=by
 cases x<;>cases y<;>simp[Ex.beq] at h ⊢
 exact h
def peq:Option Ex→Option Ex→Bool
 | none,none=>true
 | some x,some y=>x.beq y
 | _,_=>false
theorem qxQ{x y:Option Ex}(h:peq x y=true):x=y:=by
 cases x<;>cases y<;>simp[peq] at h ⊢
 exact Ex.beq_eq h
structure Tmpl where
 t:List AP
 h:List BP
 pro:List (Nat×TypeId×List Sh):=[]
 fs:List (List AP):=[[]]
 pend:Option Ex:=none
 sw:List (Nat×Nat):=[]
 swn:Nat:=0
 prc:List (Nat×Nat×TypeId×List Sh):=[]
def qso:List (Nat×TypeId×List Sh)→St→St
 | [],st=>st
 | (i,e,sh)::l,st=>match st.t[i]? with
  | some .nils=>qso l { st with t:=st.t.set i (.vec st.h.length),h:=st.h++[.vec e sh []] }
  | _=>qso l st
def qhI:List (Nat×Nat×TypeId×List Sh)→St→St
 | [],st=>st
 | (i,off,e,sh)::l,st=>match st.t[i]? with
  | some (.ptr b _)=>(match st.h[b]? with
   | some (.cells cs)=>(match cs[off]? with
    | some .nils=>qhI l { st with h:=(st.h++[Blk.vec e sh []]).set b (.cells (cs.set off (.vec st.h.length))) }
    | _=>qhI l st)
   | _=>qhI l st)
  | _=>qhI l st
def q8y(n:Nat)(h:List BP):Bool:=Nat.ble n h.length&&(h.take n).all BP.isCells
def swp(b c x:Nat):Nat:=if Nat.beq x b then c else if Nat.beq x c then b else x
def swB(b c:Nat):Nat→Option Nat:=fun x=>some (swp b c x)
def qpu(b c:Nat)(h:List Blk):List Blk:=(h.set b (h.getD c .dead)).set c (h.getD b .dead)
def St.swap(b c:Nat)(st:St):St:={ t:=AV.renL (swB b c) st.t,fs:=st.fs.map (AV.renL (swB b c)),h:=(qpu b c st.h).map (Blk.ren (swB b c)),pend:=st.pend }
def qyc:AV→Option Nat
 | .ptr b _=>some b
 | .vec b=>some b
 | _=>none
def qz1(st:St)(i:Nat):Option Nat:=match Nat.blt i 1000000 with
 | true=>(st.t[i]?).bind qyc
 | false=>match st.t[i%1000000]? with
  | some (.ptr b _)=>(match st.h[b]? with
   | some (.cells cs)=>(cs[i/1000000-1]?).bind qyc
   | _=>none)
  | _=>none
def qj8(n:Nat):List (Nat×Nat)→St→St
 | [],st=>st
 | (i,b)::l,st=>match qz1 st i with
  | some c=>(match Nat.ble n b&&Nat.ble n c&&Nat.blt b st.h.length&&Nat.blt c st.h.length&&!(Nat.beq b c) with
   | true=>qj8 n l (st.swap b c)
   | false=>qj8 n l st)
  | none=>qj8 n l st
def Tmpl.take1(tm:Tmpl)(st:St):Option (List PV):=match peq tm.pend st.pend with
 | true=>qt4 (AP.takeL tm.t (AV.renL (qp4 tm.h.length) st.t)) (qt4 (AP.takeLL tm.fs (st.fs.map (AV.renL (qp4 tm.h.length)))) (BP.takeL tm.h ((st.h.take tm.h.length).map (Blk.ren (qp4 tm.h.length)))))
 | false=>none
def Tmpl.take(tm:Tmpl)(st:St):Option (List PV):=tm.take1 (qj8 tm.swn tm.sw (qhI tm.prc (qso tm.pro st)))
def Tmpl.ok(n:Nat)(tm:Tmpl):Bool:=q8y n tm.h&&(tm.sw.isEmpty||Nat.ble n tm.swn)
def Tmpl.make(tm:Tmpl)(ps:List PV):St:=let x:=AP.makeL tm.t ps;let y:=AP.makeLL tm.fs x.2;{ t:=x.1,fs:=y.1,h:=(BP.makeL tm.h y.2).1,pend:=tm.pend }
def Tmpl.kinds(tm:Tmpl):List PK:=AP.kindsL tm.t++(AP.kindsLL tm.fs++BP.kindsL tm.h)
theorem qkt{n:Nat}{h:List BP}(hc:q8y n h=true):n≤h.length∧∀b,b<n→∃q,h[b]?=some q∧q.isCells=true:=by
 simp only[q8y,Bool.and_eq_true,Nat.ble_eq,List.all_eq_true] at hc
 refine⟨hc.1,fun b hb=>?_⟩
 have hlt:b<h.length:=by omega
 refine⟨h[b],List.getElem?_eq_getElem hlt,hc.2 _ ?_⟩
 rw[List.mem_take_iff_getElem]
 exact⟨b,by omega,rfl⟩
theorem qjP{E:Env}{X X':Ctx}(hM:∀n,X.M n→X'.M n)(hw:X'.w=X.w)(hy:X'.y=X.y)
  (h:∀x,x∈E.glob→(∃sh l i off,x.2=.eptr sh l i off)∧qvg X x) :
  ∀x,x∈E.glob→(∃sh l i off,x.2=.eptr sh l i off)∧qvg X' x:=by
 intro x hx
 obtain⟨⟨sh,l,i,off,he⟩,hr⟩:=h x hx
 refine⟨⟨sh,l,i,off,he⟩,hr.move hM (fun _ _=>by rw[hw]) ?_⟩
 have hr:=hr.1
 rw[he] at hr ⊢
 exact hr.noMen rfl hM (fun _ _=>by rw[hw]) hy
theorem qgP{E:Env}{B:Base}{a:Act}:∀(l:List (Nat×TypeId×List Sh)) {X:Ctx} {st:St},Sim E B X st a→∃X',X'.w=X.w∧Sim E B X' (qso l st) a
 | [],X,st,hs=>⟨X,rfl,hs⟩
 | (i,e,sh)::l,X,st,hs=>by
  simp only[qso]
  split
  ·rename_i hi
   have hw:=PushW.same X
   have hk:jC (X.pushW (.vec e sh []) none X.w) X.h.length (.vec e sh []):=.inl ⟨by simp[Ctx.pushW],rfl⟩
   have hs1:=HSim.push hs.hs hw hk
   have hx:=Ctx.push_ext hs.hs (.vec e sh []) hw
   have hsim:=hs.ext hx hs1
   obtain⟨v,g1,g2⟩:=hs.t.get i _ hi
   have hv:v=.slice none 0 0:=by cases g2;rfl
   subst hv
   have hrep:Rep (X.pushW (.vec e sh []) none X.w) (.vec st.h.length) (.slice none 0 0):=by
    rw[←hs.h]
    refine .vec _ _ _ _ (by simp[Ctx.pushW]) fun sh' m hv=>?_
    unfold qo3
    simp[Ctx.pushW]
   have hset:=RepL.set hrep hsim.t i
   have he:a.tmps.toList.set i (.slice none 0 0)=a.tmps.toList:=by
    apply List.ext_getElem?
    intro j
    by_cases hj:j=i
    ·subst hj;rw[List.getElem?_set_self (ql g1),g1]
    ·rw[List.getElem?_set_ne (Ne.symm hj)]
   rw[he] at hset
   obtain⟨X2,q1,q2⟩:=qgP l (X:=X.pushW (.vec e sh []) none X.w) (st:={ st with t:=st.t.set i (.vec st.h.length),h:=st.h++[.vec e sh []] })
    ⟨hs1,by simp[Ctx.pushW,hs.h],hset,hsim.fs,hsim.glob,hsim.df,hsim.ni,hsim.y,hsim.pin⟩
   exact⟨X2,q1,q2⟩
  ·exact qgP l hs
theorem q7A{E:Env}{B:Base}{a:Act}:∀(l:List (Nat×Nat×TypeId×List Sh)) {X:Ctx} {st:St},Sim E B X st a→∃X',X'.w=X.w∧Sim E B X' (qhI l st) a
 | [],X,st,hs=>⟨X,rfl,hs⟩
 | (i,off,e,sh)::l,X,st,hs=>by
  simp only[qhI]
  split
  ·rename_i b o hi
   split
   ·rename_i cs hb
    split
    ·rename_i hc
     have hw:=PushW.same X
     have hk:jC (X.pushW (.vec e sh []) none X.w) X.h.length (.vec e sh []):=.inl ⟨by simp[Ctx.pushW],rfl⟩
     have hs1:=HSim.push hs.hs hw hk
     have hx:=Ctx.push_ext hs.hs (.vec e sh []) hw
     have hsim:=hs.ext hx hs1
     have hbX:X.h[b]?=some (.cells cs):=by rw[hs.h];exact hb
     have hbl:=ql hbX
     obtain⟨n,c,T,g1,g2,g3⟩:=hs.hs.blk b _ hbX
     have hb1:(X.pushW (.vec e sh []) none X.w).h[b]?=some (.cells cs):=by
      show (X.h++[Blk.vec e sh []])[b]?=_
      rw[List.getElem?_append_left hbl];exact hbX
     have g1':(X.pushW (.vec e sh []) none X.w).σ b=some n:=by
      show (if b=X.h.length then none else X.σ b)=_
      rw[if_neg (by omega)];exact g1
     have g3':=g3.ext hx
     have hrep:Rep (X.pushW (.vec e sh []) none X.w) (.vec st.h.length) (.slice none 0 0):=by
      rw[←hs.h]
      refine .vec _ _ _ _ (by simp[Ctx.pushW]) fun sh' m hv=>?_
      unfold qo3
      simp[Ctx.pushW]
     obtain⟨v,k1,k2⟩:=g3'.get off _ hc
     have hv:v=.slice none 0 0:=by cases k2;rfl
     subst hv
     have hset:=RepL.set hrep g3' off
     have he:c.toList.set off (.slice none 0 0)=c.toList:=by
      apply List.ext_getElem?
      intro j
      by_cases hj:j=off
      ·subst hj;rw[List.getElem?_set_self (ql k1),k1]
      ·rw[List.getElem?_set_ne (Ne.symm hj)]
     rw[he] at hset
     have hup:UpdW (X.pushW (.vec e sh []) none X.w) n c c T X.w:=⟨g2,g2,rfl,fun _ _=>rfl,rfl,rfl,rfl,rfl⟩
     have hown:(X.pushW (.vec e sh []) none X.w).own b n:=⟨g1',_,hb1,rfl⟩
     have hx2:=Ctx.upd_ext (k':=.cells (cs.set off (.vec st.h.length))) hs1 hb1 hown hup trivial
     have hs2:=hs1.upd (k':=.cells (cs.set off (.vec st.h.length))) hb1 hown hup trivial ⟨n,c,T,g1',g2,hset.ext hx2⟩
     have hsim2:=hsim.ext hx2 hs2
     have hh:((X.pushW (.vec e sh []) none X.w).upd b (.cells (cs.set off (.vec st.h.length))) X.w).h=(st.h++[Blk.vec e sh []]).set b (.cells (cs.set off (.vec st.h.length))):=by
      show (X.h++[Blk.vec e sh []]).set b _=_
      rw[hs.h]
     obtain⟨X3,q1,q2⟩:=q7A l hsim2
     refine⟨X3,q1,?_⟩
     rw[hh] at q2
     exact q2
    ·exact q7A l hs
   ·exact q7A l hs
  ·exact q7A l hs
theorem qiX(b c x:Nat):swp b c (swp b c x)=x:=by
 unfold swp
 simp only[Nat.beq_eq]
 by_cases h1:x=b
 ·subst h1
  by_cases h2:c=x
  ·simp[h2]
  ·simp[h2]
 ·by_cases h2:x=c
  ·subst h2;simp[h1]
  ·simp[h1,h2]
theorem qxL{b c x n:Nat}(hb:n≤b)(hc:n≤c):n≤swp b c x↔n≤x:=by
 unfold swp
 simp only[Nat.beq_eq]
 split
 ·rename_i h;subst h;exact⟨fun _=>hb,fun _=>hc⟩
 ·split
  ·rename_i h;subst h;exact⟨fun _=>hc,fun _=>hb⟩
  ·exact Iff.rfl
theorem qy9{b c x n:Nat}(hb:b<n)(hc:c<n):swp b c x<n↔x<n:=by
 unfold swp
 simp only[Nat.beq_eq]
 split
 ·rename_i h;subst h;exact⟨fun _=>hb,fun _=>hc⟩
 ·split
  ·rename_i h;subst h;exact⟨fun _=>hc,fun _=>hb⟩
  ·exact Iff.rfl
theorem qwv{b c x n:Nat}(hb:n≤b)(hc:n≤c)(hx:x<n):swp b c x=x:=by
 unfold swp
 simp only[Nat.beq_eq]
 rw[if_neg (by omega),if_neg (by omega)]
theorem qsY{b c:Nat}{h:List Blk}(hb:b<h.length)(hc:c<h.length)(hbc:b≠c)(i:Nat):(qpu b c h)[i]?=h[swp b c i]?:=by
 have e1:h.getD c .dead=h[c]:=by simp[List.getD_eq_getElem?_getD,hc]
 have e2:h.getD b .dead=h[b]:=by simp[List.getD_eq_getElem?_getD,hb]
 unfold qpu swp
 simp only[Nat.beq_eq]
 rw[e1,e2]
 by_cases h1:i=b
 ·subst h1
  rw[if_pos rfl,List.getElem?_set_ne (Ne.symm hbc),List.getElem?_set_self hb,List.getElem?_eq_getElem hc]
 ·by_cases h2:i=c
  ·subst h2
   rw[if_neg h1,if_pos rfl,List.getElem?_set_self (by simpa using hc),List.getElem?_eq_getElem hb]
  ·rw[if_neg h1,if_neg h2,List.getElem?_set_ne (Ne.symm h2),List.getElem?_set_ne (Ne.symm h1)]
def Ctx.swap(X:Ctx)(b c:Nat):Ctx:={ X with σ:=fun x=>X.σ (swp b c x),h:=(qpu b c X.h).map (Blk.ren (swB b c)) }
theorem qth{B:Base}{X:Ctx}(hs:HSim B X){b c:Nat}(hb:B.imps.length≤b)(hc:B.imps.length≤c)(hbl:b<X.h.length)(hcl:c<X.h.length)(hbc:b≠c) :
  HSim B (X.swap b c)∧Move X (X.swap b c) (swB b c):=by
 have hget:∀i,(X.swap b c).h[i]?=(X.h[swp b c i]?).map (Blk.ren (swB b c)):=fun i=>by
  show ((qpu b c X.h).map _)[i]?=_
  rw[List.getElem?_map,qsY hbl hcl hbc]
 have hget':∀i k,(X.swap b c).h[i]?=some k→∃k0,X.h[swp b c i]?=some k0∧k=k0.ren (swB b c):=by
  intro i k h
  rw[hget] at h
  cases hk:X.h[swp b c i]? with
  | none=>rw[hk] at h;cases h
  | some k0=>rw[hk] at h;exact⟨k0,rfl,(Option.some.inj h).symm⟩
 have hσ:∀i,(X.swap b c).σ i=X.σ (swp b c i):=fun _=>rfl
 have hm:Move X (X.swap b c) (swB b c):=by
  refine Move.of (fun _ h=>h) (fun _ _=>rfl) (fun b1 b2 hb1 hf=>?_)
  have hf':b2=swp b c b1:=(Option.some.inj hf).symm
  subst hf'
  refine⟨?_,by rw[hσ,qiX],fun sh m ⟨e,l,h1,h2⟩=>⟨e,l,?_,h2⟩,fun sh m _ n hn c T fr hc=>⟨c,T,fr,hc,rfl⟩⟩
  ·show _<((qpu b c X.h).map _).length
   simp only[qpu,List.length_map,List.length_set]
   exact(qy9 hbl hcl).2 hb1
  ·rcases h1 with h1|h1
   ·obtain⟨k0,h3,h4⟩:=hget' _ _ h1
    rw[qiX] at h3
    rcases qgG (.inl h4) with rfl|rfl
    ·exact .inl h3
    ·exact .inr h3
   ·obtain⟨k0,h3,h4⟩:=hget' _ _ h1
    rw[qiX] at h3
    rcases qgG (.inr h4) with rfl|rfl
    ·exact .inl h3
    ·exact .inr h3
 have hown:∀i n,(X.swap b c).own i n→X.own (swp b c i) n:=by
  intro i n ⟨h1,k,h2,h3⟩
  obtain⟨k0,h4,h5⟩:=hget' i k h2
  exact⟨h1,k0,h4,by rw[h5,Blk.mut_ren] at h3;exact h3⟩
 refine⟨⟨?_,?_,fun i n h=>hs.notM _ n (hown _ _ h),hs.ltM,hs.M0,hs.newM,hs.os,hs.tape,hs.output,hs.size,hs.frame,?_,?_,?_,hs.kept⟩,hm⟩
 ·intro i k hk
  obtain⟨k0,h1,h2⟩:=hget' i k hk
  rw[h2]
  exact jC.move hm.toMove0 (hσ i) (fun _ _=>rfl) (hs.blk _ k0 h1)
 ·intro i j n h1 h2
  have:=hs.inj _ _ n (hown _ _ h1) (hown _ _ h2)
  rw[←qiX b c i,this,qiX]
 ·intro i hi
  rw[hσ,qwv hb hc hi];exact hs.imps i hi
 ·intro i hi
  obtain⟨k,h1,h2⟩:=hs.impc i hi
  exact⟨k.ren (swB b c),by rw[hget,qwv hb hc hi,h1];rfl,by rw[Blk.solid_ren];exact h2⟩
 ·intro i n h1 h2
  exact hs.fresh _ n (hown _ _ h1) ((qxL hb hc).2 h2)
theorem qa3{E:Env}{B:Base}{a:Act}{n:Nat}(hn:B.imps.length≤n):∀(l:List (Nat×Nat)) {X:Ctx} {st:St},Sim E B X st a→∃X',X'.w=X.w∧Sim E B X' (qj8 n l st) a
 | [],X,st,hs=>⟨X,rfl,hs⟩
 | (i,b)::l,X,st,hs=>by
  simp only[qj8]
  split
  ·rename_i c hc
   split
   ·rename_i hcond
    simp only[Bool.and_eq_true,Nat.ble_eq,Nat.blt_eq,Bool.not_eq_true'] at hcond
    obtain⟨⟨⟨⟨c1,c2⟩,c3⟩,c4⟩,c5⟩:=hcond
    have hne:b≠c:=fun e=>by subst e;simp at c5
    obtain⟨g1,g2⟩:=qth hs.hs (b:=b) (c:=c) (by omega) (by omega) (by rw[hs.h];exact c3) (by rw[hs.h];exact c4) hne
    obtain⟨X2,q1,q2⟩:=qa3 hn l (X:=X.swap b c) (st:=st.swap b c) ⟨g1,by simp[Ctx.swap,St.swap,hs.h],hs.t.ren g2.toMove0,hs.fs.ren g2.toMove0,qjP (X:=X) (fun _ h=>h) rfl rfl hs.glob,hs.df,hs.ni,hs.y,hs.pin⟩
    exact⟨X2,q1,q2⟩
   ·exact qa3 hn l hs
  ·exact qa3 hn l hs
theorem Tmpl.weaken1{tm:Tmpl}{E:Env}{B:Base}{X:Ctx}{st:St}{a:Act}{ps:List PV}(hk:q8y E.nimp tm.h=true)(h:tm.take1 st=some ps)(hs:Sim E B X st a) :
  ps.map PV.kind=tm.kinds∧∃X',X'.w=X.w∧Sim E B X' (tm.make ps) a:=by
 unfold Tmpl.take1 at h
 split at h
 ·rename_i hpe
  have hpe':=qxQ hpe
  obtain⟨x,yz,h1,h0,rfl⟩:=q2n h
  obtain⟨y,z,h2,h3,rfl⟩:=q2n h0
  obtain⟨hc1,hc2⟩:=qkt hk
  obtain⟨c1,c2⟩:=qqU hs.hs (n:=tm.h.length) (Nat.le_trans hs.ni hc1)
  obtain⟨a1,a2,a3⟩:=AP.takeL_ok (X:=X.cut tm.h.length) _ _ x (y++z) h1
  obtain⟨d1,d2,d3⟩:=AP.takeLL_ok (X:=X.cut tm.h.length) _ _ y z h2
  obtain⟨b1,b2,b3,b4,b5⟩:=BP.takeL_ok (X:=X.cut tm.h.length) _ _ z [] h3
  have hch:(X.cut tm.h.length).h=(st.h.take tm.h.length).map (Blk.ren (qp4 tm.h.length)):=by rw[←hs.h];rfl
  rw[←hch] at b3 b5
  rw[List.append_nil] at b3 b5
  obtain⟨e1,e2⟩:=q9A c1 (h':=(BP.makeL tm.h z).1) b3 (fun b k' hb=>by obtain⟨k0,e1,e2,_⟩:=b5 b k' hb;exact⟨k0,e1,e2⟩)
   (fun b hb k' hk'=>by
    obtain⟨q,q1,q2⟩:=hc2 b (by have:=hs.ni;omega)
    obtain⟨k0,_,_,e3⟩:=b5 b k' hk'
    exact e3 q q1 q2)
  refine⟨by simp[Tmpl.kinds,a2,d2,b2],{ X.cut tm.h.length with h:=(BP.makeL tm.h z).1 },rfl,⟨e1,?_,?_,?_,?_,?_,hs.ni,hs.y,?_⟩⟩
  ·simp only[Tmpl.make,a1,d1]
  ·simp only[Tmpl.make]
   exact(a3 _ (hs.t.ren c2.toMove0)).ext e2
  ·simp only[Tmpl.make,a1]
   exact(d3 _ (hs.fs.ren c2.toMove0)).ext e2
  ·exact qjP (X:=X) (fun _ h=>h) rfl rfl hs.glob
  ·show qpb X.kept (B.pin tm.pend) a.defers
   rw[hpe'];exact hs.df
  ·show ∀p,p∈B.pin tm.pend→p∈X.kept
   rw[hpe'];exact hs.pin
 ·cases h
theorem Tmpl.weaken{tm:Tmpl}{E:Env}{B:Base}{X:Ctx}{st:St}{a:Act}{ps:List PV}(hk:tm.ok E.nimp=true)(h:tm.take st=some ps)(hs:Sim E B X st a) :
  ps.map PV.kind=tm.kinds∧∃X',X'.w=X.w∧Sim E B X' (tm.make ps) a:=by
 unfold Tmpl.ok at hk
 simp only[Bool.and_eq_true,Bool.or_eq_true,List.isEmpty_iff,Nat.ble_eq] at hk
 obtain⟨X0,h0,h2'⟩:=qgP tm.pro hs
 obtain⟨X1,h1',h2⟩:=q7A tm.prc h2'
 have h1:=h1'.trans h0
 have:∃X',X'.w=X1.w∧Sim E B X' (qj8 tm.swn tm.sw (qhI tm.prc (qso tm.pro st))) a:=by
  rcases hk.2 with h0|h0
  ·rw[h0];exact⟨X1,rfl,h2⟩
  ·exact qa3 (Nat.le_trans hs.ni h0) tm.sw h2
 obtain⟨X1',h1',h2'⟩:=this
 obtain⟨g1,X2,g2,g3⟩:=Tmpl.weaken1 hk.1 h h2'
 exact⟨g1,X2,(g2.trans h1').trans h1,g3⟩
structure Out where
 x:Ex
 tm:Tmpl
abbrev TR:=Tree (Nat×List PV)
def qxI:List Out→Nat→Ex×St→TR
 | [],_,_=>.fail
 | o::l,j,r=>match Ex.beq o.x r.1,o.tm.take r.2 with
  | true,some ps=>.leaf (j,ps)
  | _,_=>qxI l (j+1) r
def okR(R:TR):Bool:=R.run.isSome
def jR(R:TR):Nat:=match R.run with|some r=>r.1|none=>0
def pR(R:TR)(i:Nat):PV:=match R.run with|some r=>r.2.getD i (.i 0)|none=>.i 0
def gI(R:TR)(i:Nat):Int:=(pR R i).toI
def gB(R:TR)(i:Nat):Bool:=(pR R i).toB
def gS(R:TR)(i:Nat):List UInt8:=(pR R i).toS
def gR(R:TR)(i:Nat):Go.Eng.R:=(pR R i).toR
def jIs(R:TR)(j:Nat):Bool:=Nat.beq (jR R) j
def qic(R:TR):List PK→Nat→List PV
 | [],_=>[]
 | .i::l,n=>.i (gI R n)::qic R l (n+1)
 | .b::l,n=>.b (gB R n)::qic R l (n+1)
 | .s::l,n=>.s (gS R n)::qic R l (n+1)
 | .r::l,n=>.r (gR R n)::qic R l (n+1)
theorem qfk{R:TR}{j:Nat}{ps:List PV}(hR:R.run=some (j,ps)):∀(ks:List PK) (n:Nat),(ps.drop n).map PV.kind=ks→qic R ks n=ps.drop n
 | [],n,h=>by simp at h;simp[qic];exact h
 | k::ks,n,h=>by
  cases hd:ps.drop n with
  | nil=>rw[hd] at h;cases h
  | cons v rest=>
   rw[hd] at h
   simp only[List.map_cons,List.cons.injEq] at h
   have hn:ps[n]?=some v:=by
    have:(ps.drop n)[0]?=some v:=by rw[hd];rfl
    rwa [List.getElem?_drop,Nat.add_zero] at this
   have hr:ps.drop (n+1)=rest:=by rw[←List.drop_drop,hd];rfl
   have ih:=qfk hR ks (n+1) (by rw[hr];exact h.2)
   have hp:pR R n=v:=by simp[pR,hR,List.getD_eq_getElem?_getD,hn]
   rw[hr] at ih
   cases v<;>simp only[PV.kind] at h<;>obtain⟨rfl,_⟩:=h<;>simp only[qic,ih,gI,gB,gS,gR,hp,PV.toI,PV.toB,PV.toS,PV.toR]
def qyw(R:TR):List Out→Nat→Tree (Ex×St)
 | [],_=>.fail
 | o::l,j=>match l with
  | []=>.leaf (o.x,o.tm.make (qic R o.tm.kinds 0))
  | _::_=>.br (jIs R j) (.leaf (o.x,o.tm.make (qic R o.tm.kinds 0))) (qyw R l (j+1))
theorem qqS{R:TR}{j:Nat}{ps:List PV}(hR:R.run=some (j,ps)):∀(outs:List Out) (k:Nat) (o:Out) (r:Ex×St),k≤j→outs[j-k]?=some o→ps.map PV.kind=o.tm.kinds →
  (qyw R outs k).run=some r→r=(o.x,o.tm.make ps)
 | [],k,o,r,_,h,_,_=>by simp at h
 | o'::l,k,o,r,hk,h,hp,hr=>by
  have hj:jR R=j:=by simp[jR,hR]
  simp only[qyw] at hr
  cases l with
  | nil=>
   have:j-k=0:=by
    rcases Nat.eq_zero_or_pos (j-k) with h0|h0
    ·exact h0
    ·rw[List.getElem?_eq_none (by simp;omega)] at h;cases h
   rw[this] at h
   simp only[List.getElem?_cons_zero,Option.some.injEq] at h
   subst h
   simp only[Tree.run,Option.some.injEq] at hr
   rw[←hr,qfk hR _ 0 (by simpa using hp)];rfl
  | cons o2 l=>
   simp only[Tree.run] at hr
   by_cases hjk:j=k
   ·have hb:jIs R k=true:=by simp[jIs,hj,hjk]
    rw[hb] at hr
    simp only[Option.some.injEq] at hr
    subst hjk
    simp only[Nat.sub_self,List.getElem?_cons_zero,Option.some.injEq] at h
    subst h
    rw[←hr,qfk hR _ 0 (by simpa using hp)];rfl
   ·have hb:jIs R k=false:=by
     simp only[jIs,hj]
     cases hq:Nat.beq j k with
     | false=>rfl
     | true=>exact absurd (Nat.eq_of_beq_eq_true hq) hjk
    rw[hb] at hr
    simp only at hr
    refine qqS hR (o2::l) (k+1) o r (by omega) ?_ hp hr
    rw[show j-k=(j-(k+1))+1 by omega,List.getElem?_cons_succ] at h
    exact h
theorem qro:∀(outs:List Out) (k:Nat) (r:Ex×St) (j:Nat) (ps:List PV),(qxI outs k r).run=some (j,ps)→k≤j∧∃o,outs[j-k]?=some o∧o.x=r.1∧o.tm.take r.2=some ps
 | [],k,r,j,ps,h=>by simp only[qxI] at h;cases h
 | o::l,k,r,j,ps,h=>by
  simp only[qxI] at h
  split at h
  ·rename_i ps' hb ht
   simp only[Tree.run,Option.some.injEq,Prod.mk.injEq] at h
   obtain⟨rfl,rfl⟩:=h
   exact⟨Nat.le_refl _,o,by simp,Ex.beq_eq hb,ht⟩
  ·obtain⟨h1,o',h2,h3,h4⟩:=qro l (k+1) r j ps h
   refine⟨by omega,o',?_,h3,h4⟩
   rw[show j-k=(j-(k+1))+1 by omega,List.getElem?_cons_succ]
   exact h2
def qo(tin:Tmpl)(outs:List Out)(T:List PV→TR):St→Tree (Ex×St):=fun st=>match tin.take st with
 | none=>.fail
 | some ps=>.br (okR (T ps)) (qyw (T ps) outs 0) .fail
theorem qsA{tin:Tmpl}{outs:List Out}{T:List PV→TR}{st:St}{r:Ex×St}(h:(qo tin outs T st).run=some r) :
  ∃ps j qs,tin.take st=some ps∧(T ps).run=some (j,qs)∧(qyw (T ps) outs 0).run=some r:=by
 unfold qo at h
 cases ht:tin.take st with
 | none=>rw[ht] at h;cases h
 | some ps=>
  rw[ht] at h
  simp only[Tree.run] at h
  cases hr:(T ps).run with
  | none=>simp[okR,hr] at h
  | some q=>
   obtain⟨j,qs⟩:=q
   simp only[okR,hr,Option.isSome_some] at h
   exact⟨ps,j,qs,rfl,hr,h⟩
theorem qqs.env{E E':Env}(he:E.glob=E'.glob)(hn:E.nimp=E'.nimp){B:Base}{r:Ex×St}{e:Exit}{a:Act}{w:World}(h:qqs E B r e a w):qqs E' B r e a w:=by
 obtain⟨h1,X',h2,h3⟩:=h
 exact⟨h1,X',h2,h3.env he hn⟩
theorem qxp{ni:Nat}{outs:List Out}(h:(outs.all fun o=>o.tm.ok ni)=true){j:Nat}{o:Out}(ho:outs[j]?=some o):o.tm.ok ni=true:=
 List.all_eq_true.1 h o (List.mem_of_getElem? ho)
theorem qmA{p:Nat→Prop}(h:∃n,p n):∃n,p n∧∀m,p m→n≤m:=by
 obtain⟨n,hn⟩:=h
 induction n using Nat.strongRecOn with
 | _ n ih=>
  by_cases hlt:∃m,m<n∧p m
  ·obtain⟨m,h1,h2⟩:=hlt;exact ih m h1 h2
  ·exact⟨n,hn,fun m hm=>Nat.le_of_not_lt fun h=>hlt ⟨m,h,hm⟩⟩
open Classical in
noncomputable def qnf(p:Nat→Prop):Nat:=if h:∃n,p n then Classical.choose (qmA h) else 0
theorem qhp{p:Nat→Prop}(h:∃n,p n):p (qnf p)∧∀m,p m→qnf p≤m:=by
 unfold qnf
 rw[dif_pos h]
 exact Classical.choose_spec (qmA h)
def qvO(tin:Tmpl)(outs:List Out)(r:Ex×St):TR:=match r.1 with
 | .normal=>match tin.take r.2 with
  | some ps=>.leaf (0,ps)
  | none=>.fail
 | _=>qxI outs 1 r
def qgb(S:List PV→TR):Nat→List PV→TR
 | 0,_=>.fail
 | n+1,ps=>(S ps).bind fun r=>match r.1 with
  | 0=>qgb S n r.2
  | j+1=>.leaf (j,r.2)
theorem qud{E:Env}{P:Program}{c:Code}{BO:Base→Prop}{ev:St→Tree (Ex×St)}(hev:∀(n0:Nat) B X st a r,BO B→Sim E B X st a→(ev st).run=some r→c.wpIn (q0i B.ro) n0 P (qqs E B r) a X.w)
  {tin:Tmpl} {outs:List Out} {S T:List PV→TR} (hk:tin.ok E.nimp=true) (hko:(outs.all fun o=>o.tm.ok E.nimp)=true)
  (hS:∀ps r,ps.map PV.kind=tin.kinds→(S ps).run=some r→((ev (tin.make ps)).bind (qvO tin outs)).run=some r) (hT:∀ps,∃n,T ps=qgb S n ps) :
  qp P E.glob E.nimp BO (.loop c) (qo tin outs T):=by
 intro E' B X st a r he hn hbo hs h nf
 obtain⟨ps,j,qs,h1,h2,h3⟩:=qsA h
 obtain⟨hkd,X',hw,hs'⟩:=Tmpl.weaken hk h1 (hs.env he hn)
 obtain⟨n0,hn0⟩:=hT ps
 have hend:∀(o:Out) (X3:Ctx) (a':Act),outs[j]?=some o→qs.map PV.kind=o.tm.kinds→Sim E B X3 (o.tm.make qs) a'→qqs E' B r o.x.out a' X3.w:=by
  intro o X3 a' q1 hkd2 hs3
  have hr:=qqS h2 outs 0 o r (Nat.zero_le _) q1 hkd2 h3
  subst hr
  exact qqs.env he.symm hn.symm ⟨rfl,X3,rfl,hs3⟩
 rw[hn0] at h2
 let I:Nat→Act→World→Prop:=fun n a' w'=>∃X1 ps1,X1.w=w'∧ps1.map PV.kind=tin.kinds∧Sim E B X1 (tin.make ps1) a'∧(qgb S n ps1).run=some (j,qs)
 have key:∀a' w',(∃n,I n a' w')→c.wpIn (q0i B.ro) nf P (Exit.then (fun a'' w''=>∃n,I n a'' w''∧∀m,I m a' w'→n<m) (qqs E' B r)) a' w':=by
  intro a' w' hex
  have hmin:=qmA hex
  obtain⟨n,⟨X1,ps1,rfl,hk1,hs1,hit⟩,hleast⟩:=hmin
  cases n with
  | zero=>simp only[qgb] at hit;cases hit
  | succ n=>
   simp only[qgb] at hit
   obtain⟨s,g1,g2⟩:=bind_some hit
   obtain⟨r1,g3,g4⟩:=bind_some (hS ps1 s hk1 g1)
   refine wpIn_mono (hev nf B X1 _ a' r1 hbo hs1 g3) fun e a'' w'' ⟨p1,X2,p2,p3⟩=>?_
   subst p1 p2
   obtain⟨x1,s1⟩:=r1
   have other:∀(_:(qxI outs 1 (x1,s1)).run=some s),qqs E' B r x1.out a'' X2.w:=by
    intro hf
    obtain⟨sj,sps⟩:=s
    obtain⟨f1,o,f2,f3,f4⟩:=qro _ _ _ _ _ hf
    cases sj with
    | zero=>omega
    | succ sj=>
     simp only[Tree.run,Option.some.injEq,Prod.mk.injEq] at g2
     obtain⟨rfl,rfl⟩:=g2
     simp only[Nat.add_sub_cancel] at f2
     obtain⟨hkd2,X3,hw3,hs3⟩:=Tmpl.weaken (qxp hko f2) f4 p3
     have f3':o.x=x1:=f3
     rw[←f3',←hw3]
     exact hend o X3 a'' f2 hkd2 hs3
   cases x1 with
   | normal=>
    simp only[qvO] at g4
    cases htk:tin.take s1 with
    | none=>rw[htk] at g4;cases g4
    | some ps2=>
     rw[htk] at g4
     simp only[Tree.run,Option.some.injEq] at g4
     subst g4
     obtain⟨hkd2,X3,hw3,hs3⟩:=Tmpl.weaken hk htk p3
     refine⟨n,⟨X3,ps2,hw3,hkd2,hs3,g2⟩,fun m hm=>?_⟩
     have:=hleast m hm
     omega
   | exit i=>exact other g4
   | ret=>exact other g4
 rw[←hw]
 have hI0:∃n,I n a X'.w:=⟨n0,X',ps,rfl,hkd,hs',h2⟩
 refine wpIn_loop (fun a' w'=>∃n,I n a' w') (fun a' w'=>qnf fun n=>I n a' w') hI0 fun a' w' hex=>?_
 refine wpIn_mono (key a' w' hex) fun e a'' w'' hq=>?_
 cases e with
 | normal=>
  obtain⟨n,hn1,hn2⟩:=hq
  exact⟨⟨n,hn1⟩,Nat.lt_of_le_of_lt ((qhp ⟨n,hn1⟩).2 n hn1) (hn2 _ (qhp hex).1)⟩
 | exit i=>exact hq
 | goto i=>exact hq
 | ret=>exact hq
 | panic ch=>exact hq
 | outgrown=>exact hq
end Go.Eng

namespace Go.Eng
structure FOut where
 res:AP
 h:List BP
 pro:Option (Nat×TypeId×List Sh):=none
def qwP:Nat→AV→Bool
 | i,.tuple vs=>match vs[i]? with|some .nils=>true|_=>false
 | 0,.nils=>true
 | _,_=>false
def qyS(i:Nat)(v:AV):AV→AV
 | .tuple vs=>.tuple (vs.set i v)
 | .nils=>v
 | x=>x
def qyP(p:Option (Nat×TypeId×List Sh))(r:AV×List Blk):AV×List Blk:=match p with
 | none=>r
 | some (i,e,sh)=>match qwP i r.1 with
  | true=>(qyS i (.vec r.2.length) r.1,r.2++[.vec e sh []])
  | false=>r
def qpj(h:List Blk):Blk→Blk
 | .cells cs=>.cells (AV.lendL h cs)
 | k=>k
def q9M(fz:Bool)(r:AV×List Blk):AV×List Blk:=match fz with
 | false=>r
 | true=>let h1:=zn r.2 (List.range r.2.length);(r.1.lend h1,h1.map (qpj h1))
def FOut.take1(o:FOut)(r:AV×List Blk):Option (List PV):=
 qt4 (o.res.take (r.1.ren (qp4 o.h.length))) (BP.takeL o.h ((r.2.take o.h.length).map (Blk.ren (qp4 o.h.length))))
def FOut.take(o:FOut)(r:AV×List Blk):Option (List PV):=o.take1 (qyP o.pro r)
def FOut.make(o:FOut)(ps:List PV):AV×List Blk:=let x:=o.res.make ps;(x.1,(BP.makeL o.h x.2).1)
def FOut.kinds(o:FOut):List PK:=o.res.kinds++BP.kindsL o.h
def qxK:List FOut→Nat→AV×List Blk→TR
 | [],_,_=>.fail
 | o::l,j,r=>match o.take r with
  | some ps=>.leaf (j,ps)
  | none=>qxK l (j+1) r
def qxJ(R:TR):List FOut→Nat→Tree (AV×List Blk)
 | [],_=>.fail
 | o::l,j=>match l with
  | []=>.leaf (o.make (qic R o.kinds 0))
  | _::_=>.br (jIs R j) (.leaf (o.make (qic R o.kinds 0))) (qxJ R l (j+1))
structure FIn where
 args:List AP
 h:List BP
def FIn.take(i:FIn)(args:List AV)(h:List Blk):Option (List PV):=qt4 (AP.takeL i.args args) (BP.takeL i.h h)
def FIn.make(i:FIn)(ps:List PV):List AV×List Blk:=let x:=AP.makeL i.args ps;(x.1,(BP.makeL i.h x.2).1)
def FIn.kinds(i:FIn):List PK:=AP.kindsL i.args++BP.kindsL i.h
def qa(i:FIn)(outs:List FOut)(T:List PV→TR):q08:=fun args h=>match i.take args h with
 | none=>.fail
 | some ps=>.br (okR (T ps)) (qxJ (T ps) outs 0) .fail
theorem qmQ{R:TR}{j:Nat}{ps:List PV}(hR:R.run=some (j,ps)):∀(outs:List FOut) (k:Nat) (o:FOut) (r:AV×List Blk),k≤j→outs[j-k]?=some o→ps.map PV.kind=o.kinds →
  (qxJ R outs k).run=some r→r=o.make ps
 | [],k,o,r,_,h,_,_=>by simp at h
 | o'::l,k,o,r,hk,h,hp,hr=>by
  have hj:jR R=j:=by simp[jR,hR]
  simp only[qxJ] at hr
  cases l with
  | nil=>
   have:j-k=0:=by
    rcases Nat.eq_zero_or_pos (j-k) with h0|h0
    ·exact h0
    ·rw[List.getElem?_eq_none (by simp;omega)] at h;cases h
   rw[this] at h
   simp only[List.getElem?_cons_zero,Option.some.injEq] at h
   subst h
   simp only[Tree.run,Option.some.injEq] at hr
   rw[←hr,qfk hR _ 0 (by simpa using hp)];rfl
  | cons o2 l=>
   simp only[Tree.run] at hr
   by_cases hjk:j=k
   ·have hb:jIs R k=true:=by simp[jIs,hj,hjk]
    rw[hb] at hr
    simp only[Option.some.injEq] at hr
    subst hjk
    simp only[Nat.sub_self,List.getElem?_cons_zero,Option.some.injEq] at h
    subst h
    rw[←hr,qfk hR _ 0 (by simpa using hp)];rfl
   ·have hb:jIs R k=false:=by
     simp only[jIs,hj]
     cases hq:Nat.beq j k with
     | false=>rfl
     | true=>exact absurd (Nat.eq_of_beq_eq_true hq) hjk
    rw[hb] at hr
    simp only at hr
    refine qmQ hR (o2::l) (k+1) o r (by omega) ?_ hp hr
    rw[show j-k=(j-(k+1))+1 by omega,List.getElem?_cons_succ] at h
    exact h
theorem qqE:∀(outs:List FOut) (k:Nat) (r:AV×List Blk) (j:Nat) (ps:List PV),(qxK outs k r).run=some (j,ps)→k≤j∧∃o,outs[j-k]?=some o∧o.take r=some ps
 | [],k,r,j,ps,h=>by simp only[qxK] at h;cases h
 | o::l,k,r,j,ps,h=>by
  simp only[qxK] at h
  split at h
  ·rename_i ps' ht
   simp only[Tree.run,Option.some.injEq,Prod.mk.injEq] at h
   obtain⟨rfl,rfl⟩:=h
   exact⟨Nat.le_refl _,o,by simp,ht⟩
  ·obtain⟨h1,o',h2,h4⟩:=qqE l (k+1) r j ps h
   refine⟨by omega,o',?_,h4⟩
   rw[show j-k=(j-(k+1))+1 by omega,List.getElem?_cons_succ]
   exact h2
theorem qnv{i:FIn}{outs:List FOut}{T:List PV→TR}{args:List AV}{h:List Blk}{r:AV×List Blk}(hr:(qa i outs T args h).run=some r) :
  ∃ps j qs,i.take args h=some ps∧(T ps).run=some (j,qs)∧(qxJ (T ps) outs 0).run=some r:=by
 unfold qa at hr
 cases ht:i.take args h with
 | none=>rw[ht] at hr;cases hr
 | some ps=>
  rw[ht] at hr
  simp only[Tree.run] at hr
  cases hq:(T ps).run with
  | none=>simp[okR,hq] at hr
  | some q=>
   obtain⟨j,qs⟩:=q
   simp only[okR,hq,Option.isSome_some] at hr
   exact⟨ps,j,qs,rfl,hq,hr⟩
theorem qla{B:Base}{X:Ctx}(hs:HSim B X)(fz:Bool){r:AV×List Blk}{v:Value}(hr:Rep X r.1 v)(hh:X.h=r.2) :
  ∃X',X'.w=X.w∧X'.h=(q9M fz r).2∧HSim B X'∧Rep X' (q9M fz r).1 v∧X'.y=X.y:=by
 cases fz with
 | false=>exact⟨X,rfl,hh,hs,hr,rfl⟩
 | true=>
  obtain⟨X1,f⟩:=q5j (List.range r.2.length) hs
  have hf:X1.h=zn r.2 (List.range r.2.length):=by rw[f.h,hh]
  obtain⟨d1,d2⟩:=q9A f.hs (h':=X1.h.map (qpj X1.h)) (by simp) (fun b k' hb=>by
   rw[List.getElem?_map] at hb
   cases hk:X1.h[b]? with
   | none=>rw[hk] at hb;cases hb
   | some k0=>
    rw[hk] at hb
    simp only[Option.map_some,Option.some.injEq] at hb
    refine⟨k0,rfl,?_⟩
    cases k0 with
    | cells cs=>exact .inr (.inr (.inl ⟨cs,_,rfl,hb.symm,fun vs hv=>q9H f.hs hv⟩))
    | _=>exact .inr (.inl hb.symm)) (fun b hb k' hk'=>by
   obtain⟨cs,hc,hc2⟩:=f.hs.impc b hb
   rw[List.getElem?_map,hc] at hk'
   simp only[Option.map_some,Option.some.injEq] at hk'
   subst hk'
   cases cs<;>first|(cases hc2;done)|rfl)
  refine⟨{ X1 with h:=X1.h.map (qpj X1.h) },f.w,?_,d1,?_,f.ext.y⟩
  ·simp only[q9M,hf]
  ·have:=(qqC f.hs (hr.ext f.ext)).ext d2
   simp only[q9M]
   rw[←hf]
   exact this
theorem quT{B:Base}{X:Ctx}(hs:HSim B X)(p:Option (Nat×TypeId×List Sh)){r:AV×List Blk}{v:Value}(hr:Rep X r.1 v)(hh:X.h=r.2) :
  ∃X',X'.w=X.w∧X'.h=(qyP p r).2∧HSim B X'∧Rep X' (qyP p r).1 v∧X'.y=X.y:=by
 cases p with
 | none=>exact⟨X,rfl,hh,hs,hr,rfl⟩
 | some p=>
  obtain⟨i,e,sh⟩:=p
  obtain⟨a,h⟩:=r
  simp only at hr hh
  subst hh
  simp only[qyP]
  cases hn:qwP i a with
  | false=>exact⟨X,rfl,rfl,hs,hr,rfl⟩
  | true=>
   simp only
   have hw:=PushW.same X
   have hk:jC (X.pushW (.vec e sh []) none X.w) X.h.length (.vec e sh []):=.inl ⟨by simp[Ctx.pushW],rfl⟩
   have hs1:=HSim.push hs hw hk
   have hx:=Ctx.push_ext hs (.vec e sh []) hw
   have hrep:Rep (X.pushW (.vec e sh []) none X.w) (.vec X.h.length) (.slice none 0 0):=by
    refine .vec _ _ _ _ (by simp[Ctx.pushW]) fun sh' m hv=>?_
    unfold qo3
    simp[Ctx.pushW]
   refine⟨X.pushW (.vec e sh []) none X.w,rfl,by simp[Ctx.pushW],hs1,?_,rfl⟩
   cases a with
   | nils=>
    cases hr
    exact hrep
   | tuple vs=>
    cases hr with
    | tuple _ us hu=>
     simp only[qwP] at hn
     cases hg:vs[i]? with
     | none=>rw[hg] at hn;cases hn
     | some x=>
      rw[hg] at hn
      cases x<;>first|(cases hn;done)|skip
      obtain⟨u,g1,g2⟩:=hu.get i _ hg
      have hue:u=.slice none 0 0:=by cases g2;rfl
      subst hue
      have hset:=RepL.set hrep (hu.ext hx) i
      have he:us.set i (.slice none 0 0)=us:=by
       apply List.ext_getElem?
       intro j
       by_cases hj:j=i
       ·subst hj;rw[List.getElem?_set_self (ql g1),g1]
       ·rw[List.getElem?_set_ne (Ne.symm hj)]
      rw[he] at hset
      exact .tuple _ _ hset
   | _=>cases i<;>cases hn
theorem FOut.weaken1{o:FOut}{B:Base}{X:Ctx}{r:AV×List Blk}{ps:List PV}{v:Value}(hk:q8y B.imps.length o.h=true)(h:o.take1 r=some ps)(hs:HSim B X)(hr:Rep X r.1 v)(hh:X.h=r.2) :
  ps.map PV.kind=o.kinds∧∃X',X'.w=X.w∧X'.h=(o.make ps).2∧HSim B X'∧Rep X' (o.make ps).1 v∧X'.y=X.y:=by
 unfold FOut.take1 at h
 obtain⟨x,y,h1,h2,rfl⟩:=q2n h
 obtain⟨hc1,hc2⟩:=qkt hk
 obtain⟨c1,c2⟩:=qqU hs (n:=o.h.length) hc1
 obtain⟨a1,a2,a3⟩:=AP.take_ok (X:=X.cut o.h.length) _ _ x y h1
 obtain⟨b1,b2,b3,b4,b5⟩:=BP.takeL_ok (X:=X.cut o.h.length) _ _ y [] h2
 have hch:(X.cut o.h.length).h=(r.2.take o.h.length).map (Blk.ren (qp4 o.h.length)):=by rw[←hh];rfl
 rw[←hch] at b3 b5
 rw[List.append_nil] at b3 b5
 obtain⟨d1,d2⟩:=q9A c1 (h':=(BP.makeL o.h y).1) b3 (fun b k' hb=>by obtain⟨k0,e1,e2,_⟩:=b5 b k' hb;exact⟨k0,e1,e2⟩)
  (fun b hb k' hk'=>by
   obtain⟨q,q1,q2⟩:=hc2 b hb
   obtain⟨k0,_,_,e3⟩:=b5 b k' hk'
   exact e3 q q1 q2)
 refine⟨by simp[FOut.kinds,a2,b2],{ X.cut o.h.length with h:=(BP.makeL o.h y).1 },rfl,?_,d1,?_,rfl⟩
 ·simp only[FOut.make,a1]
 ·simp only[FOut.make]
  exact(a3 _ (hr.ren c2.toMove0)).ext d2
theorem FOut.weaken{o:FOut}{B:Base}{X:Ctx}{r:AV×List Blk}{ps:List PV}{v:Value}(hk:q8y B.imps.length o.h=true)(h:o.take r=some ps)(hs:HSim B X)(hr:Rep X r.1 v)(hh:X.h=r.2) :
  ps.map PV.kind=o.kinds∧∃X',X'.w=X.w∧X'.h=(o.make ps).2∧HSim B X'∧Rep X' (o.make ps).1 v∧X'.y=X.y:=by
 obtain⟨X1,h1,h2,h3,h4,h5⟩:=quT hs o.pro hr hh
 obtain⟨g1,X2,g2,g3,g4,g5,g6⟩:=FOut.weaken1 hk h h3 h4 h2
 exact⟨g1,X2,g2.trans h1,g3,g4,g5,g6.trans h5⟩
theorem qua{E:Env}{P:Program}(hm:P.follows .mixedOrders=true)(hE:E.tok P)(hS:E.specs P)(hL:E.loopsOK P)(hb:E.bodies P){f:FuncId}{fn:Func}(hf:P.funcs[f]?=some fn)
  (hn:(fn.name == "runtime.NumGoroutine")=false) (hbd:fn.body.isNone=false) {n:Nat} {fz:Bool} {i:FIn} {outs:List FOut} {T:List PV→TR}
  (hi:i.h.length=E.nimp∧i.h.all BP.isCells=true) (ho:(outs.all fun o=>q8y E.nimp o.h)=true)
  (hT:∀ps r,ps.map PV.kind=i.kinds→(T ps).run=some r→((qrm E n f fn (i.make ps).1 (i.make ps).2).bind fun q=>qxK outs 0 (q9M fz q)).run=some r) :
  zF P E.glob f (qa i outs T):=by
 refine⟨q0m hf hn hbd,fun B X args vargs r hs hen hgl ha h=>?_⟩
 obtain⟨ps,j,qs,h1,h2,h3⟩:=qnv h
 unfold FIn.take at h1
 obtain⟨x,y,g1,g2,rfl⟩:=q2n h1
 obtain⟨a1,a2,a3⟩:=AP.takeL_ok (X:=X) _ _ x y g1
 obtain⟨b1,b2,b3,b4,b5⟩:=BP.takeL_ok (X:=X) _ _ y [] g2
 rw[List.append_nil] at b3 b5
 have himp:B.imps.length=X.h.length:=by rw[hen.imps];simp
 obtain⟨d1,d2⟩:=q9A hs (h':=(BP.makeL i.h y).1) b3 (fun b k' hb=>by obtain⟨k0,e1,e2,_⟩:=b5 b k' hb;exact⟨k0,e1,e2⟩)
  (fun b hb k' hk'=>by
   obtain⟨k0,_,_,e3⟩:=b5 b k' hk'
   have hlt:b<i.h.length:=by omega
   exact e3 i.h[b] (List.getElem?_eq_getElem hlt) (List.all_eq_true.1 hi.2 _ (List.getElem_mem hlt)))
 have hkd:(x++y).map PV.kind=i.kinds:=by simp[FIn.kinds,a2,b2]
 have hgl1:q9q E.glob ({ X with h:=(BP.makeL i.h y).1 }:Ctx):=qjP (X:=X) (fun _ h=>h) rfl rfl hgl
 obtain⟨q,k1,k2⟩:=bind_some (hT _ _ hkd h2)
 have hmk:i.make (x++y)=((AP.makeL i.args (x++y)).1,(BP.makeL i.h y).1):=by simp only[FIn.make,a1]
 rw[hmk] at k1
 have hcalls:=qnI hm hE hS hL hb hf (n:=n) d1 (by omega) hgl1 ((a3 _ ha).ext d2) k1
 refine hcalls.mono fun e w' ⟨v,X',e1,e2,e3,e4,e5,e6⟩=>?_
 obtain⟨X2,p1,p2,p3,p4,p5⟩:=qla e5 fz e3 e4
 obtain⟨_,o,q1,q2⟩:=qqE _ _ _ _ _ k2
 have hco:q8y B.imps.length o.h=true:=by
  rw[himp,←b4,hi.1]
  exact List.all_eq_true.1 ho o (List.mem_of_getElem? q1)
 obtain⟨m1,X3,m2,m3,m4,m5,m6⟩:=FOut.weaken hco q2 p3 p4 p2
 have hre:=qmQ h2 outs 0 o r (Nat.zero_le _) q1 m1 h3
 subst hre
 exact⟨v,X3,e1,by rw[m2,p1,e2],m5,m3,m4,(m6.trans p5).trans e6⟩
def qz2(l:List (FIn×q08)):q08:=fun args h=>match l.find? fun c=>(c.1.take args h).isSome with
 | some c=>c.2 args h
 | none=>.fail
theorem qvo{P:Program}{gl:List (Nat×AV)}{f:FuncId}{l:List (FIn×q08)}(he:qg1 P f)(hl:∀c,c∈l→zF P gl f c.2):zF P gl f (qz2 l):=by
 refine⟨he,fun B X args vargs r hs hen hg ha h=>?_⟩
 unfold qz2 at h
 cases hc:l.find? fun c=>(c.1.take args X.h).isSome with
 | none=>rw[hc] at h;cases h
 | some c=>
  rw[hc] at h
  exact(hl c (List.mem_of_find?_eq_some hc)).2 B X args vargs r hs hen hg ha h
theorem qxj{P:Program}{gl:List (Nat×AV)}{f:FuncId}:∀c,c∈([]:List (FIn×q08))→zF P gl f c.2:=fun _ h=>by cases h
theorem qrw{P:Program}{gl:List (Nat×AV)}{f:FuncId}{i:FIn}{G:q08}{l:List (FIn×q08)}(h:zF P gl f G)(t:∀c,c∈l→zF P gl f c.2):∀c,c∈(i,G)::l→zF P gl f c.2:=fun c hc=>by
 rcases List.mem_cons.1 hc with rfl|hc
 ·exact h
 ·exact t c hc
end Go.Eng

namespace Go.Eng
def q3r(fn:Func):Code:=fn.body.getD .skip
def zH(fn:Func)(k:Nat):Code:=((ze (q3r fn))[k]?).getD .skip
def qeU:Code→Code
 | .loop c=>c
 | c=>c
def qzi(E:Env)(f:FuncId)(fn:Func)(k:Nat):qsj:=match zH fn k with
 | .rangeFunc _ ps a b=>qnO (jB E (q5T E 9) (q5o E) (qeK E (q5T E 9)) f a (k+1)) (jB E (q5T E 9) (q5o E) (qeK E (q5T E 9)) f b (k+1+zG a)) ps.toList
 | _=>fun _ _=>.fail
def hdl(E:Env):Option (FuncId×Func×Nat)→q3Z
 | none=>q5T E 9
 | some (fc,fnc,kc)=>qwf (qzi E fc fnc kc) (q5T E 9)
def rgh(E:Env):Option (FuncId×Func×Nat)→q9m
 | none=>qeK E (q5T E 9)
 | some _=>qnn
def qgS(E:Env)(y:Option (FuncId×Func×Nat))(f:FuncId)(fn:Func)(k:Nat)(st:St):Tree (Ex×St):=jB E (hdl E y) (q5o E) (rgh E y) f (qeU (zH fn k)) (k+1) st
def jD(E:Env)(f:FuncId)(fn:Func)(k:Nat)(tin:Tmpl)(outs:List Out)(ps:List PV):TR:=(qgS E none f fn k (tin.make ps)).bind (qvO tin outs)
def qnW(E:Env)(y:Option (FuncId×Func×Nat))(f:FuncId)(fn:Func)(k:Nat)(tin:Tmpl)(outs:List Out)(ps:List PV):TR:=(qgS E y f fn k (tin.make ps)).bind (qvO tin outs)
def qw(E:Env)(f:FuncId)(fn:Func)(fz:Bool)(i:FIn)(outs:List FOut)(ps:List PV):TR:=(qrm E 9 f fn (i.make ps).1 (i.make ps).2).bind fun q=>qxK outs 0 (q9M fz q)
def qbz:Nat:=2^70
def qj(S:List PV→TR)(ps:List PV):TR:=qgb S qbz ps
structure EnvOK (E:Env) (P:Program):Prop where
 tok:E.tok P
 specs:E.specs P
 loops:E.loopsOK P
 bodies:E.bodies P
theorem q9u{P:Program}{E:Env}(h:E.tt.map (fun x=>qnr P x.1)=E.tt.map (·.2)):E.tok P:=by
 intro x hx
 have:∀(l:List (TypeId×TI)),l.map (fun x=>qnr P x.1)=l.map (·.2)→∀x,x∈l→qnr P x.1=x.2:=by
  intro l
  induction l with
  | nil=>intro _ x hx;cases hx
  | cons y l ih=>
   intro h x hx
   simp only[List.map_cons,List.cons.injEq] at h
   rcases List.mem_cons.1 hx with rfl|hx
   ·exact h.1
   ·exact ih h.2 x hx
 exact this _ h x hx
theorem aln{α:Type}{p:α→Prop}:∀x,x∈([]:List α)→p x:=fun _ h=>by cases h
theorem alc{α:Type}{p:α→Prop}{a:α}{l:List α}(h:p a)(t:∀x,x∈l→p x):∀x,x∈a::l→p x:=fun x hx=>by
 rcases List.mem_cons.1 hx with rfl|hx
 ·exact h
 ·exact t x hx
theorem qtk {P:Program} {f:FuncId} {fn:Func} (h:P.funcs[f]?=some fn) (hn:(fn.name == "runtime.NumGoroutine")=false):P.funcs[(f,fn).1]?=some (f,fn).2∧((f,fn).2.name == "runtime.NumGoroutine")=false:=⟨h,hn⟩
theorem qxq{P:Program}{gl:List (Nat×AV)}{ni:Nat}{f k:Nat}{fn:Func}{L:St→Tree (Ex×St)}(hf:P.funcs[f]?=some fn)(hb:fn.body.isSome=true)
  (hn:((ze (q3r fn))[k]?).isSome=true) {it:List (FuncId×FuncId×Nat)} (hg:qp P gl ni (qC P it f) (zH fn k) L) :
  ∃fn' c c',P.funcs[((f,k),L).1.1]?=some fn'∧fn'.body=some c∧(ze c)[((f,k),L).1.2]?=some c'∧qp P gl ni (qC P it ((f,k),L).1.1) c' ((f,k),L).2:=by
 refine⟨fn,q3r fn,zH fn k,hf,?_,?_,hg⟩
 ·unfold q3r
  cases h:fn.body with
  | none=>rw[h] at hb;cases hb
  | some c=>rfl
 ·show (ze (q3r fn))[k]?=some (zH fn k)
  unfold zH
  cases h:(ze (q3r fn))[k]? with
  | none=>rw[h] at hn;cases hn
  | some c=>rfl
def qoj:Code→Bool
 | .loop _=>true
 | _=>false
theorem qqy{A C:List Code}(hA:∀(k:Nat) (d:Code),A[k]?=some d→∀(j:Nat) (c':Code),(ze d)[j]?=some c'→A[k+j]?=some c')(hC:∀(k:Nat) (d:Code),C[k]?=some d→∀(j:Nat) (c':Code),(ze d)[j]?=some c'→C[k+j]?=some c') :
  ∀(k:Nat) (d:Code),(A++C)[k]?=some d→∀(j:Nat) (c':Code),(ze d)[j]?=some c'→(A++C)[k+j]?=some c':=by
 intro k d hd j c' hc
 rcases Nat.lt_or_ge k A.length with h|h
 ·rw[List.getElem?_append_left h] at hd
  have:=hA k d hd j c' hc
  rw[List.getElem?_append_left (ql this)];exact this
 ·rw[List.getElem?_append_right h] at hd
  have:=hC _ d hd j c' hc
  rw[List.getElem?_append_right (by omega),show k+j-A.length=k-A.length+j by omega];exact this
theorem qni{c:Code}{l:List Code}(hc:ze c=c::l)(hl:∀(k:Nat) (d:Code),l[k]?=some d→∀(j:Nat) (c':Code),(ze d)[j]?=some c'→l[k+j]?=some c') :
  ∀(k:Nat) (d:Code),(c::l)[k]?=some d→∀(j:Nat) (c':Code),(ze d)[j]?=some c'→(c::l)[k+j]?=some c':=by
 intro k d hd j c' hj
 cases k with
 | zero=>
  simp only[List.getElem?_cons_zero,Option.some.injEq] at hd
  subst hd
  rw[hc] at hj
  simpa using hj
 | succ k=>
  simp only[List.getElem?_cons_succ] at hd
  have:=hl k d hd j c' hj
  rw[show k+1+j=(k+j)+1 by omega,List.getElem?_cons_succ];exact this
theorem qo6:∀(c:Code) (k:Nat) (d:Code),(ze c)[k]?=some d→∀(j:Nat) (c':Code),(ze d)[j]?=some c'→(ze c)[k+j]?=some c':=by
 intro c
 induction c with
 | seq a b iha ihb=>exact qni rfl (qqy iha ihb)
 | cond x a b iha ihb=>exact qqy iha ihb
 | block id c ih=>exact ih
 | scope c ih=>exact ih
 | loop c ih=>exact qni rfl ih
 | rangeFunc x ps a b iha ihb=>exact qni rfl (qqy iha ihb)
 | _=>intro k d hd;simp[ze] at hd
theorem quK{fn:Func}{k:Nat}(h:((ze (q3r fn))[k]?).isSome=true):(ze (q3r fn))[k]?=some (zH fn k):=by
 unfold zH
 cases h':(ze (q3r fn))[k]? with
 | none=>rw[h'] at h;cases h
 | some c=>rfl
def qy4(E:Env)(P:Program)(f:FuncId):Option (FuncId×Func×Nat)→Prop
 | none=>q5k E.iter f=true
 | some (fc,fnc,kc)=>P.funcs[fc]?=some fnc∧(qlr E.iter f fc kc&&(q5k E.iter fc&&(fnc.body.isSome&&((ze (q3r fnc))[kc]?).isSome)))=true
theorem qmt{fn:Func}(h:fn.body.isSome=true):fn.body=some (q3r fn):=by
 unfold q3r
 cases hb:fn.body with
 | none=>rw[hb] at h;cases h
 | some c=>rfl
theorem qxn{E:Env}{P:Program}(hm:P.follows .mixedOrders=true)(h:EnvOK E P){f:FuncId}{y:Option (FuncId×Func×Nat)}(hy:qy4 E P f y):(∀B,qC P E.iter f B→CallOK E P (hdl E y) B)∧qeA E P (rgh E y):=by
 have hcall:=qbR hm h.tok h.specs h.loops h.bodies 9
 cases y with
 | none=>exact⟨fun B _=>hcall B,q9R hm h.tok h.specs h.loops h.bodies hcall⟩
 | some y=>
  obtain⟨fc,fnc,kc⟩:=y
  obtain⟨hf,hc⟩:=hy
  simp only[Bool.and_eq_true] at hc
  obtain⟨c1,c2,c3,c4⟩:=hc
  refine⟨fun B hB=>⟨(hcall B).fn,?_⟩,qh0 E P⟩
  have hfi:qcQ E.iter f=some (fc,kc):=by
   unfold qlr at c1
   split at c1
   ·rename_i z hz
    simp only[Bool.and_eq_true] at c1
    rw[hz]
    obtain⟨z1,z2⟩:=z
    have e1:z1=fc:=Nat.eq_of_beq_eq_true c1.1
    have e2:z2=kc:=Nat.eq_of_beq_eq_true c1.2
    rw[e1,e2]
   ·cases c1
  obtain⟨_,hI⟩:=hB
  rw[hfi] at hI
  have hnode:=quK c4
  have hsub:=qo6 (q3r fnc) kc _ hnode
  intro args st r X a vargs hs ha hr
  simp only[hdl,qwf,qzi] at hr
  cases hn:zH fnc kc with
  | rangeFunc x ps c d=>
   rw[hn] at hr hnode hsub
   refine qr4 hf (qmt c3) hnode c2 (fun B X st act r hbo hs hr n=>?_) (fun B X st act r hbo hs hr n=>?_) hI args st r X a vargs hs ha hr
   ·refine q8g hm h.tok h.specs h.loops hf (qmt c3) (fun B _=>hcall B) (q8d hm h.tok h.specs h.loops h.bodies) (q4T E) (q9R hm h.tok h.specs h.loops h.bodies hcall) c (kc+1) (fun j c' hj=>?_) hbo hs hr
    have:=hsub (1+j) c' (by simp only[ze];rw[Nat.add_comm,List.getElem?_cons_succ,List.getElem?_append_left (ql hj)];exact hj)
    rw[show kc+1+j=kc+(1+j) by omega];exact this
   ·refine q8g hm h.tok h.specs h.loops hf (qmt c3) (fun B _=>hcall B) (q8d hm h.tok h.specs h.loops h.bodies) (q4T E) (q9R hm h.tok h.specs h.loops h.bodies hcall) d (kc+1+zG c) (fun j c' hj=>?_) hbo hs hr
    have:=hsub (1+zG c+j) c' (by
     simp only[ze]
     rw[show 1+zG c+j=(zG c+j)+1 by omega,List.getElem?_cons_succ,List.getElem?_append_right (by rw[yU];omega),yU]
     rw[show zG c+j-zG c=j by omega];exact hj)
    rw[show kc+1+zG c+j=kc+(1+zG c+j) by omega];exact this
  | _=>rw[hn] at hr;cases hr
theorem q5e{E:Env}{P:Program}(hm:P.follows .mixedOrders=true)(h:EnvOK E P){f k:Nat}{fn:Func}(hf:P.funcs[f]?=some fn)
  (hlp:qoj (zH fn k)=true) {tin:Tmpl} {outs:List Out} {S:List PV→TR} {y:Option (FuncId×Func×Nat)} (hy:qy4 E P f y)
  (hk:(tin.ok E.nimp&&outs.all fun o=>o.tm.ok E.nimp)=true)
  (hnk:(fn.body.isSome&&((ze (q3r fn))[k]?).isSome)=true)
  (hS:∀ps,S ps=qnW E y f fn k tin outs ps):qp P E.glob E.nimp (qC P E.iter f) (zH fn k) (qo tin outs (qj S)):=by
 simp only[Bool.and_eq_true] at hk hnk
 have hnode:=quK hnk.2
 have hsub:∀j c',(ze (qeU (zH fn k)))[j]?=some c'→(ze (q3r fn))[k+1+j]?=some c':=by
  intro j c' hj
  have:=qo6 (q3r fn) k _ hnode (1+j) c' (by
   cases hn:zH fn k<;>simp[hn,qoj] at hlp
   rw[hn] at hj
   simp only[ze,qeU] at hj ⊢
   rw[Nat.add_comm,List.getElem?_cons_succ];exact hj)
  rw[show k+1+j=k+(1+j) by omega];exact this
 have hc:zH fn k=.loop (qeU (zH fn k)):=by
  cases hn:zH fn k<;>simp[hn,qoj] at hlp
  rfl
 rw[hc]
 refine qud (ev:=qgS E y f fn k) (S:=S) ?_ hk.1 hk.2 (fun ps r _ hr=>by rw[hS] at hr;exact hr) (fun ps=>⟨qbz,rfl⟩)
 intro n0 B X st a r hbo hs hr
 obtain⟨w1,w2⟩:=qxn hm h hy
 exact q8g hm h.tok h.specs h.loops hf (qmt hnk.1) w1 (q8d hm h.tok h.specs h.loops h.bodies) (q4T E) w2 (qeU (zH fn k)) (k+1) hsub hbo hs hr
theorem qpr{E:Env}{P:Program}(hm:P.follows .mixedOrders=true)(h:EnvOK E P){f k:Nat}{fn:Func}(hf:P.funcs[f]?=some fn)
  (hlp:qoj (zH fn k)=true) {tin:Tmpl} {outs:List Out} {S:List PV→TR} (hni:q5k E.iter f=true)
  (hk:(tin.ok E.nimp&&outs.all fun o=>o.tm.ok E.nimp)=true)
  (hnk:(fn.body.isSome&&((ze (q3r fn))[k]?).isSome)=true)
  (hS:∀ps,S ps=jD E f fn k tin outs ps):qp P E.glob E.nimp (qC P E.iter f) (zH fn k) (qo tin outs (qj S)):=
 q5e hm h hf hlp (y:=none) hni hk hnk hS
theorem qgC{E:Env}{P:Program}(hm:P.follows .mixedOrders=true)(h:EnvOK E P){f:FuncId}{fn:Func}(hf:P.funcs[f]?=some fn)
  (hn:((fn.name == "runtime.NumGoroutine")||fn.body.isNone)=false) {fz:Bool} {i:FIn} {outs:List FOut} {T:List PV→TR}
  (hk:(Nat.beq i.h.length E.nimp&&i.h.all BP.isCells&&outs.all fun o=>q8y E.nimp o.h)=true)
  (hT:∀ps,T ps=qw E f fn fz i outs ps):zF P E.glob f (qa i outs T):=by
 simp only[Bool.or_eq_false_iff] at hn
 simp only[Bool.and_eq_true] at hk
 exact qua hm h.tok h.specs h.loops h.bodies hf hn.1 hn.2 (n:=9) (fz:=fz) ⟨Nat.eq_of_beq_eq_true hk.1.1,hk.1.2⟩ hk.2 (fun ps r _ hr=>by rw[hT] at hr;exact hr)
theorem b1 {P:Program} {f:FuncId} {fn:Func} (h:P.funcs[f]?=some fn) (hn:(fn.name == "runtime.NumGoroutine")=false:=by kernel_rfl):∀x,x∈[(f,fn)]→P.funcs[x.1]?=some x.2∧(x.2.name == "runtime.NumGoroutine")=false:=alc (qtk h hn) aln
theorem bk {P:Program} {f:FuncId} {fn:Func} (h:P.funcs[f]?=some fn) (hn:(fn.name == "runtime.NumGoroutine")=false:=by kernel_rfl):P.funcs[(f,fn).1]?=some (f,fn).2∧((f,fn).2.name == "runtime.NumGoroutine")=false:=qtk h hn
theorem lk{P:Program}{gl:List (Nat×AV)}{ni:Nat}{f k:Nat}{fn:Func}{L:St→Tree (Ex×St)}(hf:P.funcs[f]?=some fn)
  {it:List (FuncId×FuncId×Nat)} (hg:qp P gl ni (qC P it f) (zH fn k) L) (hb:fn.body.isSome=true:=by kernel_rfl) (hn:((ze (q3r fn))[k]?).isSome=true:=by kernel_rfl) :
  ∃fn' c c',P.funcs[((f,k),L).1.1]?=some fn'∧fn'.body=some c∧(ze c)[((f,k),L).1.2]?=some c'∧qp P gl ni (qC P it ((f,k),L).1.1) c' ((f,k),L).2:=qxq hf hb hn hg
theorem sk(E:Env){P:Program}(hm:P.follows .mixedOrders=true)(ht:E.tt.map (fun x=>qnr P x.1)=E.tt.map (·.2))(hs:∀x,x∈E.spec→zF P E.glob x.1 x.2)(hl:E.loopsOK P)(hb:E.bodies P){f:FuncId}{fn:Func}(hf:P.funcs[f]?=some fn)
  {i:FIn} {outs:List FOut} {T:List PV→TR} (hT:∀ps,T ps=qw E f fn true i outs ps:=by exact fun _=>rfl) (hn:((fn.name == "runtime.NumGoroutine")||fn.body.isNone)=false:=by kernel_rfl)
  (hk:(Nat.beq i.h.length E.nimp&&i.h.all BP.isCells&&outs.all fun o=>q8y E.nimp o.h)=true:=by kernel_rfl) (hd:∀x,x∈E.dels→qat P x.1 x.2:=by exact aln):zF P E.glob f (qa i outs T):=
 qgC hm ⟨q9u ht,⟨hs,hd⟩,hl,hb⟩ hf hn hk hT
theorem gk(E:Env){P:Program}(hm:P.follows .mixedOrders=true)(ht:E.tt.map (fun x=>qnr P x.1)=E.tt.map (·.2))(hs:∀x,x∈E.spec→zF P E.glob x.1 x.2)(hl:E.loopsOK P)(hb:E.bodies P){f k:Nat}{fn:Func}(hf:P.funcs[f]?=some fn)
  {tin:Tmpl} {outs:List Out} {S:List PV→TR} (hS:∀ps,S ps=jD E f fn k tin outs ps:=by exact fun _=>rfl) (hlp:qoj (zH fn k)=true:=by kernel_rfl) (hni:q5k E.iter f=true:=by kernel_rfl)
  (hk:(tin.ok E.nimp&&outs.all fun o=>o.tm.ok E.nimp)=true:=by kernel_rfl) (hnk:(fn.body.isSome&&((ze (q3r fn))[k]?).isSome)=true:=by kernel_rfl) (hd:∀x,x∈E.dels→qat P x.1 x.2:=by exact aln) :
  qp P E.glob E.nimp (qC P E.iter f) (zH fn k) (qo tin outs (qj S)):=
 qpr hm ⟨q9u ht,⟨hs,hd⟩,hl,hb⟩ hf hlp hni hk hnk hS
end Go.Eng

namespace Go.Eng
open Go.Shelf Go.RowKit Go.Proofs Go.Sort
theorem qhC(w:World)(q:Nat)(os:Array Obj):Below w.heap.size w (grow (w.drewN q) os):=
 ⟨rfl,rfl,rfl,by simp[grow],fun i hi=>by
  show ((w.drewN q).heap++os)[i]?=_
  rw[Array.getElem?_append_left (by show i<w.heap.size;omega)]
  rfl⟩
theorem qor(w:World)(e:TypeId)(s:ByteArray):Below w.heap.size w (Lib.bytesWorld w e s):=
 ⟨rfl,rfl,rfl,by rw[Lib.bytesWorld_size];omega,fun k hk=>Lib.bytesWorld_at_old w e s k (by omega)⟩
theorem HSim.grow{B:Base}{X:Ctx}(hs:HSim B X){w':World}(hb:Below X.w.heap.size X.w w'):HSim B { X with w:=w' }∧Ext X { X with w:=w' }:=by
 have hold:∀n (o:Obj),X.w.heap[n]?=some o→w'.heap[n]?=some o:=fun n o h=>(hb.block n (Array.getElem?_eq_some_iff.1 h).1).trans h
 have hx:Ext X { X with w:=w' }:=Move.of (fun _ h=>h) (fun a ha=>World.cell?_of_block (hb.block _ (hs.ltM _ ha))) (fun b b' hb' h=>by
  cases h
  exact⟨hb',rfl,fun _ _ h=>h,fun _ _ _ n _ c T fr h=>⟨c,T,fr,hold n _ h,rfl⟩⟩)
 refine⟨⟨fun b k hk=>?_,hs.inj,hs.notM,fun n hn=>Nat.lt_of_lt_of_le (hs.ltM n hn) hb.size,hs.M0,hs.newM,hb.os.trans hs.os,hb.tape.trans hs.tape,hb.output.trans hs.output,Nat.le_trans hs.size hb.size,
  fun n hn hni=>?_,hs.imps,hs.impc,hs.fresh,fun p hp=>?_⟩,hx⟩
 ·by_cases hd:k=.dead
  ·subst hd;trivial
  ·exact jC.ext hx rfl (fun n hn=>hb.block n (hs.lt hk hd hn)) (hs.blk b k hk)
 ·show w'.heap[n]?=_
  rw[hb.block n (Nat.lt_of_lt_of_le hn hs.size)]
  exact hs.frame n hn hni
 ·obtain⟨q1,q2,q3⟩:=hs.kept p hp
  exact⟨hold _ _ q1,q2,q3⟩
theorem qcX{P:Program}{gl:List (Nat×AV)}{f:FuncId}{i:FIn}{o:FOut}{T:List PV→TR}(he:qg1 P f)(hi:i.h.all BP.isCells=true)
  (h:∀(B:Base) (X:Ctx) (ps:List PV) (j:Nat) (qs:List PV) (vargs:List Value),HSim B X→q9q gl X→X.h=(i.make ps).2→RepL X (i.make ps).1 vargs→ps.map PV.kind=i.kinds→(T ps).run=some (j,qs) →
   j=0∧qs.map PV.kind=o.kinds∧(o.make qs).2=(i.make ps).2∧Calls P f vargs.toArray X.w fun e w'=>∃v,e=.returned v∧Below X.w.heap.size X.w w'∧Rep X (o.make qs).1 v) :
  zF P gl f (qa i [o] T):=by
 refine⟨he,fun B X args vargs r hs hen hgl ha hr=>?_⟩
 obtain⟨ps,j,qs,h1,h2,h3⟩:=qnv hr
 unfold FIn.take at h1
 obtain⟨x,y,g1,g2,rfl⟩:=q2n h1
 obtain⟨a1,a2,a3⟩:=AP.takeL_ok (X:=X) _ _ x y g1
 obtain⟨b1,b2,b3,b4,b5⟩:=BP.takeL_ok (X:=X) _ _ y [] g2
 rw[List.append_nil] at b3 b5
 have himp:B.imps.length=X.h.length:=by rw[hen.imps];simp
 obtain⟨d1,d2⟩:=q9A hs (h':=(BP.makeL i.h y).1) b3 (fun b k' hb=>by obtain⟨k0,e1,e2,_⟩:=b5 b k' hb;exact⟨k0,e1,e2⟩)
  (fun b hb k' hk'=>by
   obtain⟨k0,_,_,e3⟩:=b5 b k' hk'
   have hlt:b<i.h.length:=by omega
   exact e3 i.h[b] (List.getElem?_eq_getElem hlt) (List.all_eq_true.1 hi _ (List.getElem_mem hlt)))
 have hkd:(x++y).map PV.kind=i.kinds:=by simp[FIn.kinds,a2,b2]
 have hgl1:q9q gl ({ X with h:=(BP.makeL i.h y).1 }:Ctx):=fun z hz=>⟨(hgl z hz).1,(hgl z hz).2.move d2.M d2.w ((hgl z hz).2.1.ext d2)⟩
 have hmk:i.make (x++y)=((AP.makeL i.args (x++y)).1,(BP.makeL i.h y).1):=by simp only[FIn.make,a1]
 obtain⟨k1,k2,k3,k4⟩:=h B _ (x++y) j qs vargs d1 hgl1 (by rw[hmk]) (by rw[hmk];exact(a3 _ ha).ext d2) hkd h2
 subst k1
 refine k4.mono fun e w' ⟨v,e1,e2,e3⟩=>?_
 obtain⟨m1,m2⟩:=d1.grow e2
 have hre:=qmQ h2 [o] 0 o r (Nat.zero_le _) rfl k2 h3
 subst hre
 exact⟨v,_,e1,rfl,e3.ext m2,by rw[k3,hmk],m1,rfl⟩
theorem qqG{X:Ctx}{s:List UInt8}{vs:List Value}(h:RepL X [.str s] vs):vs=[.string ⟨s.toArray⟩]:=by
 cases h with
 | cons h t=>cases h;cases t;rfl
theorem qqN{X:Ctx}{k:IntKind}{n:Int}{vs:List Value}(h:RepL X [.int k n] vs):vs=[.int k n]:=by
 cases h with
 | cons h t=>cases h;cases t;rfl
theorem qiY{X:Ctx}{s t:List UInt8}{vs:List Value}(h:RepL X [.str s,.str t] vs):vs=[.string ⟨s.toArray⟩,.string ⟨t.toArray⟩]:=by
 cases h with
 | cons h t=>cases h;rw[qqG t]
theorem qxb{ps:List PV}(h:ps.map PV.kind=[.s]):∃s,ps=[.s s]:=by
 match ps,h with
 | [.s s],_=>exact⟨s,rfl⟩
theorem qxt{ps:List PV}(h:ps.map PV.kind=[.i]):∃s,ps=[.i s]:=by
 match ps,h with
 | [.i s],_=>exact⟨s,rfl⟩
theorem qmf{ps:List PV}(h:ps.map PV.kind=[.s,.s]):∃s t,ps=[.s s,.s t]:=by
 match ps,h with
 | [.s s,.s t],_=>exact⟨s,t,rfl⟩
def qoR:List PV→TR
 | [.s s,.s [c]]=>.leaf (0,[.i (Lib.indexByte s c)])
 | _=>.fail
theorem qpd{P:Program}{ρ:Ren}(L:Lays.n219 P ρ)(he:qg1 P (ρ.f 219)){gl:List (Nat×AV)} :
  zF P gl (ρ.f 219) (qa { args:=[.str,.str],h:=[] } [{ res:=.int .i64,h:=[] }] qoR):=
 qcX he rfl fun B X ps j qs vargs hs hg hh ha hk hT=>by
  obtain⟨s,t,rfl⟩:=qmf hk
  unfold qoR at hT
  split at hT
  ·rename_i s' c hps
   simp only[List.cons.injEq,PV.s.injEq,and_true] at hps
   obtain⟨rfl,rfl⟩:=hps
   cases hT
   have:=qiY ha
   subst this
   refine⟨rfl,rfl,rfl,(Any.stringslite_Index_one L ⟨s.toArray⟩ c X.w).mono fun e w' ⟨h1,h2⟩=>?_⟩
   subst h2
   exact⟨_,h1,Below.refl _ _,.int _ _⟩
  ·cases hT
def qig:List PV→TR
 | [.s s,.s t]=>.leaf (0,[.i (Lib.compareBytes s t)])
 | _=>.fail
theorem qmp{P:Program}{ρ:Ren}(L:Lays.n106 P ρ)(he:qg1 P (ρ.f 106)){gl:List (Nat×AV)} :
  zF P gl (ρ.f 106) (qa { args:=[.str,.str],h:=[] } [{ res:=.int .i64,h:=[] }] qig):=
 qcX he rfl fun B X ps j qs vargs hs hg hh ha hk hT=>by
  obtain⟨s,t,rfl⟩:=qmf hk
  cases hT
  have:=qiY ha
  subst this
  refine⟨rfl,rfl,rfl,(Any.strings_Compare L ⟨s.toArray⟩ ⟨t.toArray⟩ X.w).mono fun e w' ⟨h1,h2⟩=>?_⟩
  subst h2
  exact⟨_,h1,Below.refl _ _,.int _ _⟩
def quO:List PV→TR
 | [.s s,.s t]=>if s.length≤9223372036854775807∧t.length<4294967281∧t.all (fun b=>decide (b.toNat<128))=true then .leaf (0,[.s (Lib.trimS s t)]) else .fail
 | _=>.fail
theorem qrP{P:Program}{ρ:Ren}(L:Lays.n160 P ρ)(he:qg1 P (ρ.f 160))(h116:(P.info? (ρ.t 116)).map (fun i=>(i.zero,i.size))=some (some (.agg (Array.replicate 256 (.bool false))),256)){gl:List (Nat×AV)} :
  zF P gl (ρ.f 160) (qa { args:=[.str,.str],h:=[] } [{ res:=.str,h:=[] }] quO):=
 qcX he rfl fun B X ps j qs vargs hs hg hh ha hk hT=>by
  obtain⟨s,t,rfl⟩:=qmf hk
  simp only[quO] at hT
  split at hT
  ·rename_i hc
   cases hT
   have:=qiY ha
   subst this
   refine⟨rfl,rfl,rfl,(Any.strings_Trim_laid L h116 ⟨s.toArray⟩ ⟨t.toArray⟩ X.w (by simpa[ByteArray.size] using hc.1) (by simpa[ByteArray.size] using hc.2.1) (fun j b hj=>?_)).mono fun e w' ⟨h1,h2⟩=>⟨_,h1,h2,.str _⟩⟩
   have h3:=hc.2.2
   rw[List.all_eq_true] at h3
   simpa using h3 b (List.mem_of_getElem? hj)
  ·cases hT
def qwm:R:=[Lib.pow10Tab.map U.i]
def qtb:List PV→TR
 | [.i n]=>if -9223372036854775808≤n∧n≤9223372036854775807 then .leaf (0,[.s (Lib.itoa n)]) else .fail
 | _=>.fail
theorem qis{P:Program}{X:Ctx}{g:Nat}{k:IntKind}{zs:List Int}{name:String}(hn:P.globalNamed name=some g)(hz:zs≠[])
  (h:qvg X (g,.eptr (zs.map fun _=>.int k) [zs.map U.i] 0 0)):Lib.TabIs P X.w name k zs:=by
 obtain⟨h1,h2,h3⟩:=h
 simp only at h1 h2 h3
 have hcell:∀j (hj:j<zs.length),X.w.cell? ⟨g,j,none⟩=some (.int k zs[j]):=by
  intro j hj
  generalize hv:(Value.pointer (some ⟨g,0,none⟩))=vv at h1
  cases h1 with
  | eptr _ _ _ _ a hsp h0 hl hr=>
   simp only[Value.pointer.injEq,Option.some.injEq,Addr.mk.injEq] at hv
   obtain⟨v1,v2,_⟩:=hv
   obtain⟨hM,v,e1,e2⟩:=hr 0 j (by simpa using hj) (by simp)
   have ho:a.off=0:=by omega
   have e1':X.w.cell? ⟨g,j,none⟩=some v:=by
    rw[Nat.zero_mul,Nat.add_zero,ho,Nat.zero_add,←v1] at e1
    exact e1
   rw[e1']
   have e2':RepU X.w X.M (.int k) (U.i zs[j]) v:=by
    simpa[ve,List.getD_eq_getElem?_getD,hj] using e2
   cases e2'
   rfl
 unfold Lib.TabIs World.var?
 rw[hn]
 simp only[Option.bind_some]
 have h0:=hcell 0 (List.length_pos_iff.2 hz)
 unfold World.cell? at h0
 simp only at h0
 split at h0
 ·rename_i cs T fr hheap
  rw[hheap]
  simp only
  congr 1
  have hsz:cs.size≤zs.length:=by
   have h4:X.w.cell? ⟨g,zs.length,none⟩=none:=by
    simpa[AV.span] using h3
   unfold World.cell? at h4
   simp only[hheap] at h4
   simpa using h4
  apply Array.ext
  ·simp
   rcases Nat.lt_or_ge cs.size zs.length with hlt|hge
   ·have:=hcell cs.size hlt
    unfold World.cell? at this
    simp[hheap] at this
   ·omega
  ·intro j hj hj2
   have hjz:j<zs.length:=by omega
   have:=hcell j hjz
   unfold World.cell? at this
   simp only[hheap] at this
   simp[hj] at this
   simp[this]
 ·cases h0
theorem qrU {P:Program} {ρ:Ren} (L:LaysM.n171 P ρ) (he:qg1 P (ρ.f 171)) {gl:List (Nat×AV)} {g:Nat} (hn:P.globalNamed "internal/strconv.uint64pow10" = some g)
  (hg:(g,AV.eptr (Lib.pow10Tab.map fun _=>.int .u64) qwm 0 0)∈gl) :
  zF P gl (ρ.f 171) (qa { args:=[.int .i64],h:=[] } [{ res:=.str,h:=[] }] qtb):=
 qcX he rfl fun B X ps j qs vargs hs hgl hh ha hk hT=>by
  obtain⟨n,rfl⟩:=qxt hk
  simp only[qtb] at hT
  split at hT
  ·rename_i hc
   cases hT
   have:=qqN ha
   subst this
   refine⟨rfl,rfl,rfl,(Any.strconv_Itoa L n hc.1 hc.2 X.w (qis hn (by decide) (hgl _ hg).2)).mono fun e w' ⟨h1,k,os,h2⟩=>⟨_,h1,?_,.str _⟩⟩
   subst h2
   exact qhC _ _ _
  ·cases hT
def qut:List PV→TR
 | [.s s]=>if s.length≤18 then (match Lib.atoi s with|some n=>.leaf (0,[.i n])|none=>.fail) else .fail
 | _=>.fail
theorem qrJ{P:Program}{ρ:Ren}(L:Lays.n172 P ρ)(he:qg1 P (ρ.f 172)){gl:List (Nat×AV)} :
  zF P gl (ρ.f 172) (qa { args:=[.str],h:=[] } [{ res:=.tuple [.int .i64,.any],h:=[] }] qut):=
 qcX he rfl fun B X ps j qs vargs hs hg hh ha hk hT=>by
  obtain⟨s,rfl⟩:=qxb hk
  simp only[qut] at hT
  split at hT
  ·rename_i hc
   split at hT
   ·rename_i n hn
    cases hT
    have:=qqG ha
    subst this
    refine⟨rfl,rfl,rfl,(Any.strconv_Atoi L ⟨s.toArray⟩ n (by simpa[ByteArray.size] using hc) (by simpa using hn) X.w).mono fun e w' ⟨h1,t,h2⟩=>⟨_,h1,?_,.tuple _ _ (.cons (.int _ _) (.cons (.undef _) .nil))⟩⟩
    subst h2
    exact qor _ _ _
   ·cases hT
  ·cases hT
def qto(s:List UInt8):List UInt8:=qeL (q8i [48,48,48,48,48,48,48,48,48] (qm s) 9) s
def qfC(w:R):Nat→List UInt8
 | 0=>[]
 | i+1=>qto (Lib.itoa (cI w i 0))++qfC w i
def qtA(b:Bool)(n:Int)(w:R):List UInt8:=if n=0 then [48] else (if b then [45] else [])++Lib.itoa (cI w (n-1) 0)++qfC w (n-1).toNat
def qm9(n:Int)(w:R):Bool:=decide (0≤n)&&decide (n≤232)&&(List.range n.toNat).all fun i=>decide (0≤cI w i 0∧cI w i 0<1000000000)
def quN:List PV→TR
 | [.b b,.i n,.r w]=>if qm9 n w then .leaf (0,[.s (qtA b n w),.b b,.i n,.r w]) else .fail
 | _=>.fail
end Go.Eng

namespace Go.Proofs
open Go.Shelf
def Tryz.lays219_ren:Go.Shelf.Ren:=⟨fun|219=>199|217=>221|225=>222|224=>223|267=>224|266=>242|314=>243|n=>n,fun|9=>9|3=>3|4=>4|5=>5|46=>268|146=>286|51=>280|n=>n,fun|1=>1|n=>n⟩
theorem Tryz.lays219:Go.Proofs.Lays.n219 Tryz.prog Tryz.lays219_ren:={
 mixed:=by kernel_rfl
 f217:=Tryz.func221.trans (congrArg some (by kernel_rfl))
 f219:=Tryz.func199.trans (congrArg some (by kernel_rfl))
 f224:=Tryz.func223.trans (congrArg some (by kernel_rfl))
 f225:=Tryz.func222.trans (congrArg some (by kernel_rfl))
 f266:=Tryz.func242.trans (congrArg some (by kernel_rfl))
 f267:=Tryz.func224.trans (congrArg some (by kernel_rfl))
 f314:=Tryz.func243.trans (congrArg some (by kernel_rfl))
 t3:=Tryz.underlying3
 a3:=Tryz.isAgg3
 z3:=Tryz.sizeOf3
 v3:=Tryz.zeroValue3
 t4:=Tryz.underlying4
 a4:=Tryz.isAgg4
 z4:=Tryz.sizeOf4
 v4:=Tryz.zeroValue4
 t5:=Tryz.underlying5
 a5:=Tryz.isAgg5
 z5:=Tryz.sizeOf5
 v5:=Tryz.zeroValue5
 t9:=Tryz.underlying9
 a9:=Tryz.isAgg9
 z9:=Tryz.sizeOf9
 v9:=Tryz.zeroValue9
 t46:=Tryz.underlying268
 a46:=Tryz.isAgg268
 z46:=Tryz.sizeOf268
 v46:=Tryz.zeroValue268
 t51:=Tryz.underlying280
 a51:=Tryz.isAgg280
 z51:=Tryz.sizeOf280
 v51:=Tryz.zeroValue280
 t146:=Tryz.underlying286
 a146:=Tryz.isAgg286
 z146:=Tryz.sizeOf286
 v146:=Tryz.zeroValue286
 g1:=by kernel_rfl }
def Tryz.lays106_ren:Go.Shelf.Ren:=⟨fun|106=>176|213=>204|265=>228|n=>n,fun|9=>9|3=>3|n=>n,fun|n=>n⟩
theorem Tryz.lays106:Go.Proofs.Lays.n106 Tryz.prog Tryz.lays106_ren:={
 mixed:=by kernel_rfl
 f106:=Tryz.func176.trans (congrArg some (by kernel_rfl))
 f213:=Tryz.func204.trans (congrArg some (by kernel_rfl))
 f265:=Tryz.func228.trans (congrArg some (by kernel_rfl))
 t3:=Tryz.underlying3
 a3:=Tryz.isAgg3
 z3:=Tryz.sizeOf3
 v3:=Tryz.zeroValue3
 t9:=Tryz.underlying9
 a9:=Tryz.isAgg9
 z9:=Tryz.sizeOf9
 v9:=Tryz.zeroValue9 }
def Tryz.lays160_ren:Go.Shelf.Ren:=⟨fun|160=>139|232=>170|231=>169|227=>171|234=>173|233=>172|236=>175|235=>174|228=>200|271=>203|151=>202|197=>201|120=>227|152=>226|260=>225|137=>244|119=>245|224=>223|225=>222|217=>221|266=>242|n=>n,fun|9=>9|4=>4|3=>3|5=>5|117=>225|116=>224|0=>0|124=>228|21=>21|105=>251|46=>268|119=>288|139=>291|138=>290|n=>n,fun|3=>3|4=>4|n=>n⟩
theorem Tryz.lays160:Go.Proofs.Lays.n160 Tryz.prog Tryz.lays160_ren:={
 mixed:=by kernel_rfl
 f119:=Tryz.func245.trans (congrArg some (by kernel_rfl))
 f120:=Tryz.func227.trans (congrArg some (by kernel_rfl))
 f137:=Tryz.func244.trans (congrArg some (by kernel_rfl))
 f151:=Tryz.func202.trans (congrArg some (by kernel_rfl))
 f152:=Tryz.func226.trans (congrArg some (by kernel_rfl))
 f160:=Tryz.func139.trans (congrArg some (by kernel_rfl))
 f197:=Tryz.func201.trans (congrArg some (by kernel_rfl))
 f217:=Tryz.func221.trans (congrArg some (by kernel_rfl))
 f224:=Tryz.func223.trans (congrArg some (by kernel_rfl))
 f225:=Tryz.func222.trans (congrArg some (by kernel_rfl))
 f227:=Tryz.func171.trans (congrArg some (by kernel_rfl))
 f228:=Tryz.func200.trans (congrArg some (by kernel_rfl))
 f231:=Tryz.func169.trans (congrArg some (by kernel_rfl))
 f232:=Tryz.func170.trans (congrArg some (by kernel_rfl))
 f233:=Tryz.func172.trans (congrArg some (by kernel_rfl))
 f234:=Tryz.func173.trans (congrArg some (by kernel_rfl))
 f235:=Tryz.func174.trans (congrArg some (by kernel_rfl))
 f236:=Tryz.func175.trans (congrArg some (by kernel_rfl))
 f260:=Tryz.func225.trans (congrArg some (by kernel_rfl))
 f266:=Tryz.func242.trans (congrArg some (by kernel_rfl))
 f271:=Tryz.func203.trans (congrArg some (by kernel_rfl))
 t0:=Tryz.underlying0
 a0:=Tryz.isAgg0
 z0:=Tryz.sizeOf0
 v0:=Tryz.zeroValue0
 t3:=Tryz.underlying3
 a3:=Tryz.isAgg3
 z3:=Tryz.sizeOf3
 v3:=Tryz.zeroValue3
 t4:=Tryz.underlying4
 a4:=Tryz.isAgg4
 z4:=Tryz.sizeOf4
 v4:=Tryz.zeroValue4
 t5:=Tryz.underlying5
 a5:=Tryz.isAgg5
 z5:=Tryz.sizeOf5
 v5:=Tryz.zeroValue5
 t9:=Tryz.underlying9
 a9:=Tryz.isAgg9
 z9:=Tryz.sizeOf9
 v9:=Tryz.zeroValue9
 t21:=Tryz.underlying21
 a21:=Tryz.isAgg21
 z21:=Tryz.sizeOf21
 v21:=Tryz.zeroValue21
 t46:=Tryz.underlying268
 a46:=Tryz.isAgg268
 z46:=Tryz.sizeOf268
 v46:=Tryz.zeroValue268
 t105:=Tryz.underlying251
 a105:=Tryz.isAgg251
 z105:=Tryz.sizeOf251
 v105:=Tryz.zeroValue251
 t116:=Tryz.underlying224
 a116:=Tryz.isAgg224
 z116:=Tryz.sizeOf224
 t117:=Tryz.underlying225
 a117:=Tryz.isAgg225
 z117:=Tryz.sizeOf225
 v117:=Tryz.zeroValue225
 t119:=Tryz.underlying288
 a119:=Tryz.isAgg288
 z119:=Tryz.sizeOf288
 t124:=Tryz.underlying228
 a124:=Tryz.isAgg228
 z124:=Tryz.sizeOf228
 v124:=Tryz.zeroValue228
 t138:=Tryz.underlying290
 a138:=Tryz.isAgg290
 z138:=Tryz.sizeOf290
 v138:=Tryz.zeroValue290
 t139:=Tryz.underlying291
 a139:=Tryz.isAgg291
 z139:=Tryz.sizeOf291
 v139:=Tryz.zeroValue291
 g3:=by kernel_rfl
 g4:=by kernel_rfl }
def Tryz.lays172_ren:Go.Shelf.Ren:=⟨fun|172=>177|244=>205|245=>206|247=>229|279=>230|280=>231|281=>232|282=>233|287=>246|316=>247|171=>122|205=>248|321=>251|322=>252|243=>151|246=>190|283=>211|284=>212|285=>213|286=>214|129=>236|317=>235|318=>237|319=>238|320=>239|337=>249|338=>250|n=>n,fun|9=>9|3=>3|75=>230|76=>231|4=>4|5=>5|167=>270|37=>238|0=>0|85=>271|2=>2|168=>273|53=>259|175=>293|46=>268|210=>296|127=>256|145=>303|143=>301|21=>21|171=>258|173=>262|212=>279|51=>280|20=>20|213=>281|232=>304|233=>305|80=>242|n=>n,fun|15=>5|16=>6|17=>2|18=>7|19=>8|n=>n⟩
theorem Tryz.lays172:Go.Proofs.Lays.n172 Tryz.prog Tryz.lays172_ren:={
 mixed:=by kernel_rfl
 f129:=Tryz.func236.trans (congrArg some (by kernel_rfl))
 f171:=Tryz.func122.trans (congrArg some (by kernel_rfl))
 f172:=Tryz.func177.trans (congrArg some (by kernel_rfl))
 f205:=Tryz.func248.trans (congrArg some (by kernel_rfl))
 f243:=Tryz.func151.trans (congrArg some (by kernel_rfl))
 f244:=Tryz.func205.trans (congrArg some (by kernel_rfl))
 f245:=Tryz.func206.trans (congrArg some (by kernel_rfl))
 f246:=Tryz.func190.trans (congrArg some (by kernel_rfl))
 f247:=Tryz.func229.trans (congrArg some (by kernel_rfl))
 f279:=Tryz.func230.trans (congrArg some (by kernel_rfl))
 f280:=Tryz.func231.trans (congrArg some (by kernel_rfl))
 f281:=Tryz.func232.trans (congrArg some (by kernel_rfl))
 f282:=Tryz.func233.trans (congrArg some (by kernel_rfl))
 f283:=Tryz.func211.trans (congrArg some (by kernel_rfl))
 f284:=Tryz.func212.trans (congrArg some (by kernel_rfl))
 f285:=Tryz.func213.trans (congrArg some (by kernel_rfl))
 f286:=Tryz.func214.trans (congrArg some (by kernel_rfl))
 f287:=Tryz.func246.trans (congrArg some (by kernel_rfl))
 f316:=Tryz.func247.trans (congrArg some (by kernel_rfl))
 f317:=Tryz.func235.trans (congrArg some (by kernel_rfl))
 f318:=Tryz.func237.trans (congrArg some (by kernel_rfl))
 f319:=Tryz.func238.trans (congrArg some (by kernel_rfl))
 f320:=Tryz.func239.trans (congrArg some (by kernel_rfl))
 f321:=Tryz.func251.trans (congrArg some (by kernel_rfl))
 f322:=Tryz.func252.trans (congrArg some (by kernel_rfl))
 f337:=Tryz.func249.trans (congrArg some (by kernel_rfl))
 f338:=Tryz.func250.trans (congrArg some (by kernel_rfl))
 t0:=Tryz.underlying0
 a0:=Tryz.isAgg0
 z0:=Tryz.sizeOf0
 v0:=Tryz.zeroValue0
 t2:=Tryz.underlying2
 a2:=Tryz.isAgg2
 z2:=Tryz.sizeOf2
 v2:=Tryz.zeroValue2
 t3:=Tryz.underlying3
 a3:=Tryz.isAgg3
 z3:=Tryz.sizeOf3
 v3:=Tryz.zeroValue3
 t4:=Tryz.underlying4
 a4:=Tryz.isAgg4
 z4:=Tryz.sizeOf4
 v4:=Tryz.zeroValue4
 t5:=Tryz.underlying5
 a5:=Tryz.isAgg5
 z5:=Tryz.sizeOf5
 v5:=Tryz.zeroValue5
 t9:=Tryz.underlying9
 a9:=Tryz.isAgg9
 z9:=Tryz.sizeOf9
 v9:=Tryz.zeroValue9
 t20:=Tryz.underlying20
 a20:=Tryz.isAgg20
 z20:=Tryz.sizeOf20
 v20:=Tryz.zeroValue20
 t21:=Tryz.underlying21
 a21:=Tryz.isAgg21
 z21:=Tryz.sizeOf21
 v21:=Tryz.zeroValue21
 t37:=Tryz.underlying238
 a37:=Tryz.isAgg238
 z37:=Tryz.sizeOf238
 v37:=Tryz.zeroValue238
 t46:=Tryz.underlying268
 a46:=Tryz.isAgg268
 z46:=Tryz.sizeOf268
 v46:=Tryz.zeroValue268
 t51:=Tryz.underlying280
 a51:=Tryz.isAgg280
 z51:=Tryz.sizeOf280
 v51:=Tryz.zeroValue280
 t53:=Tryz.underlying259
 a53:=Tryz.isAgg259
 z53:=Tryz.sizeOf259
 v53:=Tryz.zeroValue259
 t75:=Tryz.underlying230
 a75:=Tryz.isAgg230
 z75:=Tryz.sizeOf230
 v75:=Tryz.zeroValue230
 t76:=Tryz.underlying231
 a76:=Tryz.isAgg231
 z76:=Tryz.sizeOf231
 v76:=Tryz.zeroValue231
 t85:=Tryz.underlying271
 a85:=Tryz.isAgg271
 z85:=Tryz.sizeOf271
 v85:=Tryz.zeroValue271
 t127:=Tryz.underlying256
 a127:=Tryz.isAgg256
 z127:=Tryz.sizeOf256
 v127:=Tryz.zeroValue256
 t143:=Tryz.underlying301
 a143:=Tryz.isAgg301
 z143:=Tryz.sizeOf301
 v143:=Tryz.zeroValue301
 t145:=Tryz.underlying303
 a145:=Tryz.isAgg303
 z145:=Tryz.sizeOf303
 v145:=Tryz.zeroValue303
 t167:=Tryz.underlying270
 a167:=Tryz.isAgg270
 z167:=Tryz.sizeOf270
 v167:=Tryz.zeroValue270
 t168:=Tryz.underlying273
 a168:=Tryz.isAgg273
 z168:=Tryz.sizeOf273
 v168:=Tryz.zeroValue273
 t171:=Tryz.underlying258
 a171:=Tryz.isAgg258
 z171:=Tryz.sizeOf258
 v171:=Tryz.zeroValue258
 t173:=Tryz.underlying262
 a173:=Tryz.isAgg262
 z173:=Tryz.sizeOf262
 v173:=Tryz.zeroValue262
 t175:=Tryz.underlying293
 a175:=Tryz.isAgg293
 z175:=Tryz.sizeOf293
 v175:=Tryz.zeroValue293
 t210:=Tryz.underlying296
 a210:=Tryz.isAgg296
 z210:=Tryz.sizeOf296
 v210:=Tryz.zeroValue296
 t212:=Tryz.underlying279
 a212:=Tryz.isAgg279
 z212:=Tryz.sizeOf279
 v212:=Tryz.zeroValue279
 t213:=Tryz.underlying281
 a213:=Tryz.isAgg281
 z213:=Tryz.sizeOf281
 t232:=Tryz.underlying304
 a232:=Tryz.isAgg304
 z232:=Tryz.sizeOf304
 v232:=Tryz.zeroValue304
 t233:=Tryz.underlying305
 a233:=Tryz.isAgg305
 z233:=Tryz.sizeOf305
 v233:=Tryz.zeroValue305
 g15:=by kernel_rfl
 g16:=by kernel_rfl
 g17:=by kernel_rfl
 g18:=by kernel_rfl
 g19:=by kernel_rfl }
def Tryz.lays169_ren:Go.Shelf.Ren:=⟨fun|169=>184|n=>n,fun|70=>237|9=>9|0=>0|72=>240|37=>238|127=>256|3=>3|5=>5|n=>n,fun|n=>n⟩
theorem Tryz.lays169:Go.Proofs.Lays.n169 Tryz.prog Tryz.lays169_ren:={
 mixed:=by kernel_rfl
 f169:=Tryz.func184.trans (congrArg some (by kernel_rfl))
 t0:=Tryz.underlying0
 a0:=Tryz.isAgg0
 z0:=Tryz.sizeOf0
 v0:=Tryz.zeroValue0
 t3:=Tryz.underlying3
 a3:=Tryz.isAgg3
 z3:=Tryz.sizeOf3
 v3:=Tryz.zeroValue3
 t9:=Tryz.underlying9
 a9:=Tryz.isAgg9
 z9:=Tryz.sizeOf9
 v9:=Tryz.zeroValue9
 t37:=Tryz.underlying238
 a37:=Tryz.isAgg238
 z37:=Tryz.sizeOf238
 v37:=Tryz.zeroValue238
 t70:=Tryz.underlying237
 a70:=Tryz.isAgg237
 z70:=Tryz.sizeOf237
 v70:=Tryz.zeroValue237
 t72:=Tryz.underlying240
 a72:=Tryz.isAgg240
 z72:=Tryz.sizeOf240
 v72:=Tryz.zeroValue240
 t127:=Tryz.underlying256
 a127:=Tryz.isAgg256
 z127:=Tryz.sizeOf256
 v127:=Tryz.zeroValue256 }
def Tryz.laysM171_ren:Go.Shelf.Ren:=⟨fun|171=>122|243=>151|246=>190|283=>211|284=>212|285=>213|286=>214|129=>236|317=>235|318=>237|319=>238|320=>239|337=>249|338=>250|n=>n,fun|3=>3|9=>9|2=>2|4=>4|171=>258|0=>0|53=>259|37=>238|5=>5|173=>262|212=>279|51=>280|20=>20|213=>281|46=>268|232=>304|233=>305|n=>n,fun|17=>2|18=>7|19=>8|n=>n⟩
theorem Tryz.laysM171:Go.Proofs.LaysM.n171 Tryz.prog Tryz.laysM171_ren:={
 mixed:=by kernel_rfl
 f129:=Tryz.func236.trans (congrArg some (by kernel_rfl))
 f171:=Tryz.func122.trans (congrArg some (by kernel_rfl))
 f243:=Tryz.func151.trans (congrArg some (by kernel_rfl))
 f246:=Tryz.func190.trans (congrArg some (by kernel_rfl))
 f283:=Tryz.func211.trans (congrArg some (by kernel_rfl))
 f284:=Tryz.func212.trans (congrArg some (by kernel_rfl))
 f285:=Tryz.func213.trans (congrArg some (by kernel_rfl))
 f286:=Tryz.func214.trans (congrArg some (by kernel_rfl))
 f317:=Tryz.func235.trans (congrArg some (by kernel_rfl))
 f318:=Tryz.func237.trans (congrArg some (by kernel_rfl))
 f319:=Tryz.func238.trans (congrArg some (by kernel_rfl))
 f320:=Tryz.func239.trans (congrArg some (by kernel_rfl))
 f337:=Tryz.func249.trans (congrArg some (by kernel_rfl))
 f338:=Tryz.func250.trans (congrArg some (by kernel_rfl))
 t0:=Tryz.underlying0
 a0:=Tryz.isAgg0
 z0:=Tryz.sizeOf0
 v0:=Tryz.zeroValue0
 t2:=Tryz.underlying2
 a2:=Tryz.isAgg2
 z2:=Tryz.sizeOf2
 v2:=Tryz.zeroValue2
 t3:=Tryz.underlying3
 a3:=Tryz.isAgg3
 z3:=Tryz.sizeOf3
 v3:=Tryz.zeroValue3
 t4:=Tryz.underlying4
 a4:=Tryz.isAgg4
 z4:=Tryz.sizeOf4
 v4:=Tryz.zeroValue4
 t5:=Tryz.underlying5
 a5:=Tryz.isAgg5
 z5:=Tryz.sizeOf5
 v5:=Tryz.zeroValue5
 t9:=Tryz.underlying9
 a9:=Tryz.isAgg9
 z9:=Tryz.sizeOf9
 v9:=Tryz.zeroValue9
 t20:=Tryz.underlying20
 a20:=Tryz.isAgg20
 z20:=Tryz.sizeOf20
 v20:=Tryz.zeroValue20
 t37:=Tryz.underlying238
 a37:=Tryz.isAgg238
 z37:=Tryz.sizeOf238
 v37:=Tryz.zeroValue238
 t46:=Tryz.underlying268
 a46:=Tryz.isAgg268
 z46:=Tryz.sizeOf268
 v46:=Tryz.zeroValue268
 t51:=Tryz.underlying280
 a51:=Tryz.isAgg280
 z51:=Tryz.sizeOf280
 v51:=Tryz.zeroValue280
 t53:=Tryz.underlying259
 a53:=Tryz.isAgg259
 z53:=Tryz.sizeOf259
 v53:=Tryz.zeroValue259
 t171:=Tryz.underlying258
 a171:=Tryz.isAgg258
 z171:=Tryz.sizeOf258
 v171:=Tryz.zeroValue258
 t173:=Tryz.underlying262
 a173:=Tryz.isAgg262
 z173:=Tryz.sizeOf262
 v173:=Tryz.zeroValue262
 t212:=Tryz.underlying279
 a212:=Tryz.isAgg279
 z212:=Tryz.sizeOf279
 v212:=Tryz.zeroValue279
 t213:=Tryz.underlying281
 a213:=Tryz.isAgg281
 z213:=Tryz.sizeOf281
 t232:=Tryz.underlying304
 a232:=Tryz.isAgg304
 z232:=Tryz.sizeOf304
 v232:=Tryz.zeroValue304
 t233:=Tryz.underlying305
 a233:=Tryz.isAgg305
 z233:=Tryz.sizeOf305
 v233:=Tryz.zeroValue305
 g17:=by kernel_rfl
 g18:=by kernel_rfl
 g19:=by kernel_rfl
 i0:=by kernel_rfl
 i2:=by kernel_rfl
 i3:=by kernel_rfl
 i4:=by kernel_rfl
 i5:=by kernel_rfl
 i9:=by kernel_rfl
 i20:=by kernel_rfl
 i37:=by kernel_rfl
 i46:=by kernel_rfl
 i51:=by kernel_rfl
 i53:=by kernel_rfl
 i171:=by kernel_rfl
 i173:=by kernel_rfl
 i212:=by kernel_rfl
 i232:=by kernel_rfl
 i233:=by kernel_rfl
 m17:=by kernel_rfl
 m18:=by kernel_rfl
 m19:=by kernel_rfl }
end Go.Proofs

namespace Go.Eng
open Go.Shelf Go.RowKit Go.Proofs
set_option maxHeartbeats 2000000 in
set_option maxRecDepth 100000 in
theorem qw5(b:Nat)(w:World)(h0:w.cell? ⟨b,0,none⟩=some (.pointer (some ⟨b,0,none⟩))) :
  Calls Tryz.prog 208 #[.pointer (some ⟨b,0,none⟩)] w fun e w'=>e=.returned (.tuple #[])∧w'=w:=by
 obtain⟨j,hj,_⟩:=Option.map_eq_some_iff.1 (show (Tryz.prog.info? 240).map (·.size)=some 2 by kernel_rfl)
 go_enter Tryz.func208,Tryz.ntmps208
 go_wp2
 rw[Lib.run_neq_ptr_same w ⟨b,0,none⟩ Tryz.underlying237 hj]
 go_wp2
 go_end0
 exact⟨rfl,rfl⟩
set_option maxHeartbeats 2000000 in
set_option maxRecDepth 100000 in
theorem quJ(b:Nat)(w:World)(h0:w.cell? ⟨b,0,none⟩=some (.pointer none))(hsh:w.shape? b=some (240,2))(hfz:w.frozen? ⟨b,0,none⟩=false) :
  Calls Tryz.prog 208 #[.pointer (some ⟨b,0,none⟩)] w fun e w'=>e=.returned (.tuple #[])∧w'=w.setCell ⟨b,0,none⟩ (.pointer (some ⟨b,0,none⟩)):=by
 obtain⟨j,hj,hjs⟩:=Option.map_eq_some_iff.1 (show (Tryz.prog.info? 240).map (·.size)=some 2 by kernel_rfl)
 go_enter Tryz.func208,Tryz.ntmps208
 go_wp2
 rw[Lib.run_to_unsafe w ⟨b,0,none⟩ Tryz.underlying237 Tryz.underlying276 hj (by rw[hjs];decide) hsh (Nat.zero_lt_succ 1)]
 simp only[Result.andThen]
 rw[Oper.upon_value]
 go_wp2
 rw[run_callFunc_extern Tryz.func234 (by kernel_rfl) (by kernel_rfl) (by kernel_rfl) (e:=Extern.AbiNoEscape.same) (by kernel_rfl)]
 rw[Lib.run_noEscape]
 simp only[Result.andThen]
 rw[Oper.upon_value]
 go_wp2
 rw[Lib.run_from_unsafe w ⟨b,0,none⟩ Tryz.underlying276 Tryz.underlying237 hj hsh (by kernel_rfl)]
 simp only[Result.andThen]
 rw[Oper.upon_value]
 go_wp2
 go_end0
 exact⟨rfl,rfl⟩
abbrev BtB(B b:Nat)(bs:List Value)(w:World):Prop:=Lib.IsBuilder 240 5 B b bs w
set_option maxHeartbeats 2000000 in
set_option maxRecDepth 100000 in
theorem qnT(B b:Nat)(bs:List Value)(w:World)(h:BtB B b bs w) :
  Calls Tryz.prog 208 #[.pointer (some ⟨b,0,none⟩)] w fun e w'=>e=.returned (.tuple #[])∧Lib.BuilderAt 240 5 B b (.pointer (some ⟨b,0,none⟩)) bs w'∧Below B w w':=by
 rcases h with h|h
 ·refine(quJ b w h.cell0 h.shape h.frozen0).mono ?_
  rintro e w' ⟨rfl,rfl⟩
  exact⟨rfl,h.used _,(Below.refl B w).setCell (p:=⟨b,0,none⟩) h.1 _⟩
 ·refine(qw5 b w h.cell0).mono ?_
  rintro e w' ⟨rfl,rfl⟩
  exact⟨rfl,h,Below.refl B _⟩
set_option maxHeartbeats 2000000 in
set_option maxRecDepth 100000 in
theorem qvp(B b:Nat)(bs:List Value)(c:Int)(w:World)(h:BtB B b bs w)(hlen:bs.length+1≤140737488355328)(hBw:B≤w.heap.size) :
  Calls Tryz.prog 182 #[.pointer (some ⟨b,0,none⟩),.int .u8 c] w fun e w'=>e=.returned .nilIface∧BtB B b (bs++[.int .u8 c]) w'∧Below B w w':=by
 obtain⟨i0,hi,hz0,hz1,hz2⟩:=info_parts (show (Tryz.prog.info? 5).map (fun i=>(i.zero,i.size,i.bytes))=some (some (.int .u8 0),1,1) by kernel_rfl)
 go_enter Tryz.func182,Tryz.ntmps182
 go_wp2_with (go_at_call 208;refine(qnT B b bs _ h).mono ?_)
 rintro e w1 ⟨rfl,h1,hb1⟩
 obtain⟨hB,v,hbk,hown,hne⟩:=h1
 have c0:w1.cell? ⟨b,0,none⟩=some (.pointer (some ⟨b,0,none⟩)):=by rw[Lib.cell_of_heap hbk];rfl
 have c1:w1.cell? ⟨b,1,none⟩=some v:=by rw[Lib.cell_of_heap hbk];rfl
 have hsz1:=hb1.size
 go_wp2_with (at_builtin;refine wpList_append_own _ rfl _ _ 238 rfl B 5 i0 (.int .u8 0) 1 1 Tryz.underlying238 hi hz0 hz1 hz2 rfl (by decide) _ _ _ rfl (hown.alloc _) ⟨w1.heap.size,0,none⟩ 1 1 [.int .u8 c] rfl rfl ?c1 ?c2 ?c3 ?c4 ?c5 ?_)
 case c1=>
  intro j u hj
  match j,hj with
  | 0,hj=>simp at hj;subst hj;simp[Addr.add]
 case c2=>intro u hu;simp at hu;subst hu;rfl
 case c3=>unfold maxLen;omega
 case c4=>omega
 case c5=>simp;omega
 intro v' w2 hown' hgrow _
 have hlt:b<w1.heap.size:=by
  rcases Nat.lt_or_ge b w1.heap.size with h'|h'
  ·exact h'
  ·simp[Array.getElem?_eq_none h'] at hbk
 have hb2:w2.heap[b]?=some (.cells #[.pointer (some ⟨b,0,none⟩),v] 240 (0,0)):=by
  rw[hgrow.block b (by simp;omega) (fun e=>hne e.symm),Lib.alloc_old w1 _ b hlt]
  exact hbk
 have d0:w2.cell? ⟨b,0,none⟩=some (.pointer (some ⟨b,0,none⟩)):=by rw[Lib.cell_of_heap hb2];rfl
 have d1:w2.cell? ⟨b,1,none⟩=some v:=by rw[Lib.cell_of_heap hb2];rfl
 have f1:w2.frozen? ⟨b,1,none⟩=false:=Lib.frozen_of_heap hb2 1
 obtain⟨ao,n',cap,rfl⟩:∃ao n' cap,v'=.slice ao n' cap:=by
  rcases hown'.2 with⟨hv,_⟩|⟨g,cap,cur,hv,_⟩
  ·exact⟨_,_,_,hv⟩
  ·exact⟨_,_,_,hv⟩
 go_wp2
 go_ret
 refine⟨rfl,.inr ?_,?_⟩
 ·exact Lib.BuilderAt.put (T:=240) (e:=5) hB hb2 (bs':=bs++[.int .u8 c]) (by simpa using hown') (by decide)
 ·exact((hb1.alloc (by omega) _).grown hgrow (by simp;omega) (fun k hk=>(hown.lt k hk).1)).setCell (p:=⟨b,1,none⟩) hB _
set_option maxHeartbeats 2000000 in
set_option maxRecDepth 100000 in
theorem qtI(B b:Nat)(bs:List Value)(s:ByteArray)(w:World)(h:BtB B b bs w)(hlen:bs.length+s.size≤140737488355328)(hBw:B≤w.heap.size) :
  Calls Tryz.prog 183 #[.pointer (some ⟨b,0,none⟩),.string s] w fun e w'=>e=.returned (.tuple #[.int .i64 s.size,.nilIface])∧BtB B b (bs++Lib.strCells s) w'∧Below B w w':=by
 obtain⟨i0,hi,hz0,hz1,hz2⟩:=info_parts (show (Tryz.prog.info? 5).map (fun i=>(i.zero,i.size,i.bytes))=some (some (.int .u8 0),1,1) by kernel_rfl)
 go_enter Tryz.func183,Tryz.ntmps183
 go_wp2_with (go_at_call 208;refine(qnT B b bs _ h).mono ?_)
 rintro e w1 ⟨rfl,h1,hb1⟩
 obtain⟨hB,v,hbk,hown,hne⟩:=h1
 have c0:w1.cell? ⟨b,0,none⟩=some (.pointer (some ⟨b,0,none⟩)):=by rw[Lib.cell_of_heap hbk];rfl
 have c1:w1.cell? ⟨b,1,none⟩=some v:=by rw[Lib.cell_of_heap hbk];rfl
 have hsz1:=hb1.size
 go_wp2_with (at_builtin;refine Lib.wpList_append_own_string _ rfl _ _ 238 9 rfl B 5 i0 Tryz.underlying238 Tryz.underlying9 hi hz0 hz1 hz2 _ _ _ rfl hown s rfl ?c3 ?c4 ?c5 ?_)
 case c3=>unfold maxLen;omega
 case c4=>omega
 case c5=>omega
 intro v' w2 hown' hgrow _
 have hlt:b<w1.heap.size:=by
  rcases Nat.lt_or_ge b w1.heap.size with h'|h'
  ·exact h'
  ·simp[Array.getElem?_eq_none h'] at hbk
 have hb2:w2.heap[b]?=some (.cells #[.pointer (some ⟨b,0,none⟩),v] 240 (0,0)):=by
  rw[hgrow.block b hlt (fun e=>hne e.symm)]
  exact hbk
 have d0:w2.cell? ⟨b,0,none⟩=some (.pointer (some ⟨b,0,none⟩)):=by rw[Lib.cell_of_heap hb2];rfl
 have d1:w2.cell? ⟨b,1,none⟩=some v:=by rw[Lib.cell_of_heap hb2];rfl
 have f1:w2.frozen? ⟨b,1,none⟩=false:=Lib.frozen_of_heap hb2 1
 obtain⟨ao,n',cap,rfl⟩:∃ao n' cap,v'=.slice ao n' cap:=by
  rcases hown'.2 with⟨hv,_⟩|⟨g,cap,cur,hv,_⟩
  ·exact⟨_,_,_,hv⟩
  ·exact⟨_,_,_,hv⟩
 go_wp2
 go_ret2
 refine⟨rfl,.inr ?_,?_⟩
 ·exact Lib.BuilderAt.put (T:=240) (e:=5) hB hb2 (bs':=bs++Lib.strCells s) (by simpa[Lib.strCells_length] using hown') (by decide)
 ·exact(hb1.grown hgrow (by omega) (fun k hk=>(hown.lt k hk).1)).setCell (p:=⟨b,1,none⟩) hB _
theorem quC:Builder.Extra Tryz.prog Tryz.lays169_ren where
 sizeBuilder:=by kernel_rfl
 liesBuilder:=by kernel_rfl
 t5:=Tryz.underlying5
 a5:=Tryz.isAgg5
 z5:=Tryz.sizeOf5
 v5:=Tryz.zeroValue5
 infoByte:=by kernel_rfl
 cellsByte:=by kernel_rfl
 sizeByte:=by kernel_rfl
 neB5:=by decide
set_option maxHeartbeats 2000000 in
set_option maxRecDepth 100000 in
theorem qs0(B b:Nat)(l:List UInt8)(w:World)(h:BtB B b (Lib.byteCells l) w)(h0:l≠[]) :
  Calls Tryz.prog 184 #[.pointer (some ⟨b,0,none⟩)] w fun e w'=>e=.returned (.string ⟨l.toArray⟩)∧Below B w w':=
 Any.Builder_String Tryz.lays169 quC B b l w h h0
def qfd(f:Nat→Int):Nat→List UInt8
 | 0=>[]
 | i+1=>qto (Lib.itoa (f i))++qfd f i
def qqQ(b:Bool)(n:Nat)(f:Nat→Int):List UInt8:=if n=0 then [48] else (if b then [45] else [])++Lib.itoa (f (n-1))++qfd f (n-1)
theorem qr2 (n:Int) (h:-9223372036854775808≤n∧n≤9223372036854775807) (w:World) (ht:Lib.TabIs Tryz.prog w "internal/strconv.uint64pow10" .u64 Lib.pow10Tab) :
  Calls Tryz.prog 122 #[.int .i64 n] w fun e w'=>e=.returned (.string ⟨(Lib.itoa n).toArray⟩)∧Below w.heap.size w w':=
 (Any.strconv_Itoa Tryz.laysM171 n h.1 h.2 w ht).mono fun e w' ⟨h1,k,os,h2⟩=>⟨h1,by subst h2;exact qhC _ _ _⟩
theorem qjq{P:Program}{w w':World}{name:String}{k:IntKind}{zs:List Int}(h:Lib.TabIs P w name k zs)(hb:Below w.heap.size w w'):Lib.TabIs P w' name k zs:=by
 unfold Lib.TabIs World.var? at *
 cases hg:P.globalNamed name with
 | none=>rw[hg] at h;cases h
 | some g=>
  rw[hg] at h
  simp only[Option.bind_some] at h ⊢
  by_cases hlt:g<w.heap.size
  ·rw[hb.block g hlt];exact h
  ·rw[Array.getElem?_eq_none (by omega)] at h;cases h
theorem qcS{w w':World}(hb:Below w.heap.size w w'){n:Nat}(hn:n<w.heap.size)(o:Nat):w'.cell? ⟨n,o,none⟩=w.cell? ⟨n,o,none⟩:=World.cell?_of_block (hb.block n hn)
theorem qon{B b:Nat}{bs:List Value}{w w':World}(h:BtB B b bs w)(hb:Below w.heap.size w w'):BtB B b bs w':=by
 have key:∀p,Lib.BuilderAt 240 5 B b p bs w→Lib.BuilderAt 240 5 B b p bs w':=by
  intro p h
  have hlt:=h.lt
  obtain⟨hB,v,hbk,⟨hl,hown⟩,hne⟩:=h
  refine⟨hB,v,(hb.block b hlt).trans hbk,⟨hl,?_⟩,hne⟩
  rcases hown with h|⟨g,cap,cur,h1,h2,h3,h4⟩
  ·exact .inl h
  ·exact .inr ⟨g,cap,cur,h1,h2,(hb.block g (Array.getElem?_eq_some_iff.1 h3).1).trans h3,h4⟩
 exact h.elim (fun x=>.inl (key _ x)) (fun x=>.inr (key _ x))
theorem qvT{B b:Nat}{bs:List Value}{w:World}(h:BtB B b bs w):BtB B b bs w.drew:=h.elim (fun x=>.inl x.drew) (fun x=>.inr x.drew)
theorem qtW:∀(k n:Nat),n<10^(k+1)→(Lib.decDigits n).length≤k+1
 | 0,n,h=>by rw[Lib.decDigits,dif_pos (by omega)];simp
 | k+1,n,h=>by
  rw[Lib.decDigits]
  split
  ·simp
  ·have:=qtW k (n/10) (by rw[Nat.pow_succ] at h;omega)
   simp;omega
theorem qvQ{pre l:List UInt8}{k:Nat}(hp:pre.length≤k)(hl:l.length≤9)(hk:k≤100000:=by omega):(Lib.byteCells pre).length+(⟨l.toArray⟩:ByteArray).size≤140737488355328:=by
 rw[Lib.byteCells_length]
 have:(⟨l.toArray⟩:ByteArray).size=l.length:=by simp[ByteArray.size]
 omega
theorem qqH{x:Int}(h:0≤x∧x<1000000000):(Lib.itoa x).length≤9:=by
 unfold Lib.itoa
 rw[if_neg (by omega)]
 exact qtW 8 _ (by omega)
theorem qrs{l:List UInt8}(h:l.length≤9):(qto l).length=9:=by
 unfold qto qeL q8i qm
 simp;omega
theorem qte{l:List UInt8}(h:l.length≤9):(⟨#[48,48,48,48,48,48,48,48,48]⟩:ByteArray).extract l.length 9++⟨l.toArray⟩=⟨(qto l).toArray⟩:=by
 have key:∀k:Nat,k≤9→(⟨#[48,48,48,48,48,48,48,48,48]⟩:ByteArray).extract k 9=⟨(q8i [48,48,48,48,48,48,48,48,48] (k:Int) 9).toArray⟩:=by
  intro k hk
  have:k=0∨k=1∨k=2∨k=3∨k=4∨k=5∨k=6∨k=7∨k=8∨k=9:=by omega
  rcases this with rfl|rfl|rfl|rfl|rfl|rfl|rfl|rfl|rfl|rfl<;>rfl
 rw[key _ h]
 unfold qto qeL qm
 apply ByteArray.ext
 simp
theorem quf(l:List UInt8):Lib.strCells ⟨l.toArray⟩=Lib.byteCells l:=rfl
theorem qw9(x:Int):0<(Lib.itoa x).length:=by
 unfold Lib.itoa
 split
 ·simp
 ·rw[Lib.decDigits];split<;>simp
set_option maxHeartbeats 4000000 in
set_option maxRecDepth 1000000 in
theorem qvx(n0:Nat)(b:Bool)(n:Nat)(f:Nat→Int)(w:World)(hlt:n0<w.heap.size)(h0:w.cell? ⟨n0,0,none⟩=some (.bool b))(h1:w.cell? ⟨n0,1,none⟩=some (.int .i64 (n:Int)))(hw:∀i,i<232→w.cell? ⟨n0,2+i,none⟩=some (.int .i64 (f i)))
  (hn:n≤232) (hf:∀i,i<n→0≤f i∧f i<1000000000) (ht:Lib.TabIs Tryz.prog w "internal/strconv.uint64pow10" .u64 Lib.pow10Tab) :
  Calls Tryz.prog 145 #[.pointer (some ⟨n0,0,none⟩)] w fun e w'=>e=.returned (.string ⟨(qqQ b n f).toArray⟩)∧Below w.heap.size w w':=by
 rcases Nat.eq_zero_or_pos n with rfl|hpos
 ·go_enter Tryz.func145,Tryz.ntmps145
  go_wp2
  go_ret
  exact⟨rfl,Below.refl _ _⟩
 obtain⟨m,rfl⟩:∃m,n=m+1:=⟨n-1,by omega⟩
 have hne:(((m+1:Nat):Int)==0)=false:=by simp;omega
 have w1:IntKind.i64.wrap (((m+1:Nat):Int)-1)=(m:Int):=by unfold IntKind.wrap;simp[IntKind.signed,IntKind.bits];omega
 have w1':IntKind.i64.wrap (m:Int)=(m:Int):=by unfold IntKind.wrap;simp[IntKind.signed,IntKind.bits];omega
 have hi:0≤(m:Int)∧(m:Int)<232:=by omega
 have hwm:=hw m (by omega)
 have w2:IntKind.i64.wrap (((m+1:Nat):Int)-2)=(m:Int)-1:=by unfold IntKind.wrap;simp[IntKind.signed,IntKind.bits];omega
 have hitm:=qqH (hf m (by omega))
 cases b
 case' false=>
  go_enter Tryz.func145,Tryz.ntmps145
  go_wp2
  have hB0:=Lib.fresh_isBuilder 240 5 w
  have hb0:=(Below.refl w.heap.size w).alloc (Nat.le_refl _) (.cells #[.pointer none,.slice none 0 0] 240)
  generalize w.alloc (.cells #[.pointer none,.slice none 0 0] 240)=W0 at *
  obtain⟨pre,hpre⟩:∃pre:List UInt8,pre=if false=true then [45] else []:=⟨_,rfl⟩
  replace hB0:BtB w.heap.size w.heap.size (Lib.byteCells pre) W0:=by subst hpre;exact hB0
 case' true=>
  go_enter Tryz.func145,Tryz.ntmps145
  go_wp2_with (go_at_call 182;refine(qvp w.heap.size w.heap.size [] 45 _ (Lib.fresh_isBuilder 240 5 w) (by simp) (by simp)).mono ?_)
  rintro e W0 ⟨rfl,hB0,hb0⟩
  replace hb0:=((Below.refl w.heap.size w).alloc (Nat.le_refl _) (.cells #[.pointer none,.slice none 0 0] 240)).trans hb0
  obtain⟨pre,hpre⟩:∃pre:List UInt8,pre=if true=true then [45] else []:=⟨_,rfl⟩
  replace hB0:BtB w.heap.size w.heap.size (Lib.byteCells pre) W0:=by subst hpre;exact hB0
  go_wp2
 all_goals
  have hp1:pre.length≤1:=by subst hpre;split<;>simp
  have hs0:=hb0.size
  have d1:=(qcS hb0 hlt 1).trans h1
  have dm:=(qcS hb0 hlt (2+m)).trans hwm
  go_region_with (first
   | (go_at_call 122;refine(qr2 (f m) (by have:=hf m (by omega);omega) _ (qjq ht hb0.drew)).mono ?_;rintro e W1 ⟨rfl,b1⟩)
   | (go_at_call 183;refine(qtI w.heap.size w.heap.size _ _ _ (qon (qvT hB0) b1) (qvQ hp1 hitm) (Nat.le_trans hs0 b1.size)).mono ?_;rintro e W2 ⟨rfl,hB2,b2⟩))
  have b02:Below w.heap.size w W2:=(hb0.drew.trans (b1.mono hs0)).trans b2
  have e1:=(qcS b02 hlt 1).trans h1
  replace hB2:BtB w.heap.size w.heap.size (Lib.byteCells (pre++Lib.itoa (f m))) W2:=by rw[Lib.byteCells_append];exact hB2
  go_wp2
  go_loopw [4] (fun vi wr=>∃(k:Nat) (acc:List UInt8),vi=.int .i64 ((k:Int)-1)∧k≤m∧BtB w.heap.size w.heap.size (Lib.byteCells acc) wr∧Below w.heap.size w wr∧acc++qfd f k=pre++Lib.itoa (f m)++qfd f m∧acc.length≤10+9*(m-k)) (fun vi _=>(intOf vi+1).toNat)
  case atStart=>exact⟨m,_,by congr 1<;>omega,Nat.le_refl _,hB2,b02,rfl,by simp;omega⟩
  case round=>
   obtain⟨k,acc,rfl,hkm,hI,hbw,hacc,hal⟩:=hrel
   have hbs:=hbw.size
   rcases Nat.eq_zero_or_pos k with rfl|hk0
   ·go_wp2_with (go_at_call 184;refine(qs0 w.heap.size w.heap.size acc _ hI ?hne).mono ?_)
    case hne=>
     intro h0
     subst h0
     have:=congrArg List.length hacc
     have h9:=qw9 (f m)
     simp[qfd] at this
     omega
    rintro e W3 ⟨rfl,b3⟩
    go_wp2
    go_ret
    refine⟨?_,hbw.trans b3⟩
    simp only[qfd,List.append_nil] at hacc
    rw[hacc,hpre]
    simp[qqQ]
   ·obtain⟨q,rfl⟩:∃q,k=q+1:=⟨k-1,by omega⟩
    have x1:(((q+1:Nat):Int)-1)=(q:Int):=by omega
    have x2:(0:Int)≤(q:Int)∧(q:Int)<232:=by omega
    have x3:(q:Int).toNat=q:=Int.toNat_natCast q
    have dq:=(qcS hbw hlt (2+q)).trans (hw q (by omega))
    have hq9:=qqH (hf q (by omega))
    rw[x1]
    go_wp2_with (go_at_call 122;refine(qr2 (f q) (by have:=hf q (by omega);omega) _ (qjq ht hbw)).mono ?_)
    rintro e W3 ⟨rfl,b3⟩
    clear w1 w1' w2 hi hwm hne h1 hf hw ht
    have hl9:((⟨(Lib.itoa (f q)).toArray⟩:ByteArray).size:Int)≤9:=by simp[ByteArray.size];omega
    go_wp2_with (go_at_call 183;refine(qtI w.heap.size w.heap.size (Lib.byteCells acc) _ _ (qon hI b3) ?hl (Nat.le_trans hbs b3.size)).mono ?_)
    case hl=>rw[qte hq9,Lib.byteCells_length];have:=qrs hq9;simp[ByteArray.size];omega
    rintro e W4 ⟨rfl,hB4,b4⟩
    rw[qte hq9,quf,←Lib.byteCells_append] at hB4
    go_wp2
    go_roundw
    case rel=>
     refine⟨q,_,by congr 1<;>omega,by omega,hB4,(hbw.trans (b3.mono hbs)).trans b4,?_,?_⟩
     ·rw[←hacc];simp[qfd]
     ·have:=qrs hq9
      simp;omega
    case measure=>simp[intOf]
theorem qqR(w:R):∀i,qfC w i=qfd (fun i=>cI w i 0) i
 | 0=>rfl
 | i+1=>by unfold qfC qfd;rw[qqR w i]
theorem qwe(b:Bool)(n:Nat)(w:R):qtA b (n:Int) w=qqQ b n (fun i=>cI w i 0):=by
 unfold qtA qqQ
 by_cases h:n=0
 ·subst h;rfl
 ·rw[if_neg (by omega),if_neg h,qqR]
  have e:((n:Int)-1)=((n-1:Nat):Int):=by omega
  rw[e,Int.toNat_natCast]
theorem qtd{ps:List PV}(h:ps.map PV.kind=[.b,.i,.r]):∃b n w,ps=[.b b,.i n,.r w]:=by
 match ps,h with
 | [.b b,.i n,.r w],_=>exact⟨b,n,w,rfl⟩
theorem qsk{gl:List (Nat×AV)}(hg:(2,AV.eptr (Lib.pow10Tab.map fun _=>.int .u64) qwm 0 0)∈gl) :
  zF Tryz.prog gl 145 (qa { args:=[.ptr 0 0],h:=[.big [.bool,.int .i64] .i64 232] } [{ res:=.str,h:=[.big [.bool,.int .i64] .i64 232] }] quN):=
 qcX (q0m Tryz.func145 (by kernel_rfl) (by kernel_rfl)) rfl fun B X ps j qs vargs hs hgl hh ha hk hT=>by
  obtain⟨b,n,r,rfl⟩:=qtd hk
  simp only[quN] at hT
  split at hT
  ·rename_i hc
   cases hT
   unfold qm9 at hc
   simp only[Bool.and_eq_true,decide_eq_true_eq,List.all_eq_true,List.mem_range] at hc
   obtain⟨⟨c1,c2⟩,c3⟩:=hc
   obtain⟨m,rfl⟩:∃m:Nat,n=(m:Int):=⟨n.toNat,by omega⟩
   have hb0:X.h[0]?=some (.big [.bool b,.int .i64 (m:Int)] .i64 232 r):=by rw[hh];rfl
   obtain⟨n0,c,T,vs,hσ,hheap,hrep,hcl,hrl⟩:=hs.blk 0 _ hb0
   have hvs:vs=[.bool b,.int .i64 (m:Int)]:=by
    cases hrep with
    | cons h t=>cases h;rw[qqN t]
   subst hvs
   have hva:vargs=[.pointer (some ⟨n0,0,none⟩)]:=by
    cases ha with
    | cons h t=>
     cases t
     cases h with
     | ptr _ _ n1 hb hσ2=>
      have:n1=n0:=Option.some.inj (hσ2.symm.trans hσ)
      rw[this]
   subst hva
   have hlt:n0<X.w.heap.size:=(Array.getElem?_eq_some_iff.1 hheap).1
   have hcell:∀o,X.w.cell? ⟨n0,o,none⟩=c[o]?:=fun o=>by unfold World.cell?;simp only[hheap];rfl
   have g0:X.w.cell? ⟨n0,0,none⟩=some (.bool b):=by rw[hcell,←Array.getElem?_toList,hcl];rfl
   have g1:X.w.cell? ⟨n0,1,none⟩=some (.int .i64 (m:Int)):=by rw[hcell,←Array.getElem?_toList,hcl];rfl
   have gw:∀i,i<232→X.w.cell? ⟨n0,2+i,none⟩=some (.int .i64 (cI r (i:Int) 0)):=fun i hi=>by
    rw[hcell]
    exact qmx (vs:=[.bool b,.int .i64 (m:Int)]) hcl (by omega)
   refine⟨rfl,rfl,rfl,?_⟩
   have hT:=qis (k:=.u64) (zs:=Lib.pow10Tab) (show Tryz.prog.globalNamed "internal/strconv.uint64pow10" = some 2 by kernel_rfl) (by decide) (hgl _ hg).2
   refine(qvx n0 b m (fun i=>cI r (i:Int) 0) X.w hlt g0 g1 gw (by omega) (fun i hi=>c3 i (by omega)) hT).mono fun e w' ⟨k1,k2⟩=>⟨_,k1,k2,?_⟩
   rw[←qwe]
   exact .str _
  ·cases hT
end Go.Eng

namespace Go.Eng
open Go.Shelf Go.RowKit Go.Lib Go.Sort Go.Proofs
variable {P:Program} {ρ:Ren}
theorem qiV(w:World)(t e ty:TypeId)(z:Value)(es:Nat)(ht:P.underlying t=some (.slice e))(hv:∀w,(zeroValue e).run P w=.ok z w)(hz:z.cells.size=es)(h1:∀v∈z.cells.toList,v.oneCell'=true)(b o n c:Nat)(hn:0<n)
  (hc:∀j,j<n*es→(w.cell? ⟨b,o+j,none⟩).isSome=true) (hf:∀j,j<n*es→w.frozen? ⟨b,o+j,none⟩=false) :
  (Builtin.clear_ #[t] ty #[.slice (some ⟨b,o,none⟩) n c]).run P w=.ok (.tuple #[]) (w.setCells b o (Builtin.zeroCells z.cells n).toList):=by
 have hlen:(Builtin.zeroCells z.cells n).toList.length=n*es:=by simp[Builtin.zeroCells,hz]
 have hst:=run_storeCells_cells (P:=P) b o (Builtin.zeroCells z.cells n).toList 0 w (by rw[hlen];simpa using hc) (by rw[hlen];simpa using hf) (by
  intro v hv'
  simp only[Builtin.zeroCells,Array.toList_map,List.mem_map,Array.toList_range,List.mem_range] at hv'
  obtain⟨i,hi,rfl⟩:=hv'
  have hp:0<z.cells.size:=by
   rcases Nat.eq_zero_or_pos z.cells.size with h|h
   ·rw[h] at hi;simp at hi
   ·exact h
  have hlt:=Nat.mod_lt i hp
  rw[getElem!_pos z.cells _ hlt]
  exact h1 _ (by simp))
 simp only[Nat.add_zero] at hst
 obtain⟨m,rfl⟩:∃m,n=m+1:=⟨n-1,by omega⟩
 simp[Builtin.clear_,run_underlying ht,hv,hst]
theorem qbh(b:Nat):∀(vs:List Value) (o:Nat) (w:World) (q:Addr),(w.cell? q).isSome=true→((w.setCells b o vs).cell? q).isSome=true
 | [],_,_,_,h=>h
 | v::r,o,w,q,h=>by
  rw[World.setCells]
  obtain⟨u,hu⟩:=Option.isSome_iff_exists.mp h
  obtain⟨u',hu'⟩:=cell?_setCell_some (p:=⟨b,o,none⟩) (x:=v) hu
  exact qbh b r (o+1) _ q (by rw[hu'];rfl)
set_option maxHeartbeats 4000000 in
set_option maxRecDepth 1000000 in
theorem qvI(mixed:P.follows .mixedOrders=true)(f45:Bears P (ρ.f 45) (SlBodyN.n45 ρ))
  (_:P.underlying (ρ.t 0)=some (TypeDesc.tuple #[])) (_:∀w,(isAgg (ρ.t 0)).run P w=.ok false w) (_:∀w,(Go.sizeOf (ρ.t 0)).run P w=.ok 1 w) (_:∀w,(zeroValue (ρ.t 0)).run P w=.ok (Value.tuple #[]) w)
  (_:P.underlying (ρ.t 3)=some (TypeDesc.int IntKind.i64)) (_:∀w,(isAgg (ρ.t 3)).run P w=.ok false w) (_:∀w,(Go.sizeOf (ρ.t 3)).run P w=.ok 1 w) (_:∀w,(zeroValue (ρ.t 3)).run P w=.ok (Value.int IntKind.i64 0) w)
  (_:P.underlying (ρ.t 4)=some (TypeDesc.bool)) (_:∀w,(isAgg (ρ.t 4)).run P w=.ok false w) (_:∀w,(Go.sizeOf (ρ.t 4)).run P w=.ok 1 w) (_:∀w,(zeroValue (ρ.t 4)).run P w=.ok (Value.bool false) w)
  (t22:P.underlying (ρ.t 22)=some (TypeDesc.slice (ρ.t 23))) (_:∀w,(isAgg (ρ.t 22)).run P w=.ok false w) (_:∀w,(Go.sizeOf (ρ.t 22)).run P w=.ok 1 w) (_:∀w,(zeroValue (ρ.t 22)).run P w=.ok (Value.slice none 0 0) w)
  {es:Nat} (z23:∀w,(Go.sizeOf (ρ.t 23)).run P w=.ok es w) (z:Value) (v23:∀w,(zeroValue (ρ.t 23)).run P w=.ok z w) (zs:z.cells.size=es) (zo:∀v∈z.cells.toList,v.oneCell'=true)
  (i0:TypeInfo) (hi0:P.info? (ρ.t 23)=some i0) (hz1:i0.size=es) (blk off len cap i j:Nat) (cs:List Value) (hcs:cs.length=len*es) (w:World)
  (hc:∀k v,cs[k]?=some v→w.cell? ⟨blk,off+k,none⟩=some v∧w.frozen? ⟨blk,off+k,none⟩=false) (h1:∀v∈cs,v.oneCell'=true) (hcap:len≤cap) (hm:cap≤9223372036854775807) (hij:i≤j) (hj:j≤len) :
  Calls P (ρ.f 45) #[.slice (some ⟨blk,off,none⟩) len cap,.int .i64 i,.int .i64 j] w fun e w'=>e=.returned (.slice (some ⟨blk,off,none⟩) (len-(j-i)) cap) ∧
   ((i=j∧w'=w)∨(i<j∧∃q,w'=((Sort.ahead w q).setCells blk (off+i*es) (cs.drop (j*es))).setCells blk (off+(i+(len-j))*es) (Builtin.zeroCells z.cells (len-(i+(len-j)))).toList)):=by
 by_cases heq:i=j
 ·subst heq
  have h0:Calls P (ρ.f 45) #[.slice (some ⟨blk,off,none⟩) len cap,.int .i64 i,.int .i64 i] w fun e w'=>e=.returned (.slice (some ⟨blk,off,none⟩) len cap)∧w'=w:=by
   clear hc
   obtain⟨_,_,FG⟩:=f45
   go_enter FG,SlBodyN.n45_ntmps ρ
   go_wp2
   all_goals (go_ret;exact⟨rfl,rfl⟩)
  refine h0.mono ?_
  rintro e w' ⟨rfl,rfl⟩
  exact⟨by rw[Nat.sub_self,Nat.sub_zero],.inl ⟨rfl,rfl⟩⟩
 ·have hlt:i<j:=by omega
  obtain⟨news,hnews⟩:∃news,news=cs.drop (j*es):=⟨_,rfl⟩
  have hlen:news.length=(len-j)*es:=by rw[hnews,List.length_drop,hcs,Nat.sub_mul]
  have hget:∀t u,news[t]?=some u→cs[j*es+t]?=some u:=by
   intro t u hu
   rw[hnews,List.getElem?_drop] at hu;exact hu
  obtain⟨A,hA,hsrc⟩:∃A:Addr,(if cap=j then some (⟨blk,off,none⟩:Addr) else some ⟨blk,off+j*es,none⟩)=some A∧Hid (∀t u,news[t]?=some u→w.drew.cell? (A.add t)=some u):=by
   by_cases h:cap=j
   ·refine⟨⟨blk,off,none⟩,by simp[h],fun t u hu=>?_⟩
    have h0:news.length=0:=by rw[hlen,show len-j=0 by omega,Nat.zero_mul]
    rw[List.length_eq_zero_iff.1 h0] at hu
    simp at hu
   ·refine⟨⟨blk,off+j*es,none⟩,by simp[h],fun t u hu=>?_⟩
    rw[Addr.add_lit,show off+j*es+t=off+(j*es+t) by omega]
    exact(hc (j*es+t) u (hget t u hu)).1
  have s1:Hid (news.length=(len-j)*es):=hlen
  have s2:Hid (∀u∈news,u.oneCell'=true):=by
   intro u hu
   rw[hnews] at hu
   exact h1 u (List.mem_of_mem_drop hu)
  have hall:∀k,k<len*es→(w.cell? ⟨blk,off+k,none⟩).isSome=true∧w.frozen? ⟨blk,off+k,none⟩=false:=by
   intro k hk
   obtain⟨q1,q2⟩:=hc k cs[k] (List.getElem?_eq_getElem (by omega))
   exact⟨by rw[q1];rfl,q2⟩
  have mul1:(i+(len-j))*es≤len*es:=Nat.mul_le_mul_right _ (by omega)
  have mul2:(i+(len-j))*es=i*es+(len-j)*es:=Nat.add_mul _ _ _
  have s3:Hid (∀t,t<news.length→(w.drew.cell? ⟨blk,off+i*es+t,none⟩).isSome=true∧w.drew.frozen? ⟨blk,off+i*es+t,none⟩=false):=by
   intro t ht
   rw[hlen] at ht
   rw[Nat.add_assoc]
   exact hall (i*es+t) (by omega)
  obtain⟨W1,hW1⟩:∃W1,W1=w.drew.setCells blk (off+i*es) news:=⟨_,rfl⟩
  have hW1c:∀k,k<len*es→(W1.cell? ⟨blk,off+k,none⟩).isSome=true∧W1.frozen? ⟨blk,off+k,none⟩=false:=by
   intro k hk
   obtain⟨q1,q2⟩:=hall k hk
   rw[hW1]
   exact⟨qbh blk news _ _ _ q1,by rw[World.frozen?_setCells];exact q2⟩
  have m3:(i+(len-j))*es+(len-(i+(len-j)))*es=len*es:=by rw[←Nat.add_mul];congr 1;omega
  have hcl:∀ty,(Builtin.clear_ #[ρ.t 22] ty #[.slice (some ⟨blk,off+(i+(len-j))*es,none⟩) (len-(i+(len-j))) (cap-(i+(len-j)))]).run P W1=.ok (.tuple #[]) (W1.setCells blk (off+(i+(len-j))*es) (Builtin.zeroCells z.cells (len-(i+(len-j)))).toList):=
   fun ty=>qiV W1 _ _ ty z es t22 v23 zs zo blk _ _ _ (by omega) (fun t ht=>by rw[Nat.add_assoc];exact(hW1c _ (by omega)).1) (fun t ht=>by rw[Nat.add_assoc];exact(hW1c _ (by omega)).2)
  obtain⟨zl,hzl⟩:∃zl,Hid (zl=(Builtin.zeroCells z.cells (len-(i+(len-j)))).toList):=⟨_,rfl⟩
  simp only[←hzl.out] at hcl
  have hW:Hid (W1=w.drew.setCells blk (off+i*es) news):=hW1
  have hic:i≤cap:=by omega
  have hjc:j≤cap:=by omega
  clear hW1 hW1c hc hget hall hlen mul1 mul2 m3
  obtain⟨_,_,FG⟩:=f45
  go_enter FG,SlBodyN.n45_ntmps ρ
  go_wp2_with fail
  go_region_law_o (refine step_append_room rfl (.tmp 22) (.tmp 25) (ρ.t 22) rfl (ρ.t 23) i0 es t22 hi0 hz1 blk off i cap (by simp[Act.eval,Act.put]) A (len-j) (cap-j) news (by simp[Act.eval,Act.put]) s1.out hsrc.out s2.out (by omega) s3.out ?_;rw[←hW.out])
  go_wp2
  go_ret
  refine⟨by rw[show len-(j-i)=i+(len-j) by omega];rfl,.inr ⟨hlt,1,?_⟩⟩
  rw[hW.out,hnews,hzl.out];rfl
theorem qe2{n:Nat}{T:TypeId}{fr:Nat×Nat}:∀(vs:List Value) (o:Nat) (w:World) (c:Array Value),w.heap[n]?=some (.cells c T fr) →
  ∃c',(w.setCells n o vs).heap[n]?=some (.cells c' T fr)∧c'.size=c.size∧(∀k,c'[k]?=if o≤k∧k<o+vs.length∧k<c.size then vs[k-o]? else c[k]?)∧(∀m,m≠n→(w.setCells n o vs).heap[m]?=w.heap[m]?) ∧
   (w.setCells n o vs).heap.size=w.heap.size∧(w.setCells n o vs).os=w.os∧(w.setCells n o vs).tape=w.tape∧(w.setCells n o vs).output=w.output
 | [],o,w,c,h=>⟨c,h,rfl,fun k=>by rw[if_neg (by simp;omega)],fun _ _=>rfl,rfl,rfl,rfl,rfl⟩
 | v::r,o,w,c,h=>by
  have hn:=(Array.getElem?_eq_some_iff.1 h).1
  have h1:(w.setCell ⟨n,o,none⟩ v).heap[n]?=some (.cells (c.setIfInBounds o v) T fr):=by
   simp[World.setCell,Array.getElem?_modify,h]
  obtain⟨c',q1,q2,q3,q4,q5,q6,q7,q8⟩:=qe2 r (o+1) _ _ h1
  refine⟨c',q1,by rw[q2];simp,fun k=>?_,fun m hm=>?_,?_,q6,q7,q8⟩
  ·rw[q3 k,Array.size_setIfInBounds]
   by_cases hk:k=o
   ·subst hk
    rw[if_neg (by omega)]
    by_cases hs:k<c.size
    ·rw[if_pos ⟨Nat.le_refl _,by simp,hs⟩,Array.getElem?_setIfInBounds_self_of_lt hs];simp
    ·rw[if_neg (by omega)]
     rw[Array.getElem?_eq_none (by simp;omega),Array.getElem?_eq_none (by omega)]
   ·rw[Array.getElem?_setIfInBounds_ne (fun e=>hk e.symm)]
    by_cases hc:o+1≤k∧k<o+1+r.length∧k<c.size
    ·rw[if_pos hc,if_pos ⟨by omega,by simp only[List.length_cons];omega,hc.2.2⟩]
     obtain⟨d,rfl⟩:∃d,k=o+1+d:=⟨k-(o+1),by omega⟩
     rw[show o+1+d-(o+1)=d by omega,show o+1+d-o=d+1 by omega];simp
    ·rw[if_neg hc,if_neg (by simp only[List.length_cons];omega)]
  ·show ((w.setCell ⟨n,o,none⟩ v).setCells n (o+1) r).heap[m]?=_
   rw[q4 m hm]
   simp only[World.setCell]
   rw[Array.getElem?_modify,if_neg (fun e=>hm e.symm)]
  ·show ((w.setCell ⟨n,o,none⟩ v).setCells n (o+1) r).heap.size=_
   rw[q5];simp[World.setCell]
theorem qrD(mixed:P.follows .mixedOrders=true)(f45:Bears P (ρ.f 45) (SlBodyN.n45 ρ))(hen:∀args w,(callFunc (ρ.f 45) args).run P w=.ok (.enter (ρ.f 45) args) w)
  (t0:P.underlying (ρ.t 0)=some (TypeDesc.tuple #[])) (a0:∀w,(isAgg (ρ.t 0)).run P w=.ok false w) (z0:∀w,(Go.sizeOf (ρ.t 0)).run P w=.ok 1 w) (v0:∀w,(zeroValue (ρ.t 0)).run P w=.ok (Value.tuple #[]) w)
  (t3:P.underlying (ρ.t 3)=some (TypeDesc.int IntKind.i64)) (a3:∀w,(isAgg (ρ.t 3)).run P w=.ok false w) (z3:∀w,(Go.sizeOf (ρ.t 3)).run P w=.ok 1 w) (v3:∀w,(zeroValue (ρ.t 3)).run P w=.ok (Value.int IntKind.i64 0) w)
  (t4:P.underlying (ρ.t 4)=some (TypeDesc.bool)) (a4:∀w,(isAgg (ρ.t 4)).run P w=.ok false w) (z4:∀w,(Go.sizeOf (ρ.t 4)).run P w=.ok 1 w) (v4:∀w,(zeroValue (ρ.t 4)).run P w=.ok (Value.bool false) w)
  (t22:P.underlying (ρ.t 22)=some (TypeDesc.slice (ρ.t 23))) (a22:∀w,(isAgg (ρ.t 22)).run P w=.ok false w) (z22:∀w,(Go.sizeOf (ρ.t 22)).run P w=.ok 1 w) (v22:∀w,(zeroValue (ρ.t 22)).run P w=.ok (Value.slice none 0 0) w)
  (z:Value) (v23:∀w,(zeroValue (ρ.t 23)).run P w=.ok z w) (zs:z.cells.size=P.cellsOf (ρ.t 23)) (zo:(z.cells.toList.all fun v=>v.oneCell')=true):qat P (ρ.f 45) (ρ.t 23):=by
 refine⟨hen,fun w n len cap i j c T hc hsz h1 hp hlen hm hij hj=>?_⟩
 obtain⟨i0,hi0,hz1⟩:=qn6 hp
 have z23:∀w,(Go.sizeOf (ρ.t 23)).run P w=.ok (P.cellsOf (ρ.t 23)) w:=fun w=>zA hp w
 have zo:∀v∈z.cells.toList,v.oneCell'=true:=fun v hv=>List.all_eq_true.1 zo v hv
 have hle:len*P.cellsOf (ρ.t 23)≤c.size:=by rw[hsz];exact Nat.mul_le_mul_right _ hlen
 obtain⟨cs,hcs⟩:∃cs,cs=c.toList.take (len*P.cellsOf (ρ.t 23)):=⟨_,rfl⟩
 have hcl:cs.length=len*P.cellsOf (ρ.t 23):=by rw[hcs];simp;omega
 have hcg:∀k v,cs[k]?=some v→k<len*P.cellsOf (ρ.t 23)∧c[k]?=some v:=by
  intro k v hk
  have hlt:k<len*P.cellsOf (ρ.t 23):=by rw[←hcl];exact(List.getElem?_eq_some_iff.1 hk).1
  rw[hcs,List.getElem?_take,if_pos hlt] at hk
  exact⟨hlt,by simpa using hk⟩
 refine(qvI mixed f45 t0 a0 z0 v0 t3 a3 z3 v3 t4 a4 z4 v4 t22 a22 z22 v22 z23 z v23 zs zo i0 hi0 hz1 n 0 len cap i j cs hcl w (fun k v hk=>?_) (fun v hv=>?_) hlen hm hij hj).mono fun x w' ⟨e1,e2⟩=>⟨e1,?_⟩
 ·obtain⟨_,q⟩:=hcg k v hk
  rw[Nat.zero_add]
  exact⟨by simp[World.cell?,hc,q],by simp[World.frozen?,hc]⟩
 ·obtain⟨k,hk⟩:=List.getElem?_of_mem hv
  obtain⟨q1,q2⟩:=hcg k v hk
  exact h1 k v q1 q2
 ·rcases e2 with⟨rfl,rfl⟩|⟨hlt,q,rfl⟩
  ·refine⟨c,hc,rfl,fun k _=>?_,fun _ _=>rfl,rfl,rfl,rfl,rfl⟩
   rw[Nat.sub_self,Nat.zero_mul,Nat.add_zero,ite_self]
  ·obtain⟨c1,a1,a2,a3,a4,a5,a6,a7,a8⟩:=qe2 (T:=T) (fr:=(0,0)) (cs.drop (j*P.cellsOf (ρ.t 23))) (0+i*P.cellsOf (ρ.t 23)) (Sort.ahead w q) c hc
   obtain⟨c2,b1,b2,b3,b4,b5,b6,b7,b8⟩:=qe2 (T:=T) (fr:=(0,0)) (Builtin.zeroCells z.cells (len-(i+(len-j)))).toList (0+(i+(len-j))*P.cellsOf (ρ.t 23)) _ c1 a1
   refine⟨c2,b1,b2.trans a2,fun k hk=>?_,fun m hm=>(b4 m hm).trans (a4 m hm),b5.trans a5,b6.trans a6,b7.trans a7,b8.trans a8⟩
   have m1:len-(j-i)=i+(len-j):=by omega
   rw[m1] at hk
   have m2:(i+(len-j))*P.cellsOf (ρ.t 23)=i*P.cellsOf (ρ.t 23)+(len-j)*P.cellsOf (ρ.t 23):=Nat.add_mul _ _ _
   have m3:len*P.cellsOf (ρ.t 23)=j*P.cellsOf (ρ.t 23)+(len-j)*P.cellsOf (ρ.t 23):=by rw[←Nat.add_mul];congr 1;omega
   have m4:j*P.cellsOf (ρ.t 23)=i*P.cellsOf (ρ.t 23)+(j-i)*P.cellsOf (ρ.t 23):=by rw[←Nat.add_mul];congr 1;omega
   have dl:(cs.drop (j*P.cellsOf (ρ.t 23))).length=(len-j)*P.cellsOf (ρ.t 23):=by rw[List.length_drop,hcl,Nat.sub_mul]
   rw[b3,if_neg (by omega),a3,dl]
   by_cases hki:k<i*P.cellsOf (ρ.t 23)
   ·rw[if_neg (by omega),if_pos hki]
   ·rw[if_pos (by omega),if_neg hki,List.getElem?_drop,hcs,List.getElem?_take,if_pos (by omega)]
    rw[show j*P.cellsOf (ρ.t 23)+(k-(0+i*P.cellsOf (ρ.t 23)))=k+(j-i)*P.cellsOf (ρ.t 23) by omega]
    simp
end Go.Eng

namespace Go.Eng
open Go.Proofs
noncomputable def q5L:List (TypeId×TI):=[(1,(.mk .func 1 [.nilFunc] 8 false false)),(2,(.mk (.int .i64) 1 [(.int .i64 0)] 8 false false)),(3,(.mk (.int .i64) 1 [(.int .i64 0)] 8 false false)),(4,(.mk .bool 1 [(.bool false)] 1 false false)),(5,(.mk (.int .u8) 1 [(.int .u8 0)] 1 false false)),(6,(.mk (.int .u8) 1 [(.int .u8 0)] 1 false false)),(8,(.mk (.struct [(0,(2,1)),(1,(3,1)),(2,(4,1)),(3,(6,1))]) 4 [(.int .i64 0),(.int .i64 0),(.bool false),(.int .u8 0)] 24 true true)),(9,(.mk .str 1 [(.string (.mk (.mk [])))] 16 false false)),(10,(.mk .str 1 [(.string (.mk (.mk [])))] 16 false false)),(11,(.mk .str 1 [(.string (.mk (.mk [])))] 16 false false)),(12,(.mk (.int .u64) 1 [(.int .u64 0)] 8 false false)),(13,(.mk (.struct [(0,(9,1)),(1,(12,1))]) 2 [(.string (.mk (.mk []))),(.int .u64 0)] 24 false true)),(14,(.mk (.struct [(0,(9,1)),(1,(12,1))]) 2 [(.string (.mk (.mk []))),(.int .u64 0)] 24 false true)),(16,(.mk (.ptr 310) 1 [(.pointer .none)] 8 false false)),(17,(.mk (.ptr 318) 1 [(.pointer .none)] 8 false false)),(18,(.mk (.struct [(0,(17,1))]) 1 [(.pointer .none)] 8 false true)),(22,(.mk (.slice 39 7) 1 [(.slice .none 0 0)] 24 false false)),(24,(.mk (.struct [(0,(22,1)),(1,(22,1))]) 2 [(.slice .none 0 0),(.slice .none 0 0)] 48 true true)),(25,(.mk (.slice 43 3) 1 [(.slice .none 0 0)] 24 false false)),(27,(.mk (.struct [(0,(25,1)),(1,(25,1))]) 2 [(.slice .none 0 0),(.slice .none 0 0)] 48 true true)),(29,(.mk (.struct [(0,(22,1)),(1,(22,1))]) 2 [(.slice .none 0 0),(.slice .none 0 0)] 48 true true)),(30,(.mk (.struct [(0,(25,1)),(1,(25,1))]) 2 [(.slice .none 0 0),(.slice .none 0 0)] 48 true true)),(32,(.mk .func 1 [.nilFunc] 8 false false)),(35,(.mk (.struct [(0,(3,1)),(1,(3,1))]) 2 [(.int .i64 0),(.int .i64 0)] 16 true true)),(37,(.mk (.struct [(0,(3,1)),(1,(3,1))]) 2 [(.int .i64 0),(.int .i64 0)] 16 true true)),(39,(.mk (.struct [(0,(35,2)),(2,(37,2)),(4,(3,1)),(5,(3,1)),(6,(4,1))]) 7 [(.int .i64 0),(.int .i64 0),(.int .i64 0),(.int .i64 0),(.int .i64 0),(.int .i64 0),(.bool false)] 56 true true)),(40,(.mk .func 1 [.nilFunc] 8 false false)),(43,(.mk (.struct [(0,(35,2)),(2,(3,1))]) 3 [(.int .i64 0),(.int .i64 0),(.int .i64 0)] 24 true true)),(45,(.mk (.struct [(0,(3,1)),(1,(3,1)),(2,(3,1))]) 3 [(.int .i64 0),(.int .i64 0),(.int .i64 0)] 24 true true)),(46,(.mk (.struct [(0,(3,1)),(1,(3,1)),(2,(3,1))]) 3 [(.int .i64 0),(.int .i64 0),(.int .i64 0)] 24 true true)),(47,(.mk (.int .i64) 1 [(.int .i64 0)] 8 false false)),(49,(.mk .func 1 [.nilFunc] 8 false false)),(51,(.mk .func 1 [.nilFunc] 8 false false)),(52,(.mk .func 1 [.nilFunc] 8 false false)),(53,(.mk (.slice 65 3) 1 [(.slice .none 0 0)] 24 false false)),(54,(.mk .func 1 [.nilFunc] 8 false false)),(55,(.mk .func 1 [.nilFunc] 8 false false)),(56,(.mk (.slice 3 1) 1 [(.slice .none 0 0)] 24 false false)),(58,(.mk .func 1 [.nilFunc] 8 false false)),(61,(.mk .str 1 [(.string (.mk (.mk [])))] 16 false false)),(63,(.mk (.struct [(0,(61,1)),(1,(61,1))]) 2 [(.string (.mk (.mk []))),(.string (.mk (.mk [])))] 32 true true)),(64,(.mk (.struct [(0,(63,2)),(2,(61,1))]) 3 [(.string (.mk (.mk []))),(.string (.mk (.mk []))),(.string (.mk (.mk [])))] 48 true true)),(65,(.mk (.struct [(0,(63,2)),(2,(61,1))]) 3 [(.string (.mk (.mk []))),(.string (.mk (.mk []))),(.string (.mk (.mk [])))] 48 true true)),(69,(.mk (.struct [(0,(22,1)),(1,(25,1)),(2,(3,1))]) 3 [(.slice .none 0 0),(.slice .none 0 0),(.int .i64 0)] 56 true true)),(77,(.mk .func 1 [.nilFunc] 8 false false)),(82,(.mk .func 1 [.nilFunc] 8 false false)),(90,(.mk .func 1 [.nilFunc] 8 false false)),(91,(.mk (.ptr 93) 1 [(.pointer .none)] 8 false false)),(92,(.mk (.struct [(0,(47,1))]) 1 [(.int .i64 0)] 8 true true)),(93,(.mk (.struct [(0,(47,1))]) 1 [(.int .i64 0)] 8 true true)),(96,(.mk .func 1 [.nilFunc] 8 false false)),(97,(.mk .func 1 [.nilFunc] 8 false false)),(99,(.mk (.struct [(0,(22,1)),(1,(25,1)),(2,(3,1))]) 3 [(.slice .none 0 0),(.slice .none 0 0),(.int .i64 0)] 56 true true)),(100,(.mk .func 1 [.nilFunc] 8 false false)),(101,(.mk .func 1 [.nilFunc] 8 false false)),(104,(.mk .func 1 [.nilFunc] 8 false false)),(108,(.mk .func 1 [.nilFunc] 8 false false)),(109,(.mk .func 1 [.nilFunc] 8 false false)),(110,(.mk .func 1 [.nilFunc] 8 false false)),(112,(.mk .func 1 [.nilFunc] 8 false false)),(115,(.mk .func 1 [.nilFunc] 8 false false)),(116,(.mk .func 1 [.nilFunc] 8 false false)),(118,(.mk .func 1 [.nilFunc] 8 false false)),(120,(.mk .func 1 [.nilFunc] 8 false false)),(121,(.mk .func 1 [.nilFunc] 8 false false)),(123,(.mk .func 1 [.nilFunc] 8 false false)),(124,(.mk .func 1 [.nilFunc] 8 false false)),(127,(.mk (.struct [(0,(63,2)),(2,(63,2)),(4,(61,1))]) 5 [(.string (.mk (.mk []))),(.string (.mk (.mk []))),(.string (.mk (.mk []))),(.string (.mk (.mk []))),(.string (.mk (.mk [])))] 80 true true)),(134,(.mk (.slice 61 1) 1 [(.slice .none 0 0)] 24 false false)),(139,(.mk (.ptr 141) 1 [(.pointer .none)] 8 false false)),(141,(.mk (.struct [(0,(53,1)),(1,(47,1))]) 2 [(.slice .none 0 0),(.int .i64 0)] 32 true true)),(150,(.mk .str 1 [(.string (.mk (.mk [])))] 16 false false)),(153,(.mk (.ptr 183) 1 [(.pointer .none)] 8 false false)),(158,(.mk (.struct [(0,(39,7)),(7,(3,1))]) 8 [(.int .i64 0),(.int .i64 0),(.int .i64 0),(.int .i64 0),(.int .i64 0),(.int .i64 0),(.bool false),(.int .i64 0)] 64 true true)),(166,(.mk .func 1 [.nilFunc] 8 false false)),(175,(.mk .func 1 [.nilFunc] 8 false false)),(181,(.mk (.slice 150 1) 1 [(.slice .none 0 0)] 24 false false)),(183,(.mk (.struct [(0,(47,1))]) 1 [(.int .i64 0)] 8 true true)),(186,(.mk .func 1 [.nilFunc] 8 false false)),(189,(.mk .func 1 [.nilFunc] 8 false false)),(190,(.mk (.array 3 3 1) 3 [(.int .i64 0),(.int .i64 0),(.int .i64 0)] 24 false false)),(191,(.mk (.array 2 190 3) 6 [(.int .i64 0),(.int .i64 0),(.int .i64 0),(.int .i64 0),(.int .i64 0),(.int .i64 0)] 48 false false)),(202,(.mk (.ptr 207) 1 [(.pointer .none)] 8 false false)),(205,(.mk (.array 232 3 1) 232 [(.int .i64 0),(.int .i64 0),(.int .i64 0),(.int .i64 0),(.int .i64 0),(.int .i64 0),(.int .i64 0),(.int .i64 0),(.int .i64 0),(.int .i64 0),(.int .i64 0),(.int .i64 0),(.int .i64 0),(.int .i64 0),(.int .i64 0),(.int .i64 0),(.int .i64 0),(.int .i64 0),(.int .i64 0),(.int .i64 0),(.int .i64 0),(.int .i64 0),(.int .i64 0),(.int .i64 0),(.int .i64 0),(.int .i64 0),(.int .i64 0),(.int .i64 0),(.int .i64 0),(.int .i64 0),(.int .i64 0),(.int .i64 0),(.int .i64 0),(.int .i64 0),(.int .i64 0),(.int .i64 0),(.int .i64 0),(.int .i64 0),(.int .i64 0),(.int .i64 0),(.int .i64 0),(.int .i64 0),(.int .i64 0),(.int .i64 0),(.int .i64 0),(.int .i64 0),(.int .i64 0),(.int .i64 0),(.int .i64 0),(.int .i64 0),(.int .i64 0),(.int .i64 0),(.int .i64 0),(.int .i64 0),(.int .i64 0),(.int .i64 0),(.int .i64 0),(.int .i64 0),(.int .i64 0),(.int .i64 0),(.int .i64 0),(.int .i64 0),(.int .i64 0),(.int .i64 0),(.int .i64 0),(.int .i64 0),(.int .i64 0),(.int .i64 0),(.int .i64 0),(.int .i64 0),(.int .i64 0),(.int .i64 0),(.int .i64 0),(.int .i64 0),(.int .i64 0),(.int .i64 0),(.int .i64 0),(.int .i64 0),(.int .i64 0),(.int .i64 0),(.int .i64 0),(.int .i64 0),(.int .i64 0),(.int .i64 0),(.int .i64 0),(.int .i64 0),(.int .i64 0),(.int .i64 0),(.int .i64 0),(.int .i64 0),(.int .i64 0),(.int .i64 0),(.int .i64 0),(.int .i64 0),(.int .i64 0),(.int .i64 0),(.int .i64 0),(.int .i64 0),(.int .i64 0),(.int .i64 0),(.int .i64 0),(.int .i64 0),(.int .i64 0),(.int .i64 0),(.int .i64 0),(.int .i64 0),(.int .i64 0),(.int .i64 0),(.int .i64 0),(.int .i64 0),(.int .i64 0),(.int .i64 0),(.int .i64 0),(.int .i64 0),(.int .i64 0),(.int .i64 0),(.int .i64 0),(.int .i64 0),(.int .i64 0),(.int .i64 0),(.int .i64 0),(.int .i64 0),(.int .i64 0),(.int .i64 0),(.int .i64 0),(.int .i64 0),(.int .i64 0),(.int .i64 0),(.int .i64 0),(.int .i64 0),(.int .i64 0),(.int .i64 0),(.int .i64 0),(.int .i64 0),(.int .i64 0),(.int .i64 0),(.int .i64 0),(.int .i64 0),(.int .i64 0),(.int .i64 0),(.int .i64 0),(.int .i64 0),(.int .i64 0),(.int .i64 0),(.int .i64 0),(.int .i64 0),(.int .i64 0),(.int .i64 0),(.int .i64 0),(.int .i64 0),(.int .i64 0),(.int .i64 0),(.int .i64 0),(.int .i64 0),(.int .i64 0),(.int .i64 0),(.int .i64 0),(.int .i64 0),(.int .i64 0),(.int .i64 0),(.int .i64 0),(.int .i64 0),(.int .i64 0),(.int .i64 0),(.int .i64 0),(.int .i64 0),(.int .i64 0),(.int .i64 0),(.int .i64 0),(.int .i64 0),(.int .i64 0),(.int .i64 0),(.int .i64 0),(.int .i64 0),(.int .i64 0),(.int .i64 0),(.int .i64 0),(.int .i64 0),(.int .i64 0),(.int .i64 0),(.int .i64 0),(.int .i64 0),(.int .i64 0),(.int .i64 0),(.int .i64 0),(.int .i64 0),(.int .i64 0),(.int .i64 0),(.int .i64 0),(.int .i64 0),(.int .i64 0),(.int .i64 0),(.int .i64 0),(.int .i64 0),(.int .i64 0),(.int .i64 0),(.int .i64 0),(.int .i64 0),(.int .i64 0),(.int .i64 0),(.int .i64 0),(.int .i64 0),(.int .i64 0),(.int .i64 0),(.int .i64 0),(.int .i64 0),(.int .i64 0),(.int .i64 0),(.int .i64 0),(.int .i64 0),(.int .i64 0),(.int .i64 0),(.int .i64 0),(.int .i64 0),(.int .i64 0),(.int .i64 0),(.int .i64 0),(.int .i64 0),(.int .i64 0),(.int .i64 0),(.int .i64 0),(.int .i64 0),(.int .i64 0),(.int .i64 0),(.int .i64 0),(.int .i64 0),(.int .i64 0),(.int .i64 0),(.int .i64 0),(.int .i64 0),(.int .i64 0),(.int .i64 0)] 1856 false false)),(207,(.mk (.struct [(0,(4,1)),(1,(3,1)),(2,(205,232))]) 234 [(.bool false),(.int .i64 0),(.int .i64 0),(.int .i64 0),(.int .i64 0),(.int .i64 0),(.int .i64 0),(.int .i64 0),(.int .i64 0),(.int .i64 0),(.int .i64 0),(.int .i64 0),(.int .i64 0),(.int .i64 0),(.int .i64 0),(.int .i64 0),(.int .i64 0),(.int .i64 0),(.int .i64 0),(.int .i64 0),(.int .i64 0),(.int .i64 0),(.int .i64 0),(.int .i64 0),(.int .i64 0),(.int .i64 0),(.int .i64 0),(.int .i64 0),(.int .i64 0),(.int .i64 0),(.int .i64 0),(.int .i64 0),(.int .i64 0),(.int .i64 0),(.int .i64 0),(.int .i64 0),(.int .i64 0),(.int .i64 0),(.int .i64 0),(.int .i64 0),(.int .i64 0),(.int .i64 0),(.int .i64 0),(.int .i64 0),(.int .i64 0),(.int .i64 0),(.int .i64 0),(.int .i64 0),(.int .i64 0),(.int .i64 0),(.int .i64 0),(.int .i64 0),(.int .i64 0),(.int .i64 0),(.int .i64 0),(.int .i64 0),(.int .i64 0),(.int .i64 0),(.int .i64 0),(.int .i64 0),(.int .i64 0),(.int .i64 0),(.int .i64 0),(.int .i64 0),(.int .i64 0),(.int .i64 0),(.int .i64 0),(.int .i64 0),(.int .i64 0),(.int .i64 0),(.int .i64 0),(.int .i64 0),(.int .i64 0),(.int .i64 0),(.int .i64 0),(.int .i64 0),(.int .i64 0),(.int .i64 0),(.int .i64 0),(.int .i64 0),(.int .i64 0),(.int .i64 0),(.int .i64 0),(.int .i64 0),(.int .i64 0),(.int .i64 0),(.int .i64 0),(.int .i64 0),(.int .i64 0),(.int .i64 0),(.int .i64 0),(.int .i64 0),(.int .i64 0),(.int .i64 0),(.int .i64 0),(.int .i64 0),(.int .i64 0),(.int .i64 0),(.int .i64 0),(.int .i64 0),(.int .i64 0),(.int .i64 0),(.int .i64 0),(.int .i64 0),(.int .i64 0),(.int .i64 0),(.int .i64 0),(.int .i64 0),(.int .i64 0),(.int .i64 0),(.int .i64 0),(.int .i64 0),(.int .i64 0),(.int .i64 0),(.int .i64 0),(.int .i64 0),(.int .i64 0),(.int .i64 0),(.int .i64 0),(.int .i64 0),(.int .i64 0),(.int .i64 0),(.int .i64 0),(.int .i64 0),(.int .i64 0),(.int .i64 0),(.int .i64 0),(.int .i64 0),(.int .i64 0),(.int .i64 0),(.int .i64 0),(.int .i64 0),(.int .i64 0),(.int .i64 0),(.int .i64 0),(.int .i64 0),(.int .i64 0),(.int .i64 0),(.int .i64 0),(.int .i64 0),(.int .i64 0),(.int .i64 0),(.int .i64 0),(.int .i64 0),(.int .i64 0),(.int .i64 0),(.int .i64 0),(.int .i64 0),(.int .i64 0),(.int .i64 0),(.int .i64 0),(.int .i64 0),(.int .i64 0),(.int .i64 0),(.int .i64 0),(.int .i64 0),(.int .i64 0),(.int .i64 0),(.int .i64 0),(.int .i64 0),(.int .i64 0),(.int .i64 0),(.int .i64 0),(.int .i64 0),(.int .i64 0),(.int .i64 0),(.int .i64 0),(.int .i64 0),(.int .i64 0),(.int .i64 0),(.int .i64 0),(.int .i64 0),(.int .i64 0),(.int .i64 0),(.int .i64 0),(.int .i64 0),(.int .i64 0),(.int .i64 0),(.int .i64 0),(.int .i64 0),(.int .i64 0),(.int .i64 0),(.int .i64 0),(.int .i64 0),(.int .i64 0),(.int .i64 0),(.int .i64 0),(.int .i64 0),(.int .i64 0),(.int .i64 0),(.int .i64 0),(.int .i64 0),(.int .i64 0),(.int .i64 0),(.int .i64 0),(.int .i64 0),(.int .i64 0),(.int .i64 0),(.int .i64 0),(.int .i64 0),(.int .i64 0),(.int .i64 0),(.int .i64 0),(.int .i64 0),(.int .i64 0),(.int .i64 0),(.int .i64 0),(.int .i64 0),(.int .i64 0),(.int .i64 0),(.int .i64 0),(.int .i64 0),(.int .i64 0),(.int .i64 0),(.int .i64 0),(.int .i64 0),(.int .i64 0),(.int .i64 0),(.int .i64 0),(.int .i64 0),(.int .i64 0),(.int .i64 0),(.int .i64 0),(.int .i64 0),(.int .i64 0),(.int .i64 0),(.int .i64 0),(.int .i64 0),(.int .i64 0),(.int .i64 0),(.int .i64 0),(.int .i64 0),(.int .i64 0),(.int .i64 0)] 1872 true true)),(238,(.mk (.slice 5 1) 1 [(.slice .none 0 0)] 24 false false)),(255,(.mk .func 1 [.nilFunc] 8 false false)),(256,(.mk (.ptr 5) 1 [(.pointer .none)] 8 false false)),(259,(.mk (.int .u64) 1 [(.int .u64 0)] 8 false false)),(279,(.mk (.array 20 259 1) 20 [(.int .u64 0),(.int .u64 0),(.int .u64 0),(.int .u64 0),(.int .u64 0),(.int .u64 0),(.int .u64 0),(.int .u64 0),(.int .u64 0),(.int .u64 0),(.int .u64 0),(.int .u64 0),(.int .u64 0),(.int .u64 0),(.int .u64 0),(.int .u64 0),(.int .u64 0),(.int .u64 0),(.int .u64 0),(.int .u64 0)] 160 false false)),(280,(.mk (.int .u32) 1 [(.int .u32 0)] 4 false false)),(308,(.mk (.array 0 16 1) 0 [] 0 false false)),(310,(.mk (.struct [(0,(308,0))]) 0 [] 0 false true)),(312,(.mk (.int .u8) 1 [(.int .u8 0)] 1 false false)),(313,(.mk (.int .u8) 1 [(.int .u8 0)] 1 false false)),(314,(.mk .func 1 [.nilFunc] 8 false false)),(315,(.mk (.int .i32) 1 [(.int .i32 0)] 4 false false)),(316,(.mk (.int .i32) 1 [(.int .i32 0)] 4 false false)),(318,(.mk (.struct [(0,(12,1)),(1,(12,1)),(2,(280,1)),(3,(312,1)),(4,(5,1)),(5,(5,1)),(6,(313,1)),(7,(314,1)),(8,(256,1)),(9,(315,1)),(10,(316,1))]) 11 [(.int .u64 0),(.int .u64 0),(.int .u32 0),(.int .u8 0),(.int .u8 0),(.int .u8 0),(.int .u8 0),.nilFunc,(.pointer .none),(.int .i32 0),(.int .i32 0)] 48 false true))]
noncomputable def qc:List (Nat×AV):=[(2,(.eptr [.int .u64,.int .u64,.int .u64,.int .u64,.int .u64,.int .u64,.int .u64,.int .u64,.int .u64,.int .u64,.int .u64,.int .u64,.int .u64,.int .u64,.int .u64,.int .u64,.int .u64,.int .u64,.int .u64,.int .u64] [[.i 1,.i 10,.i 100,.i 1000,.i 10000,.i 100000,.i 1000000,.i 10000000,.i 100000000,.i 1000000000,.i 10000000000,.i 100000000000,.i 1000000000000,.i 10000000000000,.i 100000000000000,.i 1000000000000000,.i 10000000000000000,.i 100000000000000000,.i 1000000000000000000,.i 10000000000000000000]] 0 0))]
theorem q9:q5L.map (fun x=>qnr Tryz.prog x.1)=q5L.map (·.2):=by kernel_rfl
theorem qe:Tryz.prog.follows .mixedOrders=true:=by kernel_rfl
noncomputable def qf(s:List (FuncId×(List AV→List Blk→Tree (AV×List Blk))))(b:List (FuncId×Func))(l:List ((FuncId×Nat)×(St→Tree (Ex×St))))(n:Nat):Env:=⟨q5L,qc,s,b,l,n,[],[],[]⟩
def qpz:Go.Shelf.Ren:=⟨fun|45=>22|n=>n,fun|22=>53|23=>65|n=>n,fun n=>n⟩
theorem qeE:qat Tryz.prog 22 65:=qrD (ρ:=qpz) (by kernel_rfl) ⟨ "slices.Delete[[]metrolab/api.Disc,metrolab/api.Disc]",by decide,Tryz.func22.trans (congrArg some (by kernel_rfl))⟩ (q0m Tryz.func22 (by kernel_rfl) (by kernel_rfl)) Tryz.underlying0 Tryz.isAgg0 Tryz.sizeOf0 Tryz.zeroValue0 Tryz.underlying3 Tryz.isAgg3 Tryz.sizeOf3 Tryz.zeroValue3 Tryz.underlying4 Tryz.isAgg4 Tryz.sizeOf4 Tryz.zeroValue4 Tryz.underlying53 Tryz.isAgg53 Tryz.sizeOf53 Tryz.zeroValue53 _ Tryz.zeroValue65 (by kernel_rfl) (by kernel_rfl)
def q0S:FIn:=⟨[.str,.str],[]⟩
def q0Y:List FOut:=[⟨(.int .i64),[],none⟩]
noncomputable def vb:List PV→TR:=qoR
theorem q4B:zF Tryz.prog qc 199 (qa q0S q0Y vb):=qpd Tryz.lays219 (q0m Tryz.func199 (by kernel_rfl) (by kernel_rfl))
def yA:FIn:=⟨[.str,.str],[]⟩
def yB:List FOut:=[⟨(.tuple [.str,.str,.bool]),[],none⟩]
noncomputable def q1Y:=qf [(199,qa q0S q0Y vb)] [(167,Tryz.f167)] [] 0
noncomputable def zV:=qw q1Y 167 Tryz.f167 true yA yB
theorem q5D:zF Tryz.prog qc 167 (qa yA yB zV):=sk q1Y qe q9 (alc q4B aln) aln (b1 Tryz.func167) Tryz.func167
def q9Z:FIn:=⟨[.str,.str],[]⟩
def qa9:List FOut:=[⟨(.tuple [.str,.str,.bool]),[],none⟩]
noncomputable def qeS:=qf [(167,qa yA yB zV)] [(137,Tryz.f137)] [] 0
noncomputable def q49:=qw qeS 137 Tryz.f137 true q9Z qa9
theorem qid:zF Tryz.prog qc 137 (qa q9Z qa9 q49):=sk qeS qe q9 (alc q5D aln) aln (b1 Tryz.func137) Tryz.func137
def q15:FIn:=⟨[.str],[]⟩
def q14:List FOut:=[⟨(.tuple [.str,.str,.bool]),[],none⟩]
noncomputable def qjr:=qf [(137,qa q9Z qa9 q49)] [(113,Tryz.f113)] [] 0
noncomputable def qK:=qw qjr 113 Tryz.f113 true q15 q14
theorem q0x:zF Tryz.prog qc 113 (qa q15 q14 qK):=sk qjr qe q9 (alc qid aln) aln (b1 Tryz.func113) Tryz.func113
def zI:FIn:=⟨[.str,.str],[]⟩
def zJ:List FOut:=[⟨.bool,[],none⟩]
noncomputable def uG:=qf [] [(187,Tryz.f187)] [] 0
noncomputable def qE:=qw uG 187 Tryz.f187 true zI zJ
theorem yj:zF Tryz.prog qc 187 (qa zI zJ qE):=sk uG qe q9 aln aln (b1 Tryz.func187) Tryz.func187
def vl:FIn:=⟨[.str,.str],[]⟩
def vr:List FOut:=[⟨.str,[],none⟩]
noncomputable def yO:=qf [(187,qa zI zJ qE)] [(168,Tryz.f168)] [] 0
noncomputable def zb:=qw yO 168 Tryz.f168 true vl vr
theorem q2g:zF Tryz.prog qc 168 (qa vl vr zb):=sk yO qe q9 (alc yj aln) aln (b1 Tryz.func168) Tryz.func168
def vz:FIn:=⟨[.str,.str],[]⟩
def vu:List FOut:=[⟨.str,[],none⟩]
noncomputable def q5X:=qf [(168,qa vl vr zb)] [(138,Tryz.f138)] [] 0
noncomputable def qN:=qw q5X 138 Tryz.f138 true vz vu
theorem jO:zF Tryz.prog qc 138 (qa vz vu qN):=sk q5X qe q9 (alc q2g aln) aln (b1 Tryz.func138) Tryz.func138
def qdJ:FIn:=⟨[.str,.str],[]⟩
def qdI:List FOut:=[⟨.str,[],none⟩]
noncomputable def q5b:List PV→TR:=quO
theorem qhc:zF Tryz.prog qc 139 (qa qdJ qdI q5b):=qrP Tryz.lays160 (q0m Tryz.func139 (by kernel_rfl) (by kernel_rfl)) (by kernel_rfl)
def yY:FIn:=⟨[.str],[]⟩
def yP:List FOut:=[⟨(.int .i64),[],none⟩]
noncomputable def qeN:=qf [(138,qa vz vu qN),(139,qa qdJ qdI q5b)] [(114,Tryz.f114)] [] 0
noncomputable def z6:=qw qeN 114 Tryz.f114 true yY yP
theorem yH:zF Tryz.prog qc 114 (qa yY yP z6):=sk qeN qe q9 (alc jO (alc qhc aln)) aln (b1 Tryz.func114) Tryz.func114
def uh:FIn:=⟨[(.imm [.str])],[]⟩
def ug:List FOut:=[⟨(.int .i64),[],none⟩]
def qad:Tmpl:={ t:=(qP 6 ((.imm [.str])::(.int .i64)::(.int .i64)::qP 9 [])),h:=[] }
def qab:List Out:=[⟨(.exit 0),{ t:=(qP 18 []),h:=[] }⟩,⟨.ret,{ t:=(.any::.any::(.int .i64)::qP 15 []),h:=[] }⟩]
noncomputable def q6J:=qf [(114,qa yY yP z6)] [(140,Tryz.f140)] [] 0
noncomputable def q3F:=jD q6J 140 Tryz.f140 3 qad qab
theorem qhX:qp Tryz.prog qc q6J.nimp (qC Tryz.prog q6J.iter 140) (zH Tryz.f140 3) (qo qad qab (qj q3F)):=
 gk q6J qe q9 (alc yH aln) aln (b1 Tryz.func140) Tryz.func140
noncomputable def qjw:=qf [(114,qa yY yP z6)] [(140,Tryz.f140)] [((140,3),qo qad qab (qj q3F))] 0
noncomputable def zE:=qw qjw 140 Tryz.f140 true uh ug
theorem jY:zF Tryz.prog qc 140 (qa uh ug zE):=sk qjw qe q9 (alc yH aln) (alc (lk Tryz.func140 qhX) aln) (b1 Tryz.func140) Tryz.func140
def q5g:FIn:=⟨[.str],[]⟩
def q5u:List FOut:=[⟨(.int .i64),[],none⟩]
noncomputable def qhq:=qf [] [(141,Tryz.f141)] [] 0
noncomputable def jU:=qw qhq 141 Tryz.f141 true q5g q5u
theorem q7T:zF Tryz.prog qc 141 (qa q5g q5u jU):=sk qhq qe q9 aln aln (b1 Tryz.func141) Tryz.func141
def q9p:FIn:=⟨[.str,.str],[]⟩
def q9s:List FOut:=[⟨(.int .i64),[],none⟩]
noncomputable def q1s:List PV→TR:=qig
theorem qda:zF Tryz.prog qc 176 (qa q9p q9s q1s):=qmp Tryz.lays106 (q0m Tryz.func176 (by kernel_rfl) (by kernel_rfl))
def qaS:FIn:=⟨[.str,.str],[]⟩
def qaP:List FOut:=[⟨(.int .i64),[],none⟩]
noncomputable def qfW:=qf [(176,qa q9p q9s q1s)] [(142,Tryz.f142)] [] 0
noncomputable def q3R:=qw qfW 142 Tryz.f142 true qaS qaP
theorem qi4:zF Tryz.prog qc 142 (qa qaS qaP q3R):=sk qfW qe q9 (alc qda aln) aln (b1 Tryz.func142) Tryz.func142
def q77:FIn:=⟨[.str,.str],[]⟩
def q7g:List FOut:=[⟨(.tuple [(.int .i64),(.int .i64)]),[],none⟩]
noncomputable def qbO:=qf [(138,qa vz vu qN),(140,qa uh ug zE),(141,qa q5g q5u jU),(142,qa qaS qaP q3R)] [(115,Tryz.f115)] [] 0
noncomputable def q1n:=qw qbO 115 Tryz.f115 true q77 q7g
theorem qf1:zF Tryz.prog qc 115 (qa q77 q7g q1n):=sk qbO qe q9 (alc jO (alc jY (alc q7T (alc qi4 aln)))) aln (b1 Tryz.func115) Tryz.func115
def qdn:FIn:=⟨[(.int .i64)],[]⟩
def qdW:List FOut:=[⟨.str,[],none⟩]
noncomputable def q2f:List PV→TR:=qtb
theorem qgz:zF Tryz.prog qc 122 (qa qdn qdW q2f):=qrU Tryz.laysM171 (q0m Tryz.func122 (by kernel_rfl) (by kernel_rfl)) (by kernel_rfl) (by unfold qc;exact List.mem_cons_self)
def q4G:FIn:=⟨[(.int .i64)],[]⟩
def q4s:List FOut:=[⟨.str,[],none⟩]
noncomputable def qlK:=qf [(122,qa qdn qdW q2f)] [(92,Tryz.f92)] [] 0
noncomputable def wU:=qw qlK 92 Tryz.f92 true q4G q4s
theorem q47:zF Tryz.prog qc 92 (qa q4G q4s wU):=sk qlK qe q9 (alc qgz aln) aln (b1 Tryz.func92) Tryz.func92
def q4R:FIn:=⟨[.str],[]⟩
def q4W:List FOut:=[⟨(.tuple [(.int .i64),.any]),[],none⟩]
noncomputable def vg:List PV→TR:=qut
theorem q4t:zF Tryz.prog qc 177 (qa q4R q4W vg):=qrJ Tryz.lays172 (q0m Tryz.func177 (by kernel_rfl) (by kernel_rfl))
def zi:FIn:=⟨[(.ptr 0 0)],[.big [.bool,(.int .i64)] .i64 232]⟩
def zj:List FOut:=[⟨(.ptr 0 0),[.big [.bool,(.int .i64)] .i64 232],none⟩]
def q0F:Tmpl:={ t:=((.ptr 0 0)::qP 28 []),h:=[.big [.bool,(.int .i64)] .i64 232] }
def q0A:List Out:=[⟨(.exit 0),{ t:=((.ptr 0 0)::qP 28 []),h:=[.big [.bool,(.int .i64)] .i64 232] }⟩]
noncomputable def yp:=qf [] [(178,Tryz.f178)] [] 1
noncomputable def vJ:=jD yp 178 Tryz.f178 2 q0F q0A
theorem q9f:qp Tryz.prog qc yp.nimp (qC Tryz.prog yp.iter 178) (zH Tryz.f178 2) (qo q0F q0A (qj vJ)):=
 gk yp qe q9 aln aln (b1 Tryz.func178) Tryz.func178
noncomputable def q5Z:=qf [] [(178,Tryz.f178)] [((178,2),qo q0F q0A (qj vJ))] 1
noncomputable def qv:=qw q5Z 178 Tryz.f178 false zi zj
theorem zt:zF Tryz.prog qc 178 (qa zi zj qv):=qgC (E:=q5Z) qe ⟨q9u q9,⟨aln,aln⟩,(alc (lk Tryz.func178 q9f) aln),(b1 Tryz.func178)⟩ Tryz.func178 (by kernel_rfl) (by kernel_rfl) (fun _=>rfl)
def u7:FIn:=⟨[.str],[]⟩
def yS:List FOut:=[⟨(.ptr 0 0),[.big [.bool,(.int .i64)] .i64 232],none⟩]
def q8U:Tmpl:={ t:=(.any::.any::.any::.str::(.ptr 0 0)::qP 43 []),h:=[.big [.bool,(.int .i64)] .i64 232] }
def q9e:List Out:=[⟨(.exit 0),{ t:=(qP 4 ((.ptr 0 0)::qP 43 [])),h:=[.big [.bool,(.int .i64)] .i64 232] }⟩]
noncomputable def q59:=qf [(138,qa vz vu qN),(177,qa q4R q4W vg),(178,qa zi zj qv)] [(143,Tryz.f143)] [] 0
noncomputable def q2k:=jD q59 143 Tryz.f143 5 q8U q9e
theorem qh3:qp Tryz.prog qc q59.nimp (qC Tryz.prog q59.iter 143) (zH Tryz.f143 5) (qo q8U q9e (qj q2k)):=
 gk q59 qe q9 (alc jO (alc q4t (alc zt aln))) aln (b1 Tryz.func143) Tryz.func143
noncomputable def qhL:=qf [(138,qa vz vu qN),(177,qa q4R q4W vg),(178,qa zi zj qv)] [(143,Tryz.f143)] [((143,5),qo q8U q9e (qj q2k))] 0
noncomputable def zr:=qw qhL 143 Tryz.f143 false u7 yS
theorem yn:zF Tryz.prog qc 143 (qa u7 yS zr):=qgC (E:=qhL) qe ⟨q9u q9,⟨(alc jO (alc q4t (alc zt aln))),aln⟩,(alc (lk Tryz.func143 qh3) aln),(b1 Tryz.func143)⟩ Tryz.func143 (by kernel_rfl) (by kernel_rfl) (fun _=>rfl)
def vO:FIn:=⟨[(.ptr 0 0),(.ptr 1 0)],[.big [.bool,(.int .i64)] .i64 232,.big [.bool,(.int .i64)] .i64 232]⟩
def vL:List FOut:=[⟨(.int .i64),[.big [.bool,(.int .i64)] .i64 232,.big [.bool,(.int .i64)] .i64 232],none⟩]
def q1c:Tmpl:={ t:=((.ptr 0 0)::(.ptr 1 0)::.any::.any::.any::(.int .i64)::qP 53 []),h:=[.big [.bool,(.int .i64)] .i64 232,.big [.bool,(.int .i64)] .i64 232] }
def q10:List Out:=[⟨(.exit 0),{ t:=(qP 59 []),h:=[.big [.bool,(.int .i64)] .i64 232,.big [.bool,(.int .i64)] .i64 232] }⟩,⟨.ret,{ t:=(qP 4 ((.int .i64)::qP 54 [])),h:=[.big [.bool,(.int .i64)] .i64 232,.big [.bool,(.int .i64)] .i64 232] }⟩]
noncomputable def u6:=qf [] [(179,Tryz.f179)] [] 2
noncomputable def j6:=jD u6 179 Tryz.f179 6 q1c q10
theorem q9g:qp Tryz.prog qc u6.nimp (qC Tryz.prog u6.iter 179) (zH Tryz.f179 6) (qo q1c q10 (qj j6)):=
 gk u6 qe q9 aln aln (b1 Tryz.func179) Tryz.func179
noncomputable def q7s:=qf [] [(179,Tryz.f179)] [((179,6),qo q1c q10 (qj j6))] 2
noncomputable def zu:=qw q7s 179 Tryz.f179 true vO vL
theorem yt:zF Tryz.prog qc 179 (qa vO vL zu):=sk q7s qe q9 aln (alc (lk Tryz.func179 q9g) aln) (b1 Tryz.func179) Tryz.func179
def q0p:FIn:=⟨[(.ptr 0 0),(.ptr 1 0)],[.big [.bool,(.int .i64)] .i64 232,.big [.bool,(.int .i64)] .i64 232]⟩
def q0l:List FOut:=[⟨(.int .i64),[.big [.bool,(.int .i64)] .i64 232,.big [.bool,(.int .i64)] .i64 232],none⟩]
noncomputable def qbc:=qf [] [(180,Tryz.f180),(207,Tryz.f207)] [] 2
noncomputable def js:=qw qbc 180 Tryz.f180 true q0p q0l
theorem q32:zF Tryz.prog qc 180 (qa q0p q0l js):=sk qbc qe q9 aln aln (alc (bk Tryz.func180) (alc (bk Tryz.func207) aln)) Tryz.func180
def zZ:FIn:=⟨[(.ptr 0 0),(.ptr 1 0),(.int .i64),(.int .i64)],[.big [.bool,(.int .i64)] .i64 232,.big [.bool,(.int .i64)] .i64 232]⟩
def we:List FOut:=[⟨(.tuple []),[.big [.bool,(.int .i64)] .i64 232,.big [.bool,(.int .i64)] .i64 232],none⟩]
def q23:Tmpl:={ t:=((.ptr 0 0)::(.ptr 1 0)::(.int .i64)::(.int .i64)::qP 4 ((.int .i64)::(.int .i64)::qP 73 [])),h:=[.big [.bool,(.int .i64)] .i64 232,.big [.bool,(.int .i64)] .i64 232] }
def q2b:List Out:=[⟨(.exit 0),{ t:=((.ptr 0 0)::qP 82 []),h:=[.big [.bool,(.int .i64)] .i64 232,.big [.bool,(.int .i64)] .i64 232] }⟩]
noncomputable def uI:=qf [(178,qa zi zj qv)] [(181,Tryz.f181)] [] 2
noncomputable def vw:=jD uI 181 Tryz.f181 3 q23 q2b
theorem qam:qp Tryz.prog qc uI.nimp (qC Tryz.prog uI.iter 181) (zH Tryz.f181 3) (qo q23 q2b (qj vw)):=
 gk uI qe q9 (alc zt aln) aln (b1 Tryz.func181) Tryz.func181
noncomputable def q89:=qf [(178,qa zi zj qv)] [(181,Tryz.f181)] [((181,3),qo q23 q2b (qj vw))] 2
noncomputable def qF:=qw q89 181 Tryz.f181 true zZ we
theorem wV:zF Tryz.prog qc 181 (qa zZ we qF):=sk q89 qe q9 (alc zt aln) (alc (lk Tryz.func181 qam) aln) (b1 Tryz.func181) Tryz.func181
def kF:FIn:=⟨[(.ptr 0 0),(.ptr 1 0)],[.big [.bool,(.int .i64)] .i64 232,.big [.bool,(.int .i64)] .i64 232]⟩
def kv:List FOut:=[⟨(.tuple [(.ptr 2 0),(.ptr 3 0)]),[.big [.bool,(.int .i64)] .i64 232,.big [.bool,(.int .i64)] .i64 232,.big [.bool,(.int .i64)] .i64 232,.big [.bool,(.int .i64)] .i64 232],none⟩]
def q46:Tmpl:={ t:=((.ptr 0 0)::(.ptr 1 0)::qP 4 ((.ptr 2 0)::(.ptr 3 0)::(.int .i64)::(.int .i64)::qP 80 [])),h:=[.big [.bool,(.int .i64)] .i64 232,.big [.bool,(.int .i64)] .i64 232,.big [.bool,(.int .i64)] .i64 232,.big [.bool,(.int .i64)] .i64 232] }
def q3S:List Out:=[⟨(.exit 2),{ t:=((.ptr 0 0)::(.ptr 1 0)::qP 4 ((.ptr 2 0)::(.ptr 3 0)::(.int .i64)::(.int .i64)::qP 80 [])),h:=[.big [.bool,(.int .i64)] .i64 232,.big [.bool,(.int .i64)] .i64 232,.big [.bool,(.int .i64)] .i64 232,.big [.bool,(.int .i64)] .i64 232] }⟩]
noncomputable def q0X:=qf [(178,qa zi zj qv),(179,qa vO vL zu),(180,qa q0p q0l js),(181,qa zZ we qF)] [(144,Tryz.f144)] [] 2
noncomputable def jf:=jD q0X 144 Tryz.f144 14 q46 q3S
theorem qcp:qp Tryz.prog qc q0X.nimp (qC Tryz.prog q0X.iter 144) (zH Tryz.f144 14) (qo q46 q3S (qj jf)):=
 gk q0X qe q9 (alc zt (alc yt (alc q32 (alc wV aln)))) aln (b1 Tryz.func144) Tryz.func144
def q4C:Tmpl:={ t:=((.ptr 0 0)::(.ptr 1 0)::qP 4 ((.ptr 2 0)::(.ptr 3 0)::(.int .i64)::qP 81 [])),h:=[.big [.bool,(.int .i64)] .i64 232,.big [.bool,(.int .i64)] .i64 232,.big [.bool,(.int .i64)] .i64 232,.big [.bool,(.int .i64)] .i64 232] }
def q4m:List Out:=[⟨(.exit 0),{ t:=(qP 6 ((.ptr 2 0)::(.ptr 3 0)::qP 82 [])),h:=[.big [.bool,(.int .i64)] .i64 232,.big [.bool,(.int .i64)] .i64 232,.big [.bool,(.int .i64)] .i64 232,.big [.bool,(.int .i64)] .i64 232] }⟩]
noncomputable def q1u:=qf [(178,qa zi zj qv),(179,qa vO vL zu),(180,qa q0p q0l js),(181,qa zZ we qF)] [(144,Tryz.f144)] [((144,14),qo q46 q3S (qj jf))] 2
noncomputable def kJ:=jD q1u 144 Tryz.f144 4 q4C q4m
theorem qdc:qp Tryz.prog qc q1u.nimp (qC Tryz.prog q1u.iter 144) (zH Tryz.f144 4) (qo q4C q4m (qj kJ)):=
 gk q1u qe q9 (alc zt (alc yt (alc q32 (alc wV aln)))) (alc (lk Tryz.func144 qcp) aln) (b1 Tryz.func144) Tryz.func144
noncomputable def qce:=qf [(178,qa zi zj qv),(179,qa vO vL zu),(180,qa q0p q0l js),(181,qa zZ we qF)] [(144,Tryz.f144)] [((144,4),qo q4C q4m (qj kJ))] 2
noncomputable def wA:=qw qce 144 Tryz.f144 false kF kv
theorem q0M:zF Tryz.prog qc 144 (qa kF kv wA):=qgC (E:=qce) qe ⟨q9u q9,⟨(alc zt (alc yt (alc q32 (alc wV aln)))),aln⟩,(alc (lk Tryz.func144 qdc) aln),(b1 Tryz.func144)⟩ Tryz.func144 (by kernel_rfl) (by kernel_rfl) (fun _=>rfl)
def yd:FIn:=⟨[(.ptr 0 0)],[.big [.bool,(.int .i64)] .i64 232]⟩
def yf:List FOut:=[⟨.str,[.big [.bool,(.int .i64)] .i64 232],none⟩]
noncomputable def qG:List PV→TR:=quN
theorem jG:zF Tryz.prog qc 145 (qa yd yf qG):=qsk (by unfold qc;exact List.mem_cons_self)
def q78:FIn:=⟨[.str,.str],[]⟩
def q7k:List FOut:=[⟨(.tuple [.str,(.int .i64)]),[],none⟩]
def q8w:Tmpl:={ t:=(qP 9 ((.int .i64)::(.int .i64)::qP 61 [])),h:=[] }
def q95:List Out:=[⟨(.exit 2),{ t:=(qP 9 ((.int .i64)::qP 62 [])),h:=[] }⟩]
noncomputable def q4X:=qf [(92,qa q4G q4s wU),(140,qa uh ug zE),(143,qa u7 yS zr),(144,qa kF kv wA),(145,qa yd yf qG)] [(116,Tryz.f116)] [] 0
noncomputable def q0q:=jD q4X 116 Tryz.f116 14 q8w q95
theorem qgL:qp Tryz.prog qc q4X.nimp (qC Tryz.prog q4X.iter 116) (zH Tryz.f116 14) (qo q8w q95 (qj q0q)):=
 gk q4X qe q9 (alc q47 (alc jY (alc yn (alc q0M (alc jG aln))))) aln (b1 Tryz.func116) Tryz.func116
def qa7:Tmpl:={ t:=(qP 7 ((.ptr 1 0)::(.ptr 2 0)::qP 63 [])),h:=[.dead,.big [.bool,(.int .i64)] .i64 232,.big [.bool,(.int .i64)] .i64 232],sw:=[(7,1),(8,2)],swn:=0 }
def qaC:List Out:=[⟨(.exit 0),{ t:=(qP 7 ((.ptr 1 0)::qP 64 [])),h:=[.dead,.big [.bool,(.int .i64)] .i64 232] }⟩,⟨.ret,{ t:=(qP 4 (.str::(.int .i64)::qP 66 [])),h:=[] }⟩]
noncomputable def q6p:=qf [(92,qa q4G q4s wU),(140,qa uh ug zE),(143,qa u7 yS zr),(144,qa kF kv wA),(145,qa yd yf qG)] [(116,Tryz.f116)] [((116,14),qo q8w q95 (qj q0q))] 0
noncomputable def q3X:=jD q6p 116 Tryz.f116 7 qa7 qaC
theorem qi2:qp Tryz.prog qc q6p.nimp (qC Tryz.prog q6p.iter 116) (zH Tryz.f116 7) (qo qa7 qaC (qj q3X)):=
 gk q6p qe q9 (alc q47 (alc jY (alc yn (alc q0M (alc jG aln))))) (alc (lk Tryz.func116 qgL) aln) (b1 Tryz.func116) Tryz.func116
noncomputable def qiL:=qf [(92,qa q4G q4s wU),(140,qa uh ug zE),(143,qa u7 yS zr),(144,qa kF kv wA),(145,qa yd yf qG)] [(116,Tryz.f116)] [((116,7),qo qa7 qaC (qj q3X))] 0
noncomputable def q1g:=qw qiL 116 Tryz.f116 true q78 q7k
theorem q8x:zF Tryz.prog qc 116 (qa q78 q7k q1g):=sk qiL qe q9 (alc q47 (alc jY (alc yn (alc q0M (alc jG aln))))) (alc (lk Tryz.func116 qi2) aln) (b1 Tryz.func116) Tryz.func116
def q1A:FIn:=⟨[.str],[]⟩
def q1C:List FOut:=[⟨(.int .i64),[],none⟩]
noncomputable def qf6:=qf [(113,qa q15 q14 qK),(114,qa yY yP z6),(115,qa q77 q7g q1n),(116,qa q78 q7k q1g)] [(79,Tryz.f79)] [] 0
noncomputable def vt:=qw qf6 79 Tryz.f79 true q1A q1C
theorem q2S:zF Tryz.prog qc 79 (qa q1A q1C vt):=sk qf6 qe q9 (alc q0x (alc yH (alc qf1 (alc q8x aln)))) aln (b1 Tryz.func79) Tryz.func79
def q1N:FIn:=⟨[(.agg [.str,.str,.str])],[]⟩
def q1G:List FOut:=[⟨(.int .i64),[],none⟩]
def q7e:Tmpl:={ t:=(.any::(.ptr 0 0)::qP 12 ((.vec 1)::(.int .i64)::(.int .i64)::qP 13 [])),h:=[.cells [.str,.str,.str],.vec 61 [.str]] }
def q7m:List Out:=[⟨(.exit 0),{ t:=(.any::(.ptr 0 0)::qP 28 []),h:=[.cells [.str,.str,.str]] }⟩,⟨.ret,{ t:=(.any::.any::(.int .i64)::qP 27 []),h:=[] }⟩]
noncomputable def q3J:=qf [(79,qa q1A q1C vt)] [(68,Tryz.f68)] [] 0
noncomputable def q11:=jD q3J 68 Tryz.f68 3 q7e q7m
theorem qf4:qp Tryz.prog qc q3J.nimp (qC Tryz.prog q3J.iter 68) (zH Tryz.f68 3) (qo q7e q7m (qj q11)):=
 gk q3J qe q9 (alc q2S aln) aln (b1 Tryz.func68) Tryz.func68
noncomputable def qfB:=qf [(79,qa q1A q1C vt)] [(68,Tryz.f68)] [((68,3),qo q7e q7m (qj q11))] 0
noncomputable def jI:=qw qfB 68 Tryz.f68 true q1N q1G
theorem q2K:zF Tryz.prog qc 68 (qa q1N q1G jI):=sk qfB qe q9 (alc q2S aln) (alc (lk Tryz.func68 qf4) aln) (b1 Tryz.func68) Tryz.func68
def vC:FIn:=⟨[(.imm [.str,.str,.str])],[]⟩
def vD:List FOut:=[⟨(.int .i64),[],none⟩]
def q96:Tmpl:={ t:=((.imm [.str,.str,.str])::qP 8 ((.imm [.str,.str,.str])::(.int .i64)::(.int .i64)::qP 12 [])),h:=[] }
def q8P:List Out:=[⟨(.exit 0),{ t:=((.imm [.str,.str,.str])::qP 23 []),h:=[] }⟩,⟨.ret,{ t:=(.any::.any::(.int .i64)::qP 21 []),h:=[] }⟩]
noncomputable def q53:=qf [(68,qa q1N q1G jI)] [(45,Tryz.f45)] [] 0
noncomputable def q2E:=jD q53 45 Tryz.f45 6 q96 q8P
theorem qgF:qp Tryz.prog qc q53.nimp (qC Tryz.prog q53.iter 45) (zH Tryz.f45 6) (qo q96 q8P (qj q2E)):=
 gk q53 qe q9 (alc q2K aln) aln (b1 Tryz.func45) Tryz.func45
noncomputable def qhB:=qf [(68,qa q1N q1G jI)] [(45,Tryz.f45)] [((45,6),qo q96 q8P (qj q2E))] 0
noncomputable def zq:=qw qhB 45 Tryz.f45 true vC vD
theorem wC:zF Tryz.prog qc 45 (qa vC vD zq):=sk qhB qe q9 (alc q2K aln) (alc (lk Tryz.func45 qgF) aln) (b1 Tryz.func45) Tryz.func45
def q41:FIn:=⟨[.str,.str],[]⟩
def q3x:List FOut:=[⟨(.tuple [(.int .i64),(.int .i64),.bool]),[],none⟩]
noncomputable def qg6:=qf [(177,qa q4R q4W vg)] [(152,Tryz.f152)] [] 0
noncomputable def jJ:=qw qg6 152 Tryz.f152 true q41 q3x
theorem q5M:zF Tryz.prog qc 152 (qa q41 q3x jJ):=sk qg6 qe q9 (alc q4t aln) aln (b1 Tryz.func152) Tryz.func152
def q55:FIn:=⟨[(.int .i64)],[]⟩
def q52:List FOut:=[⟨(.tuple [.str,(.int .i64)]),[],none⟩]
noncomputable def qdA:=qf [(92,qa q4G q4s wU)] [(153,Tryz.f153)] [] 0
noncomputable def uu:=qw qdA 153 Tryz.f153 true q55 q52
theorem q9k:zF Tryz.prog qc 153 (qa q55 q52 uu):=sk qdA qe q9 (alc q47 aln) aln (b1 Tryz.func153) Tryz.func153
def q3V:FIn:=⟨[(.ptr 0 0),(.ptr 1 0)],[.big [.bool,(.int .i64)] .i64 232,.big [.bool,(.int .i64)] .i64 232]⟩
def q42:List FOut:=[⟨(.ptr 2 0),[.big [.bool,(.int .i64)] .i64 232,.big [.bool,(.int .i64)] .i64 232,.big [.bool,(.int .i64)] .i64 232],none⟩]
def q28:Tmpl:={ t:=((.ptr 0 0)::(.ptr 1 0)::.any::.any::.any::(.ptr 2 0)::qP 15 ((.int .i64)::(.int .i64)::qP 14 [])),h:=[.big [.bool,(.int .i64)] .i64 232,.big [.bool,(.int .i64)] .i64 232,.big [.bool,(.int .i64)] .i64 232] }
def q2c:List Out:=[⟨(.exit 0),{ t:=(qP 5 ((.ptr 2 0)::qP 31 [])),h:=[.big [.bool,(.int .i64)] .i64 232,.big [.bool,(.int .i64)] .i64 232,.big [.bool,(.int .i64)] .i64 232] }⟩]
noncomputable def uH:=qf [(181,qa zZ we qF)] [(154,Tryz.f154)] [] 2
noncomputable def jz:=jD uH 154 Tryz.f154 4 q28 q2c
theorem qah:qp Tryz.prog qc uH.nimp (qC Tryz.prog uH.iter 154) (zH Tryz.f154 4) (qo q28 q2c (qj jz)):=
 gk uH qe q9 (alc wV aln) aln (b1 Tryz.func154) Tryz.func154
noncomputable def q8u:=qf [(181,qa zZ we qF)] [(154,Tryz.f154)] [((154,4),qo q28 q2c (qj jz))] 2
noncomputable def yT:=qw q8u 154 Tryz.f154 false q3V q42
theorem qbU:zF Tryz.prog qc 154 (qa q3V q42 yT):=qgC (E:=q8u) qe ⟨q9u q9,⟨(alc wV aln),aln⟩,(alc (lk Tryz.func154 qah) aln),(b1 Tryz.func154)⟩ Tryz.func154 (by kernel_rfl) (by kernel_rfl) (fun _=>rfl)
def jH:FIn:=⟨[(.ptr 0 0)],[.big [.bool,(.int .i64)] .i64 232]⟩
def jE:List FOut:=[⟨(.tuple [.str,(.int .i64)]),[.big [.bool,(.int .i64)] .i64 232],none⟩]
noncomputable def q5V:=qf [(114,qa yY yP z6),(145,qa yd yf qG)] [(155,Tryz.f155)] [] 1
noncomputable def zC:=qw q5V 155 Tryz.f155 true jH jE
theorem q06:zF Tryz.prog qc 155 (qa jH jE zC):=sk q5V qe q9 (alc yH (alc jG aln)) aln (b1 Tryz.func155) Tryz.func155
def q71:FIn:=⟨[.str,.str],[]⟩
def q7f:List FOut:=[⟨(.tuple [.str,(.int .i64)]),[],none⟩]
noncomputable def qiM:=qf [(140,qa uh ug zE),(143,qa u7 yS zr),(152,qa q41 q3x jJ),(153,qa q55 q52 uu),(154,qa q3V q42 yT),(155,qa jH jE zC)] [(125,Tryz.f125)] [] 0
noncomputable def q2Z:=qw qiM 125 Tryz.f125 true q71 q7f
theorem q91:zF Tryz.prog qc 125 (qa q71 q7f q2Z):=sk qiM qe q9 (alc jY (alc yn (alc q5M (alc q9k (alc qbU (alc q06 aln)))))) aln (b1 Tryz.func125) Tryz.func125
def vR:FIn:=⟨[(.ptr 0 0),(.fn 125 [] []),.str,.str],[.cells [(.int .i64)]]⟩
def vY:List FOut:=[⟨.str,[.cells [(.int .i64)]],none⟩]
noncomputable def q2D:=qf [(125,qa q71 q7f q2Z)] [(124,Tryz.f124)] [] 1
noncomputable def zy:=qw q2D 124 Tryz.f124 true vR vY
theorem q0L:zF Tryz.prog qc 124 (qa vR vY zy):=sk q2D qe q9 (alc q91 aln) aln (b1 Tryz.func124) Tryz.func124
def vF:FIn:=⟨[(.ptr 0 0),(.imm [.str])],[.cells [(.int .i64)]]⟩
def vG:List FOut:=[⟨.str,[.cells [(.int .i64)]],none⟩]
def q3O:Tmpl:={ t:=(qP 5 (.str::(.fn 124 [(.ptr 0 0)] [])::qP 4 ((.imm [.str])::(.int .i64)::(.int .i64)::qP 9 []))),h:=[.cells [(.int .i64)]] }
def q40:List Out:=[⟨(.exit 0),{ t:=(qP 5 (.str::qP 17 [])),h:=[.cells [(.int .i64)]] }⟩]
noncomputable def q0P:=qf [(125,qa q71 q7f q2Z),(124,qa vR vY zy)] [(95,Tryz.f95)] [] 1
noncomputable def jc:=jD q0P 95 Tryz.f95 4 q3O q40
theorem qcu:qp Tryz.prog qc q0P.nimp (qC Tryz.prog q0P.iter 95) (zH Tryz.f95 4) (qo q3O q40 (qj jc)):=
 gk q0P qe q9 (alc q91 (alc q0L aln)) aln (b1 Tryz.func95) Tryz.func95
noncomputable def qb5:=qf [(125,qa q71 q7f q2Z),(124,qa vR vY zy)] [(95,Tryz.f95)] [((95,4),qo q3O q40 (qj jc))] 1
noncomputable def qg:=qw qb5 95 Tryz.f95 true vF vG
theorem vQ:zF Tryz.prog qc 95 (qa vF vG qg):=sk qb5 qe q9 (alc q91 (alc q0L aln)) (alc (lk Tryz.func95 qcu) aln) (b1 Tryz.func95) Tryz.func95
def kt:FIn:=⟨[(.ptr 0 0),(.ptr 1 0)],[.big [.bool,(.int .i64)] .i64 232,.big [.bool,(.int .i64)] .i64 232]⟩
def uZ:List FOut:=[⟨(.tuple []),[.big [.bool,(.int .i64)] .i64 232,.big [.bool,(.int .i64)] .i64 232],none⟩]
noncomputable def q9W:=qf [(179,qa vO vL zu),(181,qa zZ we qF)] [(210,Tryz.f210)] [] 2
noncomputable def zN:=qw q9W 210 Tryz.f210 true kt uZ
theorem q26:zF Tryz.prog qc 210 (qa kt uZ zN):=sk q9W qe q9 (alc yt (alc wV aln)) aln (b1 Tryz.func210) Tryz.func210
def qei:FIn:=⟨[(.imm [.str])],[]⟩
def qen:List FOut:=[⟨(.tuple [.str,(.int .i64)]),[],none⟩]
def qaK:Tmpl:={ t:=(qP 4 ((.ptr 0 0)::qP 4 ((.imm [.str])::(.int .i64)::(.int .i64)::qP 12 []))),h:=[.big [.bool,(.int .i64)] .i64 232] }
def qaw:List Out:=[⟨(.exit 0),{ t:=(qP 4 ((.ptr 0 0)::qP 19 [])),h:=[.big [.bool,(.int .i64)] .i64 232] }⟩]
noncomputable def q6G:=qf [(143,qa u7 yS zr),(155,qa jH jE zC),(210,qa kt uZ zN)] [(219,Tryz.f219)] [] 0
noncomputable def q3H:=jD q6G 219 Tryz.f219 4 qaK qaw
theorem qi3:qp Tryz.prog qc q6G.nimp (qC Tryz.prog q6G.iter 219) (zH Tryz.f219 4) (qo qaK qaw (qj q3H)):=
 gk q6G qe q9 (alc yn (alc q06 (alc q26 aln))) aln (b1 Tryz.func219) Tryz.func219
noncomputable def qk4:=qf [(143,qa u7 yS zr),(155,qa jH jE zC),(210,qa kt uZ zN)] [(219,Tryz.f219)] [((219,4),qo qaK qaw (qj q3H))] 0
noncomputable def q7p:=qw qk4 219 Tryz.f219 true qei qen
theorem ql3:zF Tryz.prog qc 219 (qa qei qen q7p):=sk qk4 qe q9 (alc yn (alc q06 (alc q26 aln))) (alc (lk Tryz.func219 qi3) aln) (b1 Tryz.func219) Tryz.func219
def q7S:FIn:=⟨[.str,.str],[]⟩
def q7D:List FOut:=[⟨(.tuple [.str,(.int .i64)]),[],none⟩]
noncomputable def qiv:=qf [(140,qa uh ug zE),(152,qa q41 q3x jJ),(153,qa q55 q52 uu),(219,qa qei qen q7p)] [(196,Tryz.f196)] [] 0
noncomputable def q1a:=qw qiv 196 Tryz.f196 true q7S q7D
theorem q8L:zF Tryz.prog qc 196 (qa q7S q7D q1a):=sk qiv qe q9 (alc jY (alc q5M (alc q9k (alc ql3 aln)))) aln (b1 Tryz.func196) Tryz.func196
def q5N:FIn:=⟨[.str],[]⟩
def q5P:List FOut:=[⟨.str,[],none⟩]
noncomputable def qaX:=qf [(141,qa q5g q5u jU)] [(209,Tryz.f209)] [] 0
noncomputable def q0k:=qw qaX 209 Tryz.f209 true q5N q5P
theorem qer:zF Tryz.prog qc 209 (qa q5N q5P q0k):=sk qaX qe q9 (alc q7T aln) aln (b1 Tryz.func209) Tryz.func209
def qav:FIn:=⟨[.str,.str],[]⟩
def qae:List FOut:=[⟨(.tuple [.str,(.int .i64)]),[],none⟩]
noncomputable def qjJ:=qf [(140,qa uh ug zE),(196,qa q7S q7D q1a),(209,qa q5N q5P q0k)] [(188,Tryz.f188)] [] 0
noncomputable def q4J:=qw qjJ 188 Tryz.f188 true qav qae
theorem qdq:zF Tryz.prog qc 188 (qa qav qae q4J):=sk qjJ qe q9 (alc jY (alc q8L (alc qer aln))) aln (b1 Tryz.func188) Tryz.func188
def uv:FIn:=⟨[(.ptr 0 0),(.fn 188 [] []),.str,.str],[.cells [(.int .i64)]]⟩
def ul:List FOut:=[⟨.str,[.cells [(.int .i64)]],none⟩]
noncomputable def q2h:=qf [(188,qa qav qae q4J)] [(124,Tryz.f124)] [] 1
noncomputable def wy:=qw q2h 124 Tryz.f124 true uv ul
theorem q6N:zF Tryz.prog qc 124 (qa uv ul wy):=sk q2h qe q9 (alc qdq aln) aln (b1 Tryz.func124) Tryz.func124
def yI:FIn:=⟨[(.ptr 0 0),.str,.str],[.cells [(.int .i64)]]⟩
def yF:List FOut:=[⟨.str,[.cells [(.int .i64)]],none⟩]
noncomputable def qb8:=qf [(188,qa qav qae q4J),(124,qa uv ul wy)] [(148,Tryz.f148)] [] 1
noncomputable def zk:=qw qb8 148 Tryz.f148 true yI yF
theorem kZ:zF Tryz.prog qc 148 (qa yI yF zk):=sk qb8 qe q9 (alc qdq (alc q6N aln)) aln (b1 Tryz.func148) Tryz.func148
def q6l:FIn:=⟨[(.ptr 0 0),.str,.str,.str,.str],[.cells [(.int .i64)]]⟩
def q6O:List FOut:=[⟨(.tuple [.str,.str]),[.cells [(.int .i64)]],none⟩]
noncomputable def qg0:=qf [(95,qa vF vG qg),(148,qa yI yF zk)] [(163,Tryz.f163)] [] 1
noncomputable def q1T:=qw qg0 163 Tryz.f163 true q6l q6O
theorem qbk:zF Tryz.prog qc 163 (qa q6l q6O q1T):=sk qg0 qe q9 (alc vQ (alc kZ aln)) aln (b1 Tryz.func163) Tryz.func163
def q30:FIn:=⟨[.str,.str],[]⟩
def q36:List FOut:=[⟨.bool,[],none⟩]
noncomputable def q7t:=qf [(187,qa zI zJ qE)] [(147,Tryz.f147)] [] 0
noncomputable def yo:=qw q7t 147 Tryz.f147 true q30 q36
theorem qbt:zF Tryz.prog qc 147 (qa q30 q36 yo):=sk q7t qe q9 (alc yj aln) aln (b1 Tryz.func147) Tryz.func147
def q98:FIn:=⟨[.str,.str],[]⟩
def q9d:List FOut:=[⟨.str,[],none⟩]
noncomputable def qdN:=qf [] [(149,Tryz.f149)] [] 0
noncomputable def q0u:=qw qdN 149 Tryz.f149 true q98 q9d
theorem qh1:zF Tryz.prog qc 149 (qa q98 q9d q0u):=sk qdN qe q9 aln aln (b1 Tryz.func149) Tryz.func149
def q97:FIn:=⟨[.str,.str],[]⟩
def q8M:List FOut:=[⟨(.tuple [.str,.str,(.int .i64)]),[],none⟩]
noncomputable def qdX:=qf [(92,qa q4G q4s wU),(140,qa uh ug zE),(143,qa u7 yS zr),(144,qa kF kv wA),(145,qa yd yf qG),(152,qa q41 q3x jJ),(210,qa kt uZ zN)] [(189,Tryz.f189)] [] 0
noncomputable def q2l:=qw qdX 189 Tryz.f189 true q97 q8M
theorem qhb:zF Tryz.prog qc 189 (qa q97 q8M q2l):=sk qdX qe q9 (alc q47 (alc jY (alc yn (alc q0M (alc jG (alc q5M (alc q26 aln))))))) aln (b1 Tryz.func189) Tryz.func189
def qac:FIn:=⟨[.str,.str],[]⟩
def qaF:List FOut:=[⟨(.tuple [.str,(.int .i64)]),[],none⟩]
noncomputable def qit:=qf [(114,qa yY yP z6),(189,qa q97 q8M q2l)] [(150,Tryz.f150)] [] 0
noncomputable def q4D:=qw qit 150 Tryz.f150 true qac qaF
theorem qdm:zF Tryz.prog qc 150 (qa qac qaF q4D):=sk qit qe q9 (alc yH (alc qhb aln)) aln (b1 Tryz.func150) Tryz.func150
def j0:FIn:=⟨[(.ptr 0 0),(.fn 116 [] []),.str,.str],[.cells [(.int .i64)]]⟩
def uf:List FOut:=[⟨.str,[.cells [(.int .i64)]],none⟩]
noncomputable def q2q:=qf [(116,qa q78 q7k q1g)] [(124,Tryz.f124)] [] 1
noncomputable def wk:=qw q2q 124 Tryz.f124 true j0 uf
theorem q62:zF Tryz.prog qc 124 (qa j0 uf wk):=sk q2q qe q9 (alc q8x aln) aln (b1 Tryz.func124) Tryz.func124
def vS:FIn:=⟨[(.ptr 0 0),(.fn 150 [] []),.str,.str],[.cells [(.int .i64)]]⟩
def uc:List FOut:=[⟨.str,[.cells [(.int .i64)]],none⟩]
noncomputable def q2s:=qf [(150,qa qac qaF q4D)] [(124,Tryz.f124)] [] 1
noncomputable def qQ:=qw q2s 124 Tryz.f124 true vS uc
theorem q6F:zF Tryz.prog qc 124 (qa vS uc qQ):=sk q2s qe q9 (alc qdm aln) aln (b1 Tryz.func124) Tryz.func124
def vP:FIn:=⟨[(.ptr 0 0),.str,.str],[.cells [(.int .i64)]]⟩
def vM:List FOut:=[⟨.str,[.cells [(.int .i64)]],none⟩]
noncomputable def q7B:=qf [(116,qa q78 q7k q1g),(147,qa q30 q36 yo),(148,qa yI yF zk),(149,qa q98 q9d q0u),(150,qa qac qaF q4D),(124,qz2 [(j0,qa j0 uf wk),(vS,qa vS uc qQ)])] [(121,Tryz.f121)] [] 1
noncomputable def qU:=qw q7B 121 Tryz.f121 true vP vM
theorem yu:zF Tryz.prog qc 121 (qa vP vM qU):=sk q7B qe q9 (alc q8x (alc qbt (alc kZ (alc qh1 (alc qdm (alc (qvo (q0m Tryz.func124 (by kernel_rfl) (by kernel_rfl)) (qrw q62 (qrw q6F qxj))) aln)))))) aln (b1 Tryz.func121) Tryz.func121
def jZ:FIn:=⟨[(.imm [.str])],[]⟩
def jX:List FOut:=[⟨(.int .i64),[],none⟩]
def q5y:Tmpl:={ t:=(qP 6 ((.imm [.str])::(.int .i64)::(.int .i64)::qP 9 [])),h:=[] }
def q5E:List Out:=[⟨(.exit 0),{ t:=(qP 18 []),h:=[] }⟩,⟨.ret,{ t:=(.any::.any::(.int .i64)::qP 15 []),h:=[] }⟩]
noncomputable def q2U:=qf [(79,qa q1A q1C vt)] [(123,Tryz.f123)] [] 0
noncomputable def q0j:=jD q2U 123 Tryz.f123 3 q5y q5E
theorem qex:qp Tryz.prog qc q2U.nimp (qC Tryz.prog q2U.iter 123) (zH Tryz.f123 3) (qo q5y q5E (qj q0j)):=
 gk q2U qe q9 (alc q2S aln) aln (b1 Tryz.func123) Tryz.func123
noncomputable def qdK:=qf [(79,qa q1A q1C vt)] [(123,Tryz.f123)] [((123,3),qo q5y q5E (qj q0j))] 0
noncomputable def qR:=qw qdK 123 Tryz.f123 true jZ jX
theorem ya:zF Tryz.prog qc 123 (qa jZ jX qR):=sk qdK qe q9 (alc q2S aln) (alc (lk Tryz.func123 qex) aln) (b1 Tryz.func123) Tryz.func123
def kh:FIn:=⟨[.str,.str,(.fn 163 [] [])],[]⟩
def ki:List FOut:=[⟨(.tuple [.str,(.int .i64)]),[],none⟩]
noncomputable def q38:=qf [(113,qa q15 q14 qK),(121,qa vP vM qU),(123,qa jZ jX qR),(163,qa q6l q6O q1T)] [(93,Tryz.f93)] [] 0
noncomputable def wO:=qw q38 93 Tryz.f93 true kh ki
theorem q7z:zF Tryz.prog qc 93 (qa kh ki wO):=sk q38 qe q9 (alc q0x (alc yu (alc ya (alc qbk aln)))) aln (b1 Tryz.func93) Tryz.func93
def qaJ:FIn:=⟨[.str,.str],[]⟩
def qax:List FOut:=[⟨(.tuple [.str,(.int .i64)]),[],none⟩]
noncomputable def qjE:=qf [(163,qa q6l q6O q1T),(93,qa kh ki wO)] [(133,Tryz.f133)] [] 0
noncomputable def q4M:=qw qjE 133 Tryz.f133 true qaJ qax
theorem qdF:zF Tryz.prog qc 133 (qa qaJ qax q4M):=sk qjE qe q9 (alc qbk (alc q7z aln)) aln (b1 Tryz.func133) Tryz.func133
def um:FIn:=⟨[(.ptr 0 0),(.fn 133 [] []),.str,.str],[.cells [(.int .i64)]]⟩
def ud:List FOut:=[⟨.str,[.cells [(.int .i64)]],none⟩]
noncomputable def q2j:=qf [(133,qa qaJ qax q4M)] [(110,Tryz.f110)] [] 1
noncomputable def wu:=qw q2j 110 Tryz.f110 true um ud
theorem q6E:zF Tryz.prog qc 110 (qa um ud wu):=sk q2j qe q9 (alc qdF aln) aln (b1 Tryz.func110) Tryz.func110
def ju:FIn:=⟨[(.ptr 0 0),.str,.str],[.cells [(.int .i64)]]⟩
def jv:List FOut:=[⟨.str,[.cells [(.int .i64)]],none⟩]
noncomputable def qbd:=qf [(133,qa qaJ qax q4M),(110,qa um ud wu)] [(102,Tryz.f102)] [] 1
noncomputable def qB:=qw qbd 102 Tryz.f102 true ju jv
theorem yk:zF Tryz.prog qc 102 (qa ju jv qB):=sk qbd qe q9 (alc qdF (alc q6E aln)) aln (b1 Tryz.func102) Tryz.func102
def ut:FIn:=⟨[(.ptr 0 0),(.fn 196 [] []),.str,.str],[.cells [(.int .i64)]]⟩
def uq:List FOut:=[⟨.str,[.cells [(.int .i64)]],none⟩]
noncomputable def q2y:=qf [(196,qa q7S q7D q1a)] [(124,Tryz.f124)] [] 1
noncomputable def wz:=qw q2y 124 Tryz.f124 true ut uq
theorem q6o:zF Tryz.prog qc 124 (qa ut uq wz):=sk q2y qe q9 (alc q8L aln) aln (b1 Tryz.func124) Tryz.func124
def q2X:FIn:=⟨[(.ptr 0 0),.str,.str],[.cells [(.int .i64)]]⟩
def q2M:List FOut:=[⟨.str,[.cells [(.int .i64)]],none⟩]
noncomputable def qba:=qf [(196,qa q7S q7D q1a),(124,qa ut uq wz)] [(165,Tryz.f165)] [] 1
noncomputable def jt:=qw qba 165 Tryz.f165 true q2X q2M
theorem q7K:zF Tryz.prog qc 165 (qa q2X q2M jt):=sk qba qe q9 (alc q8L (alc q6o aln)) aln (b1 Tryz.func165) Tryz.func165
def q6k:FIn:=⟨[(.ptr 0 0),.str,.str,.str,.str],[.cells [(.int .i64)]]⟩
def q6K:List FOut:=[⟨(.tuple [.str,.str]),[.cells [(.int .i64)]],none⟩]
noncomputable def qf8:=qf [(95,qa vF vG qg),(165,qa q2X q2M jt)] [(164,Tryz.f164)] [] 1
noncomputable def q1O:=qw qf8 164 Tryz.f164 true q6k q6K
theorem qbg:zF Tryz.prog qc 164 (qa q6k q6K q1O):=sk qf8 qe q9 (alc vQ (alc q7K aln)) aln (b1 Tryz.func164) Tryz.func164
def uQ:FIn:=⟨[.str,.str,(.fn 164 [] [])],[]⟩
def ke:List FOut:=[⟨(.tuple [.str,(.int .i64)]),[],none⟩]
noncomputable def q3g:=qf [(113,qa q15 q14 qK),(121,qa vP vM qU),(123,qa jZ jX qR),(164,qa q6k q6K q1O)] [(93,Tryz.f93)] [] 0
noncomputable def wS:=qw q3g 93 Tryz.f93 true uQ ke
theorem q6Z:zF Tryz.prog qc 93 (qa uQ ke wS):=sk q3g qe q9 (alc q0x (alc yu (alc ya (alc qbg aln)))) aln (b1 Tryz.func93) Tryz.func93
def qal:FIn:=⟨[.str,.str],[]⟩
def qa0:List FOut:=[⟨(.tuple [.str,(.int .i64)]),[],none⟩]
noncomputable def qki:=qf [(164,qa q6k q6K q1O),(93,qa uQ ke wS)] [(134,Tryz.f134)] [] 0
noncomputable def q4F:=qw qki 134 Tryz.f134 true qal qa0
theorem qdx:zF Tryz.prog qc 134 (qa qal qa0 q4F):=sk qki qe q9 (alc qbg (alc q6Z aln)) aln (b1 Tryz.func134) Tryz.func134
def uA:FIn:=⟨[(.ptr 0 0),(.fn 134 [] []),.str,.str],[.cells [(.int .i64)]]⟩
def uB:List FOut:=[⟨.str,[.cells [(.int .i64)]],none⟩]
noncomputable def q2e:=qf [(134,qa qal qa0 q4F)] [(110,Tryz.f110)] [] 1
noncomputable def ww:=qw q2e 110 Tryz.f110 true uA uB
theorem q6L:zF Tryz.prog qc 110 (qa uA uB ww):=sk q2e qe q9 (alc qdx aln) aln (b1 Tryz.func110) Tryz.func110
def yG:FIn:=⟨[(.ptr 0 0),.str,.str],[.cells [(.int .i64)]]⟩
def yN:List FOut:=[⟨.str,[.cells [(.int .i64)]],none⟩]
noncomputable def qbi:=qf [(134,qa qal qa0 q4F),(110,qa uA uB ww)] [(104,Tryz.f104)] [] 1
noncomputable def qY:=qw qbi 104 Tryz.f104 true yG yN
theorem q00:zF Tryz.prog qc 104 (qa yG yN qY):=sk qbi qe q9 (alc qdx (alc q6L aln)) aln (b1 Tryz.func104) Tryz.func104
def q6P:FIn:=⟨[(.ptr 0 0),.str,.str,.str,.str],[.cells [(.int .i64)]]⟩
def q6A:List FOut:=[⟨(.tuple [.str,.str]),[.cells [(.int .i64)]],none⟩]
noncomputable def qga:=qf [(95,qa vF vG qg)] [(94,Tryz.f94)] [] 1
noncomputable def q1y:=qw qga 94 Tryz.f94 true q6P q6A
theorem qb2:zF Tryz.prog qc 94 (qa q6P q6A q1y):=sk qga qe q9 (alc vQ aln) aln (b1 Tryz.func94) Tryz.func94
def kf:FIn:=⟨[.str,.str,(.fn 94 [] [])],[]⟩
def ku:List FOut:=[⟨(.tuple [.str,(.int .i64)]),[],none⟩]
noncomputable def q37:=qf [(94,qa q6P q6A q1y),(113,qa q15 q14 qK),(121,qa vP vM qU),(123,qa jZ jX qR)] [(93,Tryz.f93)] [] 0
noncomputable def wZ:=qw q37 93 Tryz.f93 true kf ku
theorem q7J:zF Tryz.prog qc 93 (qa kf ku wZ):=sk q37 qe q9 (alc qb2 (alc q0x (alc yu (alc ya aln)))) aln (b1 Tryz.func93) Tryz.func93
def qaA:FIn:=⟨[.str,.str],[]⟩
def qay:List FOut:=[⟨(.tuple [.str,(.int .i64)]),[],none⟩]
noncomputable def qjV:=qf [(94,qa q6P q6A q1y),(93,qa kf ku wZ)] [(63,Tryz.f63)] [] 0
noncomputable def q4Q:=qw qjV 63 Tryz.f63 true qaA qay
theorem qdE:zF Tryz.prog qc 63 (qa qaA qay q4Q):=sk qjV qe q9 (alc qb2 (alc q7J aln)) aln (b1 Tryz.func63) Tryz.func63
def uw:FIn:=⟨[(.ptr 0 0),(.fn 63 [] []),.str,.str],[.cells [(.int .i64)]]⟩
def uk:List FOut:=[⟨.str,[.cells [(.int .i64)]],none⟩]
noncomputable def q2x:=qf [(63,qa qaA qay q4Q)] [(110,Tryz.f110)] [] 1
noncomputable def wD:=qw q2x 110 Tryz.f110 true uw uk
theorem q6z:zF Tryz.prog qc 110 (qa uw uk wD):=sk q2x qe q9 (alc qdE aln) aln (b1 Tryz.func110) Tryz.func110
def yD:FIn:=⟨[(.ptr 0 0),.str,.str],[.cells [(.int .i64)]]⟩
def yL:List FOut:=[⟨.str,[.cells [(.int .i64)]],none⟩]
noncomputable def qbp:=qf [(63,qa qaA qay q4Q),(110,qa uw uk wD)] [(106,Tryz.f106)] [] 1
noncomputable def qH:=qw qbp 106 Tryz.f106 true yD yL
theorem q09:zF Tryz.prog qc 106 (qa yD yL qH):=sk qbp qe q9 (alc qdE (alc q6z aln)) aln (b1 Tryz.func106) Tryz.func106
def ko:FIn:=⟨[(.ptr 0 0),(.agg [.str,.str]),(.agg [.str,.str])],[.cells [(.int .i64)]]⟩
def kC:List FOut:=[⟨(.agg [.str,.str]),[.cells [(.int .i64)]],none⟩]
noncomputable def q9i:=qf [(102,qa ju jv qB)] [(108,Tryz.f108)] [] 1
noncomputable def zT:=qw q9i 108 Tryz.f108 true ko kC
theorem q27:zF Tryz.prog qc 108 (qa ko kC zT):=sk q9i qe q9 (alc yk aln) aln (b1 Tryz.func108) Tryz.func108
def q0f:FIn:=⟨[(.ptr 0 0),(.agg [.str,.str]),(.agg [.str,.str])],[.cells [(.int .i64)]]⟩
def q0n:List FOut:=[⟨.str,[.cells [(.int .i64)]],none⟩]
noncomputable def qbo:=qf [(104,qa yG yN qY),(106,qa yD yL qH)] [(109,Tryz.f109)] [] 1
noncomputable def zv:=qw qbo 109 Tryz.f109 true q0f q0n
theorem q2Y:zF Tryz.prog qc 109 (qa q0f q0n zv):=sk qbo qe q9 (alc q00 (alc q09 aln)) aln (b1 Tryz.func109) Tryz.func109
def q6D:FIn:=⟨[(.ptr 0 0),.str,.str,.str,.str],[.cells [(.int .i64)]]⟩
def q6r:List FOut:=[⟨(.tuple [.str,.str]),[.cells [(.int .i64)]],none⟩]
noncomputable def qg7:=qf [(95,qa vF vG qg)] [(136,Tryz.f136)] [] 1
noncomputable def q1B:=qw qg7 136 Tryz.f136 true q6D q6r
theorem qaW:zF Tryz.prog qc 136 (qa q6D q6r q1B):=sk qg7 qe q9 (alc vQ aln) aln (b1 Tryz.func136) Tryz.func136
def uX:FIn:=⟨[.str,.str,(.fn 136 [] [])],[]⟩
def kz:List FOut:=[⟨(.tuple [.str,(.int .i64)]),[],none⟩]
noncomputable def q39:=qf [(113,qa q15 q14 qK),(121,qa vP vM qU),(123,qa jZ jX qR),(136,qa q6D q6r q1B)] [(93,Tryz.f93)] [] 0
noncomputable def wL:=qw q39 93 Tryz.f93 true uX kz
theorem q7U:zF Tryz.prog qc 93 (qa uX kz wL):=sk q39 qe q9 (alc q0x (alc yu (alc ya (alc qaW aln)))) aln (b1 Tryz.func93) Tryz.func93
def qa5:FIn:=⟨[.str,.str],[]⟩
def qaj:List FOut:=[⟨(.tuple [.str,(.int .i64)]),[],none⟩]
noncomputable def qke:=qf [(123,qa jZ jX qR),(136,qa q6D q6r q1B),(93,qa uX kz wL)] [(111,Tryz.f111)] [] 0
noncomputable def q4q:=qw qke 111 Tryz.f111 true qa5 qaj
theorem qdC:zF Tryz.prog qc 111 (qa qa5 qaj q4q):=sk qke qe q9 (alc ya (alc qaW (alc q7U aln))) aln (b1 Tryz.func111) Tryz.func111
def uE:FIn:=⟨[(.ptr 0 0),(.fn 111 [] []),.str,.str],[.cells [(.int .i64)]]⟩
def ur:List FOut:=[⟨.str,[.cells [(.int .i64)]],none⟩]
noncomputable def q2H:=qf [(111,qa qa5 qaj q4q)] [(110,Tryz.f110)] [] 1
noncomputable def zz:=qw q2H 110 Tryz.f110 true uE ur
theorem q6B:zF Tryz.prog qc 110 (qa uE ur zz):=sk q2H qe q9 (alc qdC aln) aln (b1 Tryz.func110) Tryz.func110
def q0R:FIn:=⟨[(.ptr 0 0),(.imm [.str,.str,.str]),(.agg [(.int .i64),(.int .i64),(.int .i64)])],[.cells [(.int .i64)]]⟩
def q0T:List FOut:=[⟨(.tuple [(.agg [.str,.str,.str,.str,.str]),.bool]),[.cells [(.int .i64)]],none⟩]
noncomputable def q88:=qf [(102,qa ju jv qB),(104,qa yG yN qY),(106,qa yD yL qH),(108,qa ko kC zT),(109,qa q0f q0n zv),(111,qa qa5 qaj q4q),(110,qa uE ur zz)] [(72,Tryz.f72)] [] 1
noncomputable def vo:=qw q88 72 Tryz.f72 true q0R q0T
theorem q5i:zF Tryz.prog qc 72 (qa q0R q0T vo):=sk q88 qe q9 (alc yk (alc q00 (alc q09 (alc q27 (alc q2Y (alc qdC (alc q6B aln))))))) aln (b1 Tryz.func72) Tryz.func72
def qc2:FIn:=⟨[.str],[]⟩
def qbG:List FOut:=[⟨(.tuple [(.int .i64),(.int .i64)]),[],none⟩]
noncomputable def qhJ:=qf [(114,qa yY yP z6),(141,qa q5g q5u jU)] [(220,Tryz.f220)] [] 0
noncomputable def q5c:=qw qhJ 220 Tryz.f220 true qc2 qbG
theorem qj1:zF Tryz.prog qc 220 (qa qc2 qbG q5c):=sk qhJ qe q9 (alc yH (alc q7T aln)) aln (b1 Tryz.func220) Tryz.func220
def q1E:FIn:=⟨[(.ptr 0 0),.str],[.cells [(.int .i64)]]⟩
def q1K:List FOut:=[⟨(.int .i64),[.cells [(.int .i64)]],none⟩]
noncomputable def q9x:=qf [(220,qa qc2 qbG q5c)] [(198,Tryz.f198)] [] 1
noncomputable def zm:=qw q9x 198 Tryz.f198 true q1E q1K
theorem q5Y:zF Tryz.prog qc 198 (qa q1E q1K zm):=sk q9x qe q9 (alc qj1 aln) aln (b1 Tryz.func198) Tryz.func198
def q4z:FIn:=⟨[(.ptr 0 0),.str,.str,.str],[.cells [(.int .i64)]]⟩
def q4y:List FOut:=[⟨(.int .i64),[.cells [(.int .i64)]],none⟩]
noncomputable def q9h:=qf [(95,qa vF vG qg),(148,qa yI yF zk),(198,qa q1E q1K zm)] [(197,Tryz.f197)] [] 1
noncomputable def yh:=qw q9h 197 Tryz.f197 true q4z q4y
theorem qdd:zF Tryz.prog qc 197 (qa q4z q4y yh):=sk q9h qe q9 (alc vQ (alc kZ (alc q5Y aln))) aln (b1 Tryz.func197) Tryz.func197
def q4u:FIn:=⟨[.str,.str,.str,.str,.str],[]⟩
def q4I:List FOut:=[⟨(.tuple [(.int .i64),(.int .i64)]),[],none⟩]
noncomputable def q9w:=qf [(95,qa vF vG qg),(113,qa q15 q14 qK),(123,qa jZ jX qR),(148,qa yI yF zk),(165,qa q2X q2M jt),(197,qa q4z q4y yh),(198,qa q1E q1K zm)] [(166,Tryz.f166)] [] 0
noncomputable def km:=qw q9w 166 Tryz.f166 true q4u q4I
theorem qd5:zF Tryz.prog qc 166 (qa q4u q4I km):=sk q9w qe q9 (alc vQ (alc q0x (alc ya (alc kZ (alc q7K (alc qdd (alc q5Y aln))))))) aln (b1 Tryz.func166) Tryz.func166
def q5G:FIn:=⟨[.str,.str,.str],[]⟩
def q5z:List FOut:=[⟨(.tuple [(.int .i64),(.int .i64)]),[],none⟩]
noncomputable def qbj:=qf [(166,qa q4u q4I km)] [(135,Tryz.f135)] [] 0
noncomputable def q0o:=qw qbj 135 Tryz.f135 true q5G q5z
theorem qef:zF Tryz.prog qc 135 (qa q5G q5z q0o):=sk qbj qe q9 (alc qd5 aln) aln (b1 Tryz.func135) Tryz.func135
def kE:FIn:=⟨[(.ptr 0 0),.str,.str,.str],[.cells [(.int .i64)]]⟩
def kp:List FOut:=[⟨(.int .i64),[.cells [(.int .i64)]],none⟩]
noncomputable def q9E:=qf [(135,qa q5G q5z q0o)] [(105,Tryz.f105)] [] 1
noncomputable def zR:=qw q9E 105 Tryz.f105 true kE kp
theorem q22:zF Tryz.prog qc 105 (qa kE kp zR):=sk q9E qe q9 (alc qef aln) aln (b1 Tryz.func105) Tryz.func105
def q0K:FIn:=⟨[(.ptr 0 0),(.agg [.str,.str,.str]),(.agg [.str,.str,.str,.str,.str])],[.cells [(.int .i64)]]⟩
def q0U:List FOut:=[⟨.bool,[.cells [(.int .i64)]],none⟩]
noncomputable def q8e:=qf [(102,qa ju jv qB),(104,qa yG yN qY),(105,qa kE kp zR),(106,qa yD yL qH),(108,qa ko kC zT),(109,qa q0f q0n zv)] [(74,Tryz.f74)] [] 1
noncomputable def ji:=qw q8e 74 Tryz.f74 true q0K q0U
theorem q5l:zF Tryz.prog qc 74 (qa q0K q0U ji):=sk q8e qe q9 (alc yk (alc q00 (alc q22 (alc q09 (alc q27 (alc q2Y aln)))))) aln (b1 Tryz.func74) Tryz.func74
def zL:FIn:=⟨[(.ptr 0 0),(.imm [.str,.str,.str]),(.agg [(.int .i64),(.int .i64),(.int .i64)])],[.cells [(.int .i64)]]⟩
def zK:List FOut:=[⟨.bool,[.cells [(.int .i64)]],none⟩]
def ui:Tmpl:={ t:=((.imm [.str,.str,.str])::(.fn 76 [] [(.ptr 4 0)])::qP 5 ((.int .i64)::(.int .i64)::qP 10 [])),h:=[.cells [(.int .i64)],.cells [(.ptr 0 0)],.cells [(.int .i64),(.int .i64),(.int .i64)],.cells [.str,.str,.str,.str,.str],.cells [(.fn 73 [] [(.ptr 1 0),(.ptr 3 0)])]],fs:=[[(.imm [.str,.str,.str]),(.fn 76 [] [(.ptr 4 0)]),.any,.any,(.blit false),(.imm [.str,.str,.str]),(.fn 76 [] [(.ptr 4 0)]),.any,.any],[(.ptr 0 0),(.imm [.str,.str,.str]),(.agg [(.int .i64),(.int .i64),(.int .i64)]),(.ptr 1 0),.any,(.ptr 2 0),(.blit false),(.ptr 3 0),.bool,(.ptr 4 0),(.tuple [(.agg [.str,.str,.str,.str,.str]),.bool]),(.ptr 0 0),(.imm [.str,.str,.str]),(.agg [(.int .i64),(.int .i64),(.int .i64)]),(.tuple [(.agg [.str,.str,.str,.str,.str]),.bool]),(.agg [.str,.str,.str,.str,.str]),.bool,(.fn 73 [] [(.ptr 1 0),(.ptr 3 0)]),.bool,(.blit true),(.imm [.str,.str,.str]),(.fn 76 [] [(.ptr 4 0)]),.any,.any,.any,.any,.any,.any,.any,.any,.any,.any],[]] }
def ue:List Out:=[⟨(.exit 0),{ t:=(qP 19 []),h:=[.cells [(.int .i64)],.cells [(.ptr 0 0)],.cells [(.int .i64),(.int .i64),(.int .i64)],.cells [.str,.str,.str,.str,.str],.cells [(.fn 73 [] [(.ptr 1 0),(.ptr 3 0)])]],fs:=[[(.imm [.str,.str,.str]),(.fn 76 [] [(.ptr 4 0)]),.any,.any,(.blit false),(.imm [.str,.str,.str]),(.fn 76 [] [(.ptr 4 0)]),.any,.any],[(.ptr 0 0),(.imm [.str,.str,.str]),(.agg [(.int .i64),(.int .i64),(.int .i64)]),(.ptr 1 0),.any,(.ptr 2 0),(.blit false),(.ptr 3 0),.bool,(.ptr 4 0),(.tuple [(.agg [.str,.str,.str,.str,.str]),.bool]),(.ptr 0 0),(.imm [.str,.str,.str]),(.agg [(.int .i64),(.int .i64),(.int .i64)]),(.tuple [(.agg [.str,.str,.str,.str,.str]),.bool]),(.agg [.str,.str,.str,.str,.str]),.bool,(.fn 73 [] [(.ptr 1 0),(.ptr 3 0)]),.bool,(.blit true),(.imm [.str,.str,.str]),(.fn 76 [] [(.ptr 4 0)]),.any,.any,.any,.any,.any,.any,.any,.any,.any,.any],[]] }⟩,⟨.ret,{ t:=(qP 4 ((.int .i64)::qP 14 [])),h:=[.cells [(.int .i64)],.cells [(.ptr 0 0)],.cells [(.int .i64),(.int .i64),(.int .i64)],.cells [.str,.str,.str,.str,.str],.cells [(.fn 73 [] [(.ptr 1 0),(.ptr 3 0)])]],fs:=[[(.imm [.str,.str,.str]),(.fn 76 [] [(.ptr 4 0)]),.any,.any,(.blit false),(.imm [.str,.str,.str]),(.fn 76 [] [(.ptr 4 0)]),.any,.any],[(.ptr 0 0),(.imm [.str,.str,.str]),(.agg [(.int .i64),(.int .i64),(.int .i64)]),(.ptr 1 0),.any,(.ptr 2 0),(.blit false),(.ptr 3 0),.bool,(.ptr 4 0),(.tuple [(.agg [.str,.str,.str,.str,.str]),.bool]),(.ptr 0 0),(.imm [.str,.str,.str]),(.agg [(.int .i64),(.int .i64),(.int .i64)]),(.tuple [(.agg [.str,.str,.str,.str,.str]),.bool]),(.agg [.str,.str,.str,.str,.str]),.bool,(.fn 73 [] [(.ptr 1 0),(.ptr 3 0)]),.bool,(.blit true),(.imm [.str,.str,.str]),(.fn 76 [] [(.ptr 4 0)]),.any,.any,.any,.any,.any,.any,.any,.any,.any,.any],[]] }⟩]
noncomputable def vT:=qf [(72,qa q0R q0T vo),(74,qa q0K q0U ji)] [(48,Tryz.f48),(73,Tryz.f73),(75,Tryz.f75),(76,Tryz.f76),(112,Tryz.f112)] [] 1
noncomputable def wx:=jD vT 112 Tryz.f112 3 ui ue
theorem q6y:qp Tryz.prog qc vT.nimp (qC Tryz.prog vT.iter 112) (zH Tryz.f112 3) (qo ui ue (qj wx)):=
 gk vT qe q9 (alc q5i (alc q5l aln)) aln (alc (bk Tryz.func48) (alc (bk Tryz.func73) (alc (bk Tryz.func75) (alc (bk Tryz.func76) (alc (bk Tryz.func112) aln))))) Tryz.func112
noncomputable def q7n:=qf [(72,qa q0R q0T vo),(74,qa q0K q0U ji)] [(48,Tryz.f48),(73,Tryz.f73),(75,Tryz.f75),(76,Tryz.f76),(112,Tryz.f112)] [((112,3),qo ui ue (qj wx))] 1
noncomputable def qL:=qw q7n 48 Tryz.f48 true zL zK
theorem wi:zF Tryz.prog qc 48 (qa zL zK qL):=sk q7n qe q9 (alc q5i (alc q5l aln)) (alc (lk Tryz.func112 q6y) aln) (alc (bk Tryz.func48) (alc (bk Tryz.func73) (alc (bk Tryz.func75) (alc (bk Tryz.func76) (alc (bk Tryz.func112) aln))))) Tryz.func48
def z8:FIn:=⟨[(.ptr 0 0),(.imm [.str,.str,.str])],[.cells [(.int .i64)]]⟩
def qZ:List FOut:=[⟨(.tuple [(.agg [(.int .i64),(.int .i64),(.int .i64)]),.bool]),[.cells [(.int .i64)]],none⟩]
def kI:Tmpl:={ t:=(.yld::(.ptr 5 0)::qP 6 ((.int .i64)::(.int .i64)::qP 35 [])),h:=[.cells [(.int .i64)],.cells [(.ptr 0 0)],.cells [(.imm [.str,.str,.str])],.cells [(.int .i64),(.int .i64),(.int .i64)],.cells [.bool],.cells [(.int .i64)]],fs:=[[.any,.any,(.ptr 1 0),(.ptr 2 0),(.ptr 3 0),(.ptr 4 0),.any,.any,.any,(.fn 107 [] [(.ptr 5 0)]),.any,.any,.any,.any,.any,.any,.any],[]] }
def kn:List Out:=[⟨(.exit 0),{ t:=(.yld::(.ptr 5 0)::qP 43 []),h:=[.cells [(.int .i64)],.cells [(.ptr 0 0)],.cells [(.imm [.str,.str,.str])],.cells [(.int .i64),(.int .i64),(.int .i64)],.cells [.bool],.cells [(.int .i64)]],fs:=[[.any,.any,(.ptr 1 0),(.ptr 2 0),(.ptr 3 0),(.ptr 4 0),.any,.any,.any,(.fn 107 [] [(.ptr 5 0)]),.any,.any,.any,.any,.any,.any,.any],[]] }⟩,⟨.ret,{ t:=(qP 45 []),h:=[.cells [(.int .i64)],.cells [(.ptr 0 0)],.cells [(.imm [.str,.str,.str])],.cells [(.int .i64),(.int .i64),(.int .i64)],.cells [.bool],.cells [(.int .i64)]],fs:=[[.any,.any,(.ptr 1 0),(.ptr 2 0),(.ptr 3 0),(.ptr 4 0),.any,.any,.any,(.fn 107 [] [(.ptr 5 0)]),.any,.any,.any,.any,.any,.any,.any],[]],pend:=(.some .ret) }⟩]
noncomputable def ja:Env:={ tt:=q5L,glob:=qc,spec:=[(48,qa zL zK qL)],body:=[(46,Tryz.f46),(71,Tryz.f71),(107,Tryz.f107)],loops:=[],nimp:=1,iter:=[(107,46,3)] }
noncomputable def wK:=qnW ja (some (46,Tryz.f46,3)) 107 Tryz.f107 2 kI kn
theorem q6W:qp Tryz.prog qc ja.nimp (qC Tryz.prog ja.iter 107) (zH Tryz.f107 2) (qo kI kn (qj wK)):=
 q5e (E:=ja) qe ⟨q9u q9,⟨(alc wi aln),aln⟩,aln,(alc (bk Tryz.func46) (alc (bk Tryz.func71) (alc (bk Tryz.func107) aln)))⟩ Tryz.func107 (by kernel_rfl) (y:=some (46,Tryz.f46,3)) ⟨Tryz.func46,by kernel_rfl⟩ (by kernel_rfl) (by kernel_rfl) (fun _=>rfl)
def uC:Tmpl:={ t:=(.yld::(.ptr 5 0)::.any::.any::(.int .i64)::(.int .i64)::qP 13 ((.int .i64)::(.int .i64)::qP 9 ((.vec 6)::(.int .i64)::(.int .i64)::qP 12 []))),h:=[.cells [(.int .i64)],.cells [(.ptr 0 0)],.cells [(.imm [.str,.str,.str])],.cells [(.int .i64),(.int .i64),(.int .i64)],.cells [.bool],.cells [(.int .i64)],.vec 3 [(.int .i64)]],fs:=[[.any,.any,(.ptr 1 0),(.ptr 2 0),(.ptr 3 0),(.ptr 4 0),.any,.any,.any,(.fn 107 [] [(.ptr 5 0)]),.any,.any,.any,.any,.any,.any,.any],[]] }
def uy:List Out:=[⟨(.exit 6),{ t:=(.yld::(.ptr 5 0)::.any::.any::(.int .i64)::(.int .i64)::qP 13 ((.int .i64)::(.int .i64)::qP 24 [])),h:=[.cells [(.int .i64)],.cells [(.ptr 0 0)],.cells [(.imm [.str,.str,.str])],.cells [(.int .i64),(.int .i64),(.int .i64)],.cells [.bool],.cells [(.int .i64)]],fs:=[[.any,.any,(.ptr 1 0),(.ptr 2 0),(.ptr 3 0),(.ptr 4 0),.any,.any,.any,(.fn 107 [] [(.ptr 5 0)]),.any,.any,.any,.any,.any,.any,.any],[]] }⟩,⟨.ret,{ t:=(qP 45 []),h:=[.cells [(.int .i64)],.cells [(.ptr 0 0)],.cells [(.imm [.str,.str,.str])],.cells [(.int .i64),(.int .i64),(.int .i64)],.cells [.bool],.cells [(.int .i64)]],fs:=[[.any,.any,(.ptr 1 0),(.ptr 2 0),(.ptr 3 0),(.ptr 4 0),.any,.any,.any,(.fn 107 [] [(.ptr 5 0)]),.any,.any,.any,.any,.any,.any,.any],[]],pend:=(.some .ret) }⟩]
noncomputable def j3:Env:={ tt:=q5L,glob:=qc,spec:=[(48,qa zL zK qL)],body:=[(46,Tryz.f46),(71,Tryz.f71),(107,Tryz.f107)],loops:=[],nimp:=1,iter:=[(107,46,3)] }
noncomputable def wl:=qnW j3 (some (46,Tryz.f46,3)) 107 Tryz.f107 20 uC uy
theorem q6i:qp Tryz.prog qc j3.nimp (qC Tryz.prog j3.iter 107) (zH Tryz.f107 20) (qo uC uy (qj wl)):=
 q5e (E:=j3) qe ⟨q9u q9,⟨(alc wi aln),aln⟩,aln,(alc (bk Tryz.func46) (alc (bk Tryz.func71) (alc (bk Tryz.func107) aln)))⟩ Tryz.func107 (by kernel_rfl) (y:=some (46,Tryz.f46,3)) ⟨Tryz.func46,by kernel_rfl⟩ (by kernel_rfl) (by kernel_rfl) (fun _=>rfl)
def uo:Tmpl:={ t:=(.yld::(.ptr 5 0)::.any::.any::(.int .i64)::(.int .i64)::qP 13 ((.int .i64)::(.int .i64)::qP 24 [])),h:=[.cells [(.int .i64)],.cells [(.ptr 0 0)],.cells [(.imm [.str,.str,.str])],.cells [(.int .i64),(.int .i64),(.int .i64)],.cells [.bool],.cells [(.int .i64)]],fs:=[[.any,.any,(.ptr 1 0),(.ptr 2 0),(.ptr 3 0),(.ptr 4 0),.any,.any,.any,(.fn 107 [] [(.ptr 5 0)]),.any,.any,.any,.any,.any,.any,.any],[]] }
def ub:List Out:=[⟨(.exit 4),{ t:=(.yld::(.ptr 5 0)::qP 17 ((.int .i64)::(.int .i64)::qP 24 [])),h:=[.cells [(.int .i64)],.cells [(.ptr 0 0)],.cells [(.imm [.str,.str,.str])],.cells [(.int .i64),(.int .i64),(.int .i64)],.cells [.bool],.cells [(.int .i64)]],fs:=[[.any,.any,(.ptr 1 0),(.ptr 2 0),(.ptr 3 0),(.ptr 4 0),.any,.any,.any,(.fn 107 [] [(.ptr 5 0)]),.any,.any,.any,.any,.any,.any,.any],[]] }⟩,⟨.ret,{ t:=(qP 45 []),h:=[.cells [(.int .i64)],.cells [(.ptr 0 0)],.cells [(.imm [.str,.str,.str])],.cells [(.int .i64),(.int .i64),(.int .i64)],.cells [.bool],.cells [(.int .i64)]],fs:=[[.any,.any,(.ptr 1 0),(.ptr 2 0),(.ptr 3 0),(.ptr 4 0),.any,.any,.any,(.fn 107 [] [(.ptr 5 0)]),.any,.any,.any,.any,.any,.any,.any],[]],pend:=(.some .ret) }⟩]
noncomputable def j1:Env:={ tt:=q5L,glob:=qc,spec:=[(48,qa zL zK qL)],body:=[(46,Tryz.f46),(71,Tryz.f71),(107,Tryz.f107)],loops:=[((107,20),qo uC uy (qj wl))],nimp:=1,iter:=[(107,46,3)] }
noncomputable def wo:=qnW j1 (some (46,Tryz.f46,3)) 107 Tryz.f107 15 uo ub
theorem q6j:qp Tryz.prog qc j1.nimp (qC Tryz.prog j1.iter 107) (zH Tryz.f107 15) (qo uo ub (qj wo)):=
 q5e (E:=j1) qe ⟨q9u q9,⟨(alc wi aln),aln⟩,(alc (lk Tryz.func107 q6i) aln),(alc (bk Tryz.func46) (alc (bk Tryz.func71) (alc (bk Tryz.func107) aln)))⟩ Tryz.func107 (by kernel_rfl) (y:=some (46,Tryz.f46,3)) ⟨Tryz.func46,by kernel_rfl⟩ (by kernel_rfl) (by kernel_rfl) (fun _=>rfl)
def uL:Tmpl:={ t:=(.yld::(.ptr 5 0)::qP 17 ((.int .i64)::(.int .i64)::qP 24 [])),h:=[.cells [(.int .i64)],.cells [(.ptr 0 0)],.cells [(.imm [.str,.str,.str])],.cells [(.int .i64),(.int .i64),(.int .i64)],.cells [.bool],.cells [(.int .i64)]],fs:=[[.any,.any,(.ptr 1 0),(.ptr 2 0),(.ptr 3 0),(.ptr 4 0),.any,.any,.any,(.fn 107 [] [(.ptr 5 0)]),.any,.any,.any,.any,.any,.any,.any],[]] }
def uR:List Out:=[⟨(.exit 2),{ t:=(qP 45 []),h:=[.cells [(.int .i64)],.cells [(.ptr 0 0)],.cells [(.imm [.str,.str,.str])],.cells [(.int .i64),(.int .i64),(.int .i64)],.cells [.bool],.cells [(.int .i64)]],fs:=[[.any,.any,(.ptr 1 0),(.ptr 2 0),(.ptr 3 0),(.ptr 4 0),.any,.any,.any,(.fn 107 [] [(.ptr 5 0)]),.any,.any,.any,.any,.any,.any,.any],[]] }⟩,⟨.ret,{ t:=(qP 45 []),h:=[.cells [(.int .i64)],.cells [(.ptr 0 0)],.cells [(.imm [.str,.str,.str])],.cells [(.int .i64),(.int .i64),(.int .i64)],.cells [.bool],.cells [(.int .i64)]],fs:=[[.any,.any,(.ptr 1 0),(.ptr 2 0),(.ptr 3 0),(.ptr 4 0),.any,.any,.any,(.fn 107 [] [(.ptr 5 0)]),.any,.any,.any,.any,.any,.any,.any],[]],pend:=(.some .ret) }⟩]
noncomputable def jg:Env:={ tt:=q5L,glob:=qc,spec:=[(48,qa zL zK qL)],body:=[(46,Tryz.f46),(71,Tryz.f71),(107,Tryz.f107)],loops:=[((107,15),qo uo ub (qj wo))],nimp:=1,iter:=[(107,46,3)] }
noncomputable def wW:=qnW jg (some (46,Tryz.f46,3)) 107 Tryz.f107 9 uL uR
theorem q7V:qp Tryz.prog qc jg.nimp (qC Tryz.prog jg.iter 107) (zH Tryz.f107 9) (qo uL uR (qj wW)):=
 q5e (E:=jg) qe ⟨q9u q9,⟨(alc wi aln),aln⟩,(alc (lk Tryz.func107 q6j) aln),(alc (bk Tryz.func46) (alc (bk Tryz.func71) (alc (bk Tryz.func107) aln)))⟩ Tryz.func107 (by kernel_rfl) (y:=some (46,Tryz.f46,3)) ⟨Tryz.func46,by kernel_rfl⟩ (by kernel_rfl) (by kernel_rfl) (fun _=>rfl)
noncomputable def q8f:Env:={ tt:=q5L,glob:=qc,spec:=[(48,qa zL zK qL)],body:=[(46,Tryz.f46),(71,Tryz.f71),(107,Tryz.f107)],loops:=[((107,2),qo kI kn (qj wK)),((107,9),qo uL uR (qj wW))],nimp:=1,iter:=[(107,46,3)] }
noncomputable def qA:=qw q8f 46 Tryz.f46 true z8 qZ
theorem z7:zF Tryz.prog qc 46 (qa z8 qZ qA):=sk q8f qe q9 (alc wi aln) (alc (lk Tryz.func107 q6W) (alc (lk Tryz.func107 q7V) aln)) (alc (bk Tryz.func46) (alc (bk Tryz.func71) (alc (bk Tryz.func107) aln))) Tryz.func46
def q0r:FIn:=⟨[(.imm [.str,.str,.str])],[]⟩
def q0w:List FOut:=[⟨(.tuple [.bool,(.agg [(.int .i64),(.int .i64),(.int .i64)]),(.int .i64)]),[],none⟩]
noncomputable def qdB:=qf [(45,qa vC vD zq),(46,qa z8 qZ qA)] [(17,Tryz.f17)] [] 0
noncomputable def qV:=qw qdB 17 Tryz.f17 true q0r q0w
theorem q1F:zF Tryz.prog qc 17 (qa q0r q0w qV):=sk qdB qe q9 (alc wC (alc z7 aln)) aln (b1 Tryz.func17) Tryz.func17
def q69:FIn:=⟨[(.agg [.str,.str,.str])],[]⟩
def q64:List FOut:=[⟨.bool,[],none⟩]
def q7P:Tmpl:={ t:=(qP 13 ((.vec 1)::(.int .i64)::(.int .i64)::qP 7 [])),h:=[.dead,.vec 61 [.str]] }
def q79:List Out:=[⟨(.exit 0),{ t:=(qP 23 []),h:=[] }⟩,⟨.ret,{ t:=(.any::.any::.bool::qP 20 []),h:=[] }⟩]
noncomputable def q3t:=qf [] [(66,Tryz.f66)] [] 0
noncomputable def q1b:=jD q3t 66 Tryz.f66 3 q7P q79
theorem qgi:qp Tryz.prog qc q3t.nimp (qC Tryz.prog q3t.iter 66) (zH Tryz.f66 3) (qo q7P q79 (qj q1b)):=
 gk q3t qe q9 aln aln (b1 Tryz.func66) Tryz.func66
noncomputable def qeP:=qf [] [(66,Tryz.f66)] [((66,3),qo q7P q79 (qj q1b))] 0
noncomputable def q1w:=qw qeP 66 Tryz.f66 true q69 q64
theorem qaZ:zF Tryz.prog qc 66 (qa q69 q64 q1w):=sk qeP qe q9 aln (alc (lk Tryz.func66 qgi) aln) (b1 Tryz.func66) Tryz.func66
def qe4:FIn:=⟨[(.imm [.str,.str,.str])],[]⟩
def qet:List FOut:=[⟨.bool,[],none⟩]
def qaQ:Tmpl:={ t:=((.imm [.str,.str,.str])::.any::.any::(.int .i64)::qP 29 []),h:=[] }
def q9Y:List Out:=[⟨(.exit 0),{ t:=((.imm [.str,.str,.str])::qP 32 []),h:=[] }⟩,⟨.ret,{ t:=(.any::.any::.bool::qP 30 []),h:=[] }⟩]
noncomputable def q6a:=qf [(66,qa q69 q64 q1w)] [(40,Tryz.f40)] [] 0
noncomputable def q3M:=jD q6a 40 Tryz.f40 3 qaQ q9Y
theorem qhV:qp Tryz.prog qc q6a.nimp (qC Tryz.prog q6a.iter 40) (zH Tryz.f40 3) (qo qaQ q9Y (qj q3M)):=
 gk q6a qe q9 (alc qaZ aln) aln (b1 Tryz.func40) Tryz.func40
noncomputable def qiK:=qf [(66,qa q69 q64 q1w)] [(40,Tryz.f40)] [((40,3),qo qaQ q9Y (qj q3M))] 0
noncomputable def q4A:=qw qiK 40 Tryz.f40 true qe4 qet
theorem qkX:zF Tryz.prog qc 40 (qa qe4 qet q4A):=sk qiK qe q9 (alc qaZ aln) (alc (lk Tryz.func40 qhV) aln) (b1 Tryz.func40) Tryz.func40
def q63:FIn:=⟨[.str],[]⟩
def q6w:List FOut:=[⟨(.int .i64),[],none⟩]
def q70:Tmpl:={ t:=(.str::.any::.any::(.int .i64)::qP 11 []),h:=[] }
def q7Q:List Out:=[⟨(.exit 0),{ t:=(qP 15 []),h:=[] }⟩,⟨.ret,{ t:=(.any::.any::(.int .i64)::qP 12 []),h:=[] }⟩]
noncomputable def q3T:=qf [] [(130,Tryz.f130)] [] 0
noncomputable def q1m:=jD q3T 130 Tryz.f130 3 q70 q7Q
theorem qeX:qp Tryz.prog qc q3T.nimp (qC Tryz.prog q3T.iter 130) (zH Tryz.f130 3) (qo q70 q7Q (qj q1m)):=
 gk q3T qe q9 aln aln (b1 Tryz.func130) Tryz.func130
noncomputable def qfZ:=qf [] [(130,Tryz.f130)] [((130,3),qo q70 q7Q (qj q1m))] 0
noncomputable def kV:=qw qfZ 130 Tryz.f130 true q63 q6w
theorem qbb:zF Tryz.prog qc 130 (qa q63 q6w kV):=sk qfZ qe q9 aln (alc (lk Tryz.func130 qeX) aln) (b1 Tryz.func130) Tryz.func130
def q6f:FIn:=⟨[.str],[]⟩
def q6g:List FOut:=[⟨(.tuple [.str,.str]),[],none⟩]
noncomputable def qfI:=qf [(130,qa q63 q6w kV)] [(128,Tryz.f128)] [] 0
noncomputable def yQ:=qw qfI 128 Tryz.f128 true q6f q6g
theorem qb9:zF Tryz.prog qc 128 (qa q6f q6g yQ):=sk qfI qe q9 (alc qbb aln) aln (b1 Tryz.func128) Tryz.func128
def w9:FIn:=⟨[.str],[]⟩
def wd:List FOut:=[⟨.str,[],none⟩]
noncomputable def qhQ:=qf [] [(156,Tryz.f156)] [] 0
noncomputable def qu:=qw qhQ 156 Tryz.f156 true w9 wd
theorem zw:zF Tryz.prog qc 156 (qa w9 wd qu):=sk qhQ qe q9 aln aln (b1 Tryz.func156) Tryz.func156
def qaL:FIn:=⟨[.str],[]⟩
def qaq:List FOut:=[⟨(.int .i64),[],none⟩]
def q7H:Tmpl:={ t:=(.any::.any::.any::.str::(.int .i64)::qP 38 []),h:=[] }
def q7h:List Out:=[⟨(.exit 0),{ t:=(.any::.any::.any::.str::qP 39 []),h:=[] }⟩,⟨.ret,{ t:=(.any::.any::(.int .i64)::qP 40 []),h:=[] }⟩]
noncomputable def q3B:=qf [(156,qa w9 wd qu)] [(129,Tryz.f129)] [] 0
noncomputable def kH:=jD q3B 129 Tryz.f129 7 q7H q7h
theorem qf7:qp Tryz.prog qc q3B.nimp (qC Tryz.prog q3B.iter 129) (zH Tryz.f129 7) (qo q7H q7h (qj kH)):=
 gk q3B qe q9 (alc zw aln) aln (b1 Tryz.func129) Tryz.func129
noncomputable def qeO:=qf [(156,qa w9 wd qu)] [(129,Tryz.f129)] [((129,7),qo q7H q7h (qj kH))] 0
noncomputable def q1U:=qw qeO 129 Tryz.f129 true qaL qaq
theorem qhY:zF Tryz.prog qc 129 (qa qaL qaq q1U):=sk qeO qe q9 (alc zw aln) (alc (lk Tryz.func129 qf7) aln) (b1 Tryz.func129) Tryz.func129
def jT:FIn:=⟨[.str],[]⟩
def jK:List FOut:=[⟨.bool,[],none⟩]
noncomputable def qfV:=qf [] [(158,Tryz.f158)] [] 0
noncomputable def qI:=qw qfV 158 Tryz.f158 true jT jK
theorem jn:zF Tryz.prog qc 158 (qa jT jK qI):=sk qfV qe q9 aln aln (b1 Tryz.func158) Tryz.func158
def vU:FIn:=⟨[.str,.bool],[]⟩
def vZ:List FOut:=[⟨.str,[],none⟩]
noncomputable def qdr:=qf [] [(159,Tryz.f159)] [] 0
noncomputable def qJ:=qw qdr 159 Tryz.f159 true vU vZ
theorem vN:zF Tryz.prog qc 159 (qa vU vZ qJ):=sk qdr qe q9 aln aln (b1 Tryz.func159) Tryz.func159
def q8Q:FIn:=⟨[.str],[]⟩
def q8T:List FOut:=[⟨(.int .i64),[],none⟩]
def q5K:Tmpl:={ t:=(.str::.any::.any::(.int .i64)::.str::(.int .i64)::qP 21 []),h:=[] }
def q5H:List Out:=[⟨(.exit 0),{ t:=(.str::.any::.any::(.int .i64)::qP 23 []),h:=[] }⟩]
noncomputable def q2L:=qf [(156,qa w9 wd qu),(158,qa jT jK qI)] [(193,Tryz.f193)] [] 0
noncomputable def yE:=jD q2L 193 Tryz.f193 4 q5K q5H
theorem qeF:qp Tryz.prog qc q2L.nimp (qC Tryz.prog q2L.iter 193) (zH Tryz.f193 4) (qo q5K q5H (qj yE)):=
 gk q2L qe q9 (alc zw (alc jn aln)) aln (b1 Tryz.func193) Tryz.func193
noncomputable def qdz:=qf [(156,qa w9 wd qu),(158,qa jT jK qI)] [(193,Tryz.f193)] [((193,4),qo q5K q5H (qj yE))] 0
noncomputable def jV:=qw qdz 193 Tryz.f193 true q8Q q8T
theorem qh4:zF Tryz.prog qc 193 (qa q8Q q8T jV):=sk qdz qe q9 (alc zw (alc jn aln)) (alc (lk Tryz.func193 qeF) aln) (b1 Tryz.func193) Tryz.func193
def yZ:FIn:=⟨[.str,.str],[]⟩
def u4:List FOut:=[⟨(.tuple [(.int .i64),(.int .i64),.bool]),[],none⟩]
noncomputable def qfg:=qf [(156,qa w9 wd qu),(193,qa q8Q q8T jV)] [(160,Tryz.f160)] [] 0
noncomputable def zU:=qw qfg 160 Tryz.f160 true yZ u4
theorem yJ:zF Tryz.prog qc 160 (qa yZ u4 zU):=sk qfg qe q9 (alc zw (alc qh4 aln)) aln (b1 Tryz.func160) Tryz.func160
def un:FIn:=⟨[.str],[]⟩
def uD:List FOut:=[⟨.str,[],none⟩]
noncomputable def qdD:=qf [(156,qa w9 wd qu),(158,qa jT jK qI),(159,qa vU vZ qJ)] [(192,Tryz.f192)] [] 0
noncomputable def wE:=qw qdD 192 Tryz.f192 true un uD
theorem uS:zF Tryz.prog qc 192 (qa un uD wE):=sk qdD qe q9 (alc zw (alc jn (alc vN aln))) aln (b1 Tryz.func192) Tryz.func192
def qaB:FIn:=⟨[(.int .i64)],[]⟩
def qag:List FOut:=[⟨.str,[],none⟩]
def qao:Tmpl:={ t:=((.int .i64)::.any::.any::.str::qP 33 []),h:=[] }
def qa1:List Out:=[⟨(.exit 0),{ t:=((.int .i64)::.any::.any::.str::qP 33 []),h:=[] }⟩]
noncomputable def q68:=qf [(192,qa un uD wE)] [] [] 0
noncomputable def q3q:=jD q68 161 Tryz.f161 9 qao qa1
theorem qi1:qp Tryz.prog qc q68.nimp (qC Tryz.prog q68.iter 161) (zH Tryz.f161 9) (qo qao qa1 (qj q3q)):=
 gk q68 qe q9 (alc uS aln) aln aln Tryz.func161
noncomputable def qjU:=qf [(192,qa un uD wE)] [] [((161,9),qo qao qa1 (qj q3q))] 0
noncomputable def q33:=qw qjU 161 Tryz.f161 true qaB qag
theorem qdV:zF Tryz.prog qc 161 (qa qaB qag q33):=sk qjU qe q9 (alc uS aln) (alc (lk Tryz.func161 qi1) aln) aln Tryz.func161
def q3a:FIn:=⟨[(.int .i64)],[]⟩
def q3b:List FOut:=[⟨.str,[],none⟩]
def qcf:Tmpl:={ t:=((.int .i64)::.any::.any::.str::qP 33 []),h:=[] }
def qby:List Out:=[⟨(.exit 0),{ t:=((.int .i64)::.any::.any::.str::qP 33 []),h:=[] }⟩]
noncomputable def q8l:=qf [(161,qa qaB qag q33),(192,qa un uD wE)] [] [] 0
noncomputable def q5m:=jD q8l 161 Tryz.f161 9 qcf qby
theorem qjK:qp Tryz.prog qc q8l.nimp (qC Tryz.prog q8l.iter 161) (zH Tryz.f161 9) (qo qcf qby (qj q5m)):=
 gk q8l qe q9 (alc qdV (alc uS aln)) aln aln Tryz.func161
noncomputable def qlV:=qf [(161,qa qaB qag q33),(192,qa un uD wE)] [] [((161,9),qo qcf qby (qj q5m))] 0
noncomputable def zO:=qw qlV 161 Tryz.f161 true q3a q3b
theorem q1J:zF Tryz.prog qc 161 (qa q3a q3b zO):=sk qlV qe q9 (alc qdV (alc uS aln)) (alc (lk Tryz.func161 qjK) aln) aln Tryz.func161
def j8:FIn:=⟨[.str],[]⟩
def j5:List FOut:=[⟨.str,[],none⟩]
def q94:Tmpl:={ t:=(.str::qP 13 []),h:=[] }
def q8B:List Out:=[⟨(.exit 0),{ t:=(.str::qP 13 []),h:=[] }⟩]
noncomputable def q4U:=qf [] [(217,Tryz.f217)] [] 0
noncomputable def q2A:=jD q4U 217 Tryz.f217 2 q94 q8B
theorem qgu:qp Tryz.prog qc q4U.nimp (qC Tryz.prog q4U.iter 217) (zH Tryz.f217 2) (qo q94 q8B (qj q2A)):=
 gk q4U qe q9 aln aln (b1 Tryz.func217) Tryz.func217
noncomputable def qhS:=qf [] [(217,Tryz.f217)] [((217,2),qo q94 q8B (qj q2A))] 0
noncomputable def zB:=qw qhS 217 Tryz.f217 true j8 j5
theorem vk:zF Tryz.prog qc 217 (qa j8 j5 zB):=sk qhS qe q9 aln (alc (lk Tryz.func217 qgu) aln) (b1 Tryz.func217) Tryz.func217
def q8o:FIn:=⟨[.str,(.int .i64)],[]⟩
def q8h:List FOut:=[⟨.str,[],none⟩]
def q9c:Tmpl:={ t:=(.str::(.int .i64)::.any::.any::.any::(.vec 0)::(.int .i64)::qP 20 []),h:=[.vec 5 [(.int .u8)]] }
def q8z:List Out:=[⟨(.exit 0),{ t:=(.str::(.int .i64)::.any::.any::.any::(.vec 0)::qP 21 []),h:=[.vec 5 [(.int .u8)]] }⟩]
noncomputable def q57:=qf [] [(240,Tryz.f240)] [] 0
noncomputable def q0v:=jD q57 240 Tryz.f240 4 q9c q8z
theorem qgY:qp Tryz.prog qc q57.nimp (qC Tryz.prog q57.iter 240) (zH Tryz.f240 4) (qo q9c q8z (qj q0v)):=
 gk q57 qe q9 aln aln (b1 Tryz.func240) Tryz.func240
noncomputable def qhA:=qf [] [(240,Tryz.f240)] [((240,4),qo q9c q8z (qj q0v))] 0
noncomputable def q13:=qw qhA 240 Tryz.f240 true q8o q8h
theorem qbH:zF Tryz.prog qc 240 (qa q8o q8h q13):=sk qhA qe q9 aln (alc (lk Tryz.func240 qgY) aln) (b1 Tryz.func240) Tryz.func240
def q54:FIn:=⟨[(.int .u8),(.int .u8),(.int .i64),.bool],[]⟩
def q51:List FOut:=[⟨(.tuple [(.int .u8),(.int .i64)]),[],none⟩]
noncomputable def qdS:=qf [] [(241,Tryz.f241)] [] 0
noncomputable def q0y:=qw qdS 241 Tryz.f241 true q54 q51
theorem q9y:zF Tryz.prog qc 241 (qa q54 q51 q0y):=sk qdS qe q9 aln aln (b1 Tryz.func241) Tryz.func241
def q1t:FIn:=⟨[.str,.str,.bool],[]⟩
def q1S:List FOut:=[⟨.str,[],none⟩]
def q7F:Tmpl:={ t:=(.str::.str::.bool::qP 5 ((.vec 0)::(.int .i64)::(.int .i64)::qP 38 [])),h:=[.vec 5 [(.int .u8)]] }
def q7j:List Out:=[⟨(.exit 0),{ t:=(qP 8 ((.vec 0)::qP 40 [])),h:=[.vec 5 [(.int .u8)]] }⟩]
noncomputable def q3I:=qf [(217,qa j8 j5 zB),(240,qa q8o q8h q13),(241,qa q54 q51 q0y)] [(215,Tryz.f215)] [] 0
noncomputable def kG:=jD q3I 215 Tryz.f215 7 q7F q7j
theorem qfz:qp Tryz.prog qc q3I.nimp (qC Tryz.prog q3I.iter 215) (zH Tryz.f215 7) (qo q7F q7j (qj kG)):=
 gk q3I qe q9 (alc vk (alc qbH (alc q9y aln))) aln (b1 Tryz.func215) Tryz.func215
noncomputable def qfT:=qf [(217,qa j8 j5 zB),(240,qa q8o q8h q13),(241,qa q54 q51 q0y)] [(215,Tryz.f215)] [((215,7),qo q7F q7j (qj kG))] 0
noncomputable def vq:=qw qfT 215 Tryz.f215 true q1t q1S
theorem q2W:zF Tryz.prog qc 215 (qa q1t q1S vq):=sk qfT qe q9 (alc vk (alc qbH (alc q9y aln))) (alc (lk Tryz.func215 qfz) aln) (b1 Tryz.func215) Tryz.func215
def q3c:FIn:=⟨[.str,.str],[]⟩
def q3e:List FOut:=[⟨.bool,[],none⟩]
noncomputable def qho:=qf [] [(216,Tryz.f216)] [] 0
noncomputable def u9:=qw qho 216 Tryz.f216 true q3c q3e
theorem q3P:zF Tryz.prog qc 216 (qa q3c q3e u9):=sk qho qe q9 aln aln (b1 Tryz.func216) Tryz.func216
def qbJ:FIn:=⟨[.str,.str],[]⟩
def qcq:List FOut:=[⟨.str,[],none⟩]
noncomputable def qhl:=qf [(156,qa w9 wd qu),(158,qa jT jK qI),(159,qa vU vZ qJ),(160,qa yZ u4 zU),(161,qa q3a q3b zO),(215,qa q1t q1S vq),(216,qa q3c q3e u9)] [(191,Tryz.f191)] [] 0
noncomputable def q5q:=qw qhl 191 Tryz.f191 true qbJ qcq
theorem qk0:zF Tryz.prog qc 191 (qa qbJ qcq q5q):=sk qhl qe q9 (alc zw (alc jn (alc vN (alc yJ (alc q1J (alc q2W (alc q3P aln))))))) aln (b1 Tryz.func191) Tryz.func191
def q6x:FIn:=⟨[.str,.str],[]⟩
def q6h:List FOut:=[⟨.str,[],none⟩]
noncomputable def qf2:=qf [(191,qa qbJ qcq q5q),(192,qa un uD wE)] [(157,Tryz.f157)] [] 0
noncomputable def j4:=qw qf2 157 Tryz.f157 true q6x q6h
theorem qb7:zF Tryz.prog qc 157 (qa q6x q6h j4):=sk qf2 qe q9 (alc qk0 (alc uS aln)) aln (b1 Tryz.func157) Tryz.func157
def q6q:FIn:=⟨[.str,.str],[]⟩
def q6M:List FOut:=[⟨(.int .i64),[],none⟩]
noncomputable def qff:=qf [(157,qa q6x q6h j4),(158,qa jT jK qI)] [(131,Tryz.f131)] [] 0
noncomputable def kS:=qw qff 131 Tryz.f131 true q6q q6M
theorem qaU:zF Tryz.prog qc 131 (qa q6q q6M kS):=sk qff qe q9 (alc qb7 (alc jn aln)) aln (b1 Tryz.func131) Tryz.func131
def q7d:FIn:=⟨[.str,.str],[]⟩
def q7N:List FOut:=[⟨(.tuple [.str,.str]),[],none⟩]
def q3y:Tmpl:={ t:=(.str::.str::qP 4 (.str::.str::(.int .i64)::(.int .u8)::qP 31 [])),h:=[] }
def q3l:List Out:=[⟨(.exit 2),{ t:=(.str::.str::qP 4 (.str::.str::(.int .i64)::(.int .u8)::qP 31 [])),h:=[] }⟩]
noncomputable def q0W:=qf [(215,qa q1t q1S vq),(216,qa q3c q3e u9),(217,qa j8 j5 zB)] [(194,Tryz.f194)] [] 0
noncomputable def jl:=jD q0W 194 Tryz.f194 11 q3y q3l
theorem qbA:qp Tryz.prog qc q0W.nimp (qC Tryz.prog q0W.iter 194) (zH Tryz.f194 11) (qo q3y q3l (qj jl)):=
 gk q0W qe q9 (alc q2W (alc q3P (alc vk aln))) aln (b1 Tryz.func194) Tryz.func194
def q4k:Tmpl:={ t:=(.str::.str::qP 4 (.str::.str::(.int .i64)::qP 32 [])),h:=[] }
def q4v:List Out:=[⟨(.exit 0),{ t:=(qP 6 (.str::.str::qP 33 [])),h:=[] }⟩]
noncomputable def q1R:=qf [(215,qa q1t q1S vq),(216,qa q3c q3e u9),(217,qa j8 j5 zB)] [(194,Tryz.f194)] [((194,11),qo q3y q3l (qj jl))] 0
noncomputable def kq:=jD q1R 194 Tryz.f194 4 q4k q4v
theorem qdh:qp Tryz.prog qc q1R.nimp (qC Tryz.prog q1R.iter 194) (zH Tryz.f194 4) (qo q4k q4v (qj kq)):=
 gk q1R qe q9 (alc q2W (alc q3P (alc vk aln))) (alc (lk Tryz.func194 qbA) aln) (b1 Tryz.func194) Tryz.func194
noncomputable def qcj:=qf [(215,qa q1t q1S vq),(216,qa q3c q3e u9),(217,qa j8 j5 zB)] [(194,Tryz.f194)] [((194,4),qo q4k q4v (qj kq))] 0
noncomputable def q1p:=qw qcj 194 Tryz.f194 true q7d q7N
theorem qfa:zF Tryz.prog qc 194 (qa q7d q7N q1p):=sk qcj qe q9 (alc q2W (alc q3P (alc vk aln))) (alc (lk Tryz.func194 qdh) aln) (b1 Tryz.func194) Tryz.func194
def q6X:FIn:=⟨[.str,.str],[]⟩
def q7y:List FOut:=[⟨.str,[],none⟩]
def q4n:Tmpl:={ t:=(.str::.str::.any::.any::.any::(.vec 0)::(.int .i64)::(.int .i64)::qP 69 []),h:=[.vec 3 [(.int .i64)]] }
def q4E:List Out:=[⟨(.exit 2),{ t:=(.str::.str::.any::.any::.any::(.vec 0)::(.int .i64)::qP 70 []),h:=[.vec 3 [(.int .i64)]] }⟩]
noncomputable def q1r:=qf [(217,qa j8 j5 zB)] [(218,Tryz.f218)] [] 0
noncomputable def yg:=jD q1r 218 Tryz.f218 9 q4n q4E
theorem qd9:qp Tryz.prog qc q1r.nimp (qC Tryz.prog q1r.iter 218) (zH Tryz.f218 9) (qo q4n q4E (qj yg)):=
 gk q1r qe q9 (alc vk aln) aln (b1 Tryz.func218) Tryz.func218
def q4O:Tmpl:={ t:=(.str::.str::.any::.any::.any::(.vec 0)::(.int .i64)::qP 70 []),h:=[.vec 3 [(.int .i64)]] }
def q4P:List Out:=[⟨(.exit 0),{ t:=(qP 5 ((.vec 0)::qP 71 [])),h:=[.vec 3 [(.int .i64)]] }⟩]
noncomputable def q1v:=qf [(217,qa j8 j5 zB)] [(218,Tryz.f218)] [((218,9),qo q4n q4E (qj yg))] 0
noncomputable def ye:=jD q1v 218 Tryz.f218 4 q4O q4P
theorem qde:qp Tryz.prog qc q1v.nimp (qC Tryz.prog q1v.iter 218) (zH Tryz.f218 4) (qo q4O q4P (qj ye)):=
 gk q1v qe q9 (alc vk aln) (alc (lk Tryz.func218 qd9) aln) (b1 Tryz.func218) Tryz.func218
def q3w:Tmpl:={ t:=(qP 5 ((.vec 0)::.any::.any::(.vec 1)::(.int .i64)::(.int .i64)::qP 66 [])),h:=[.vec 3 [(.int .i64)],.vec 5 [(.int .u8)]] }
def q3Y:List Out:=[⟨(.exit 4),{ t:=(qP 8 ((.vec 1)::qP 68 [])),h:=[.dead,.vec 5 [(.int .u8)]] }⟩]
noncomputable def q0O:=qf [(217,qa j8 j5 zB)] [(218,Tryz.f218)] [] 0
noncomputable def jk:=jD q0O 218 Tryz.f218 17 q3w q3Y
theorem qbK:qp Tryz.prog qc q0O.nimp (qC Tryz.prog q0O.iter 218) (zH Tryz.f218 17) (qo q3w q3Y (qj jk)):=
 gk q0O qe q9 (alc vk aln) aln (b1 Tryz.func218) Tryz.func218
noncomputable def qcz:=qf [(217,qa j8 j5 zB)] [(218,Tryz.f218)] [((218,4),qo q4O q4P (qj ye)),((218,17),qo q3w q3Y (qj jk))] 0
noncomputable def kg:=qw qcz 218 Tryz.f218 true q6X q7y
theorem qgg:zF Tryz.prog qc 218 (qa q6X q7y kg):=sk qcz qe q9 (alc vk aln) (alc (lk Tryz.func218 qde) (alc (lk Tryz.func218 qbK) aln)) (b1 Tryz.func218) Tryz.func218
def qaG:FIn:=⟨[.str,.str],[]⟩
def qaD:List FOut:=[⟨.str,[],none⟩]
noncomputable def qfG:=qf [(156,qa w9 wd qu),(158,qa jT jK qI),(159,qa vU vZ qJ),(160,qa yZ u4 zU),(161,qa q3a q3b zO),(218,qa q6X q7y kg)] [(195,Tryz.f195)] [] 0
noncomputable def q0b:=qw qfG 195 Tryz.f195 true qaG qaD
theorem qhU:zF Tryz.prog qc 195 (qa qaG qaD q0b):=sk qfG qe q9 (alc zw (alc jn (alc vN (alc yJ (alc q1J (alc qgg aln)))))) aln (b1 Tryz.func195) Tryz.func195
def q2z:FIn:=⟨[.str,.str],[]⟩
def q2p:List FOut:=[⟨(.tuple [.str,.str]),[],none⟩]
noncomputable def qdu:=qf [(156,qa w9 wd qu),(157,qa q6x q6h j4),(158,qa jT jK qI),(159,qa vU vZ qJ),(160,qa yZ u4 zU),(161,qa q3a q3b zO),(194,qa q7d q7N q1p),(195,qa qaG qaD q0b)] [(162,Tryz.f162)] [] 0
noncomputable def ux:=qw qdu 162 Tryz.f162 true q2z q2p
theorem q4K:zF Tryz.prog qc 162 (qa q2z q2p ux):=sk qdu qe q9 (alc zw (alc qb7 (alc jn (alc vN (alc yJ (alc q1J (alc qfa (alc qhU aln)))))))) aln (b1 Tryz.func162) Tryz.func162
def q90:FIn:=⟨[.str,.str],[]⟩
def q8I:List FOut:=[⟨.str,[],none⟩]
def q4r:Tmpl:={ t:=(qP 5 ((.int .i64)::(.int .i64)::qP 36 [])),h:=[] }
def q4p:List Out:=[⟨(.exit 2),{ t:=(qP 5 ((.int .i64)::qP 37 [])),h:=[] }⟩]
noncomputable def q1z:=qf [(156,qa w9 wd qu),(159,qa vU vZ qJ),(160,qa yZ u4 zU),(161,qa q3a q3b zO),(162,qa q2z q2p ux)] [(132,Tryz.f132)] [] 0
noncomputable def yb:=jD q1z 132 Tryz.f132 10 q4r q4p
theorem qdg:qp Tryz.prog qc q1z.nimp (qC Tryz.prog q1z.iter 132) (zH Tryz.f132 10) (qo q4r q4p (qj yb)):=
 gk q1z qe q9 (alc zw (alc vN (alc yJ (alc q1J (alc q4K aln))))) aln (b1 Tryz.func132) Tryz.func132
def q5A:Tmpl:={ t:=(.str::.str::qP 41 []),h:=[] }
def q5I:List Out:=[⟨(.exit 0),{ t:=(.str::qP 42 []),h:=[] }⟩,⟨.ret,{ t:=(qP 4 (.str::qP 38 [])),h:=[] }⟩]
noncomputable def q2P:=qf [(156,qa w9 wd qu),(159,qa vU vZ qJ),(160,qa yZ u4 zU),(161,qa q3a q3b zO),(162,qa q2z q2p ux)] [(132,Tryz.f132)] [((132,10),qo q4r q4p (qj yb))] 0
noncomputable def q0d:=jD q2P 132 Tryz.f132 3 q5A q5I
theorem qe0:qp Tryz.prog qc q2P.nimp (qC Tryz.prog q2P.iter 132) (zH Tryz.f132 3) (qo q5A q5I (qj q0d)):=
 gk q2P qe q9 (alc zw (alc vN (alc yJ (alc q1J (alc q4K aln))))) (alc (lk Tryz.func132 qdg) aln) (b1 Tryz.func132) Tryz.func132
noncomputable def qdG:=qf [(156,qa w9 wd qu),(159,qa vU vZ qJ),(160,qa yZ u4 zU),(161,qa q3a q3b zO),(162,qa q2z q2p ux)] [(132,Tryz.f132)] [((132,3),qo q5A q5I (qj q0d))] 0
noncomputable def q2I:=qw qdG 132 Tryz.f132 true q90 q8I
theorem qhi:zF Tryz.prog qc 132 (qa q90 q8I q2I):=sk qdG qe q9 (alc zw (alc vN (alc yJ (alc q1J (alc q4K aln))))) (alc (lk Tryz.func132 qe0) aln) (b1 Tryz.func132) Tryz.func132
def q6b:FIn:=⟨[.str],[]⟩
def q66:List FOut:=[⟨(.int .i64),[],none⟩]
noncomputable def qfJ:=qf [(128,qa q6f q6g yQ),(129,qa qaL qaq q1U),(130,qa q63 q6w kV),(131,qa q6q q6M kS),(132,qa q90 q8I q2I)] [(99,Tryz.f99)] [] 0
noncomputable def q1M:=qw qfJ 99 Tryz.f99 true q6b q66
theorem qb1:zF Tryz.prog qc 99 (qa q6b q66 q1M):=sk qfJ qe q9 (alc qb9 (alc qhY (alc qbb (alc qaU (alc qhi aln))))) aln (b1 Tryz.func99) Tryz.func99
def q5a:FIn:=⟨[.str],[]⟩
def q50:List FOut:=[⟨(.int .i64),[],none⟩]
noncomputable def qdH:=qf [(128,qa q6f q6g yQ),(131,qa q6q q6M kS)] [(100,Tryz.f100)] [] 0
noncomputable def q0s:=qw qdH 100 Tryz.f100 true q5a q50
theorem q9J:zF Tryz.prog qc 100 (qa q5a q50 q0s):=sk qdH qe q9 (alc qb9 (alc qaU aln)) aln (b1 Tryz.func100) Tryz.func100
def q6m:FIn:=⟨[(.agg [.str,.str,.str])],[]⟩
def q6d:List FOut:=[⟨(.int .i64),[],none⟩]
def q7u:Tmpl:={ t:=(.any::(.ptr 0 0)::qP 12 ((.vec 1)::(.int .i64)::(.int .i64)::qP 13 [])),h:=[.cells [.str,.str,.str],.vec 61 [.str]] }
def q6Y:List Out:=[⟨(.exit 0),{ t:=(.any::(.ptr 0 0)::qP 28 []),h:=[.cells [.str,.str,.str]] }⟩,⟨.ret,{ t:=(.any::.any::(.int .i64)::qP 27 []),h:=[] }⟩]
noncomputable def q3n:=qf [(99,qa q6b q66 q1M),(100,qa q5a q50 q0s)] [(67,Tryz.f67)] [] 0
noncomputable def q1i:=jD q3n 67 Tryz.f67 3 q7u q6Y
theorem qfS:qp Tryz.prog qc q3n.nimp (qC Tryz.prog q3n.iter 67) (zH Tryz.f67 3) (qo q7u q6Y (qj q1i)):=
 gk q3n qe q9 (alc qb1 (alc q9J aln)) aln (b1 Tryz.func67) Tryz.func67
noncomputable def qfl:=qf [(99,qa q6b q66 q1M),(100,qa q5a q50 q0s)] [(67,Tryz.f67)] [((67,3),qo q7u q6Y (qj q1i))] 0
noncomputable def q1L:=qw qfl 67 Tryz.f67 true q6m q6d
theorem qaV:zF Tryz.prog qc 67 (qa q6m q6d q1L):=sk qfl qe q9 (alc qb1 (alc q9J aln)) (alc (lk Tryz.func67 qfS) aln) (b1 Tryz.func67) Tryz.func67
def qbS:FIn:=⟨[(.imm [.str,.str,.str])],[]⟩
def qcl:List FOut:=[⟨(.int .i64),[],none⟩]
def q92:Tmpl:={ t:=((.imm [.str,.str,.str])::.any::.any::(.int .i64)::qP 21 []),h:=[] }
def q8K:List Out:=[⟨(.exit 0),{ t:=((.imm [.str,.str,.str])::qP 24 []),h:=[] }⟩,⟨.ret,{ t:=(.any::.any::(.int .i64)::qP 22 []),h:=[] }⟩]
noncomputable def q58:=qf [(67,qa q6m q6d q1L)] [(41,Tryz.f41)] [] 0
noncomputable def q0t:=jD q58 41 Tryz.f41 6 q92 q8K
theorem qgW:qp Tryz.prog qc q58.nimp (qC Tryz.prog q58.iter 41) (zH Tryz.f41 6) (qo q92 q8K (qj q0t)):=
 gk q58 qe q9 (alc qaV aln) aln (b1 Tryz.func41) Tryz.func41
noncomputable def qhH:=qf [(67,qa q6m q6d q1L)] [(41,Tryz.f41)] [((41,6),qo q92 q8K (qj q0t))] 0
noncomputable def q1h:=qw qhH 41 Tryz.f41 true qbS qcl
theorem qk6:zF Tryz.prog qc 41 (qa qbS qcl q1h):=sk qhH qe q9 (alc qaV aln) (alc (lk Tryz.func41 qgW) aln) (b1 Tryz.func41) Tryz.func41
def q44:FIn:=⟨[(.imm [.str,.str,.str])],[]⟩
def q3G:List FOut:=[⟨.bool,[],none⟩]
noncomputable def qf9:=qf [(40,qa qe4 qet q4A),(41,qa qbS qcl q1h)] [(15,Tryz.f15)] [] 0
noncomputable def kQ:=qw qf9 15 Tryz.f15 true q44 q3G
theorem q5O:zF Tryz.prog qc 15 (qa q44 q3G kQ):=sk qf9 qe q9 (alc qkX (alc qk6 aln)) aln (b1 Tryz.func15) Tryz.func15
def wP:FIn:=⟨[(.imm [.str,.str,.str])],[]⟩
def wR:List FOut:=[⟨(.tuple [(.imm [(.int .i64)]),(.int .i64)]),[],none⟩]
def jr:Tmpl:={ t:=(.any::(.ptr 0 0)::(.ptr 2 0)::.any::.any::(.vec 4)::qP 4 ((.vec 3)::(.int .i64)::(.int .i64)::qP 26 [])),h:=[.cells [(.imm [.str,.str,.str])],.cells [(.int .i64)],.cells [(.ptr 1 0)],.vec 3 [(.int .i64)],.vec 65 [.str,.str,.str]],pro:=[(5,65,[.str,.str,.str])],fs:=[[.any,(.ptr 0 0),.any,.any,.any,(.ptr 2 0),(.fn 47 [] [(.ptr 0 0),(.ptr 2 0)]),(.int .i64),(.int .i64),.any,.any,.any,.any,.any,.any,.any,.any,.any,.any,.any,.any,(.int .i64),(.int .i64),.any,.any,.any,.any,(.int .i64),(.imm [.str,.str,.str]),(.int .i64),(.blit true),.any,.any,(.fn 47 [] [(.ptr 0 0),(.ptr 2 0)]),(.int .i64),(.int .i64),(.vec 3),.any,.any,.any,.any,.any,.any,.any,.any,.any,.any,.any,.any,.any,.any,.any,.any,.any,.any,.any,.any,.any,.any,.any,.any,.any,.any,.any,.any,.any,.any,.any,.any,.any,.any,.any,.any,.any,.any,.any,.any,.any],[]] }
def jq:List Out:=[⟨(.exit 0),{ t:=(.any::.any::(.ptr 2 0)::.any::.any::(.vec 4)::qP 33 []),h:=[.cells [(.imm [.str,.str,.str])],.cells [(.int .i64)],.cells [(.ptr 1 0)],.vec 3 [(.int .i64)],.vec 65 [.str,.str,.str]],fs:=[[.any,(.ptr 0 0),.any,.any,.any,(.ptr 2 0),(.fn 47 [] [(.ptr 0 0),(.ptr 2 0)]),(.int .i64),(.int .i64),.any,.any,.any,.any,.any,.any,.any,.any,.any,.any,.any,.any,(.int .i64),(.int .i64),.any,.any,.any,.any,(.int .i64),(.imm [.str,.str,.str]),(.int .i64),(.blit true),.any,.any,(.fn 47 [] [(.ptr 0 0),(.ptr 2 0)]),(.int .i64),(.int .i64),(.vec 3),.any,.any,.any,.any,.any,.any,.any,.any,.any,.any,.any,.any,.any,.any,.any,.any,.any,.any,.any,.any,.any,.any,.any,.any,.any,.any,.any,.any,.any,.any,.any,.any,.any,.any,.any,.any,.any,.any,.any,.any,.any],[]] }⟩]
noncomputable def wH:=qf [(45,qa vC vD zq),(46,qa z8 qZ qA)] [(18,Tryz.f18),(47,Tryz.f47)] [] 0
noncomputable def qX:=jD wH 47 Tryz.f47 4 jr jq
theorem q4b:qp Tryz.prog qc wH.nimp (qC Tryz.prog wH.iter 47) (zH Tryz.f47 4) (qo jr jq (qj qX)):=
 gk wH qe q9 (alc wC (alc z7 aln)) aln (alc (bk Tryz.func18) (alc (bk Tryz.func47) aln)) Tryz.func47
def uN:Tmpl:={ t:=(.any::(.ptr 0 0)::.any::.any::.any::(.ptr 2 0)::(.fn 47 [] [(.ptr 0 0),(.ptr 2 0)])::(.int .i64)::(.int .i64)::qP 12 ((.int .i64)::(.int .i64)::qP 55 [])),h:=[.cells [(.imm [.str,.str,.str])],.cells [(.int .i64)],.cells [(.ptr 1 0)]] }
def kl:List Out:=[⟨(.exit 2),{ t:=(.any::(.ptr 0 0)::.any::.any::.any::(.ptr 2 0)::(.fn 47 [] [(.ptr 0 0),(.ptr 2 0)])::qP 14 ((.int .i64)::(.int .i64)::qP 55 [])),h:=[.cells [(.imm [.str,.str,.str])],.cells [(.int .i64)],.cells [(.ptr 1 0)]] }⟩,⟨.ret,{ t:=(.any::.any::(.vec 6)::(.int .i64)::qP 74 []),h:=[.dead,.dead,.dead,.dead,.dead,.dead,.vec 3 [(.int .i64)]] }⟩]
noncomputable def jd:=qf [(45,qa vC vD zq),(46,qa z8 qZ qA)] [(18,Tryz.f18),(47,Tryz.f47)] [((47,4),qo jr jq (qj qX))] 0
noncomputable def wY:=jD jd 18 Tryz.f18 15 uN kl
theorem q7L:qp Tryz.prog qc jd.nimp (qC Tryz.prog jd.iter 18) (zH Tryz.f18 15) (qo uN kl (qj wY)):=
 gk jd qe q9 (alc wC (alc z7 aln)) (alc (lk Tryz.func47 q4b) aln) (alc (bk Tryz.func18) (alc (bk Tryz.func47) aln)) Tryz.func18
def q02:Tmpl:={ t:=(.any::(.ptr 0 0)::.any::.any::.any::(.ptr 2 0)::(.fn 47 [] [(.ptr 0 0),(.ptr 2 0)])::qP 14 ((.int .i64)::(.int .i64)::qP 55 [])),h:=[.cells [(.imm [.str,.str,.str])],.cells [(.int .i64)],.cells [(.ptr 1 0)]] }
def kP:List Out:=[⟨(.exit 0),{ t:=(.any::(.ptr 0 0)::.any::.any::.any::(.ptr 2 0)::(.fn 47 [] [(.ptr 0 0),(.ptr 2 0)])::qP 71 []),h:=[.cells [(.imm [.str,.str,.str])],.cells [(.int .i64)],.cells [(.ptr 1 0)]] }⟩,⟨.ret,{ t:=(.any::.any::(.vec 6)::(.int .i64)::qP 74 []),h:=[.dead,.dead,.dead,.dead,.dead,.dead,.vec 3 [(.int .i64)]] }⟩]
noncomputable def jQ:=qf [(45,qa vC vD zq),(46,qa z8 qZ qA)] [(18,Tryz.f18),(47,Tryz.f47)] [((18,15),qo uN kl (qj wY))] 0
noncomputable def vj:=jD jQ 18 Tryz.f18 9 q02 kP
theorem q82:qp Tryz.prog qc jQ.nimp (qC Tryz.prog jQ.iter 18) (zH Tryz.f18 9) (qo q02 kP (qj vj)):=
 gk jQ qe q9 (alc wC (alc z7 aln)) (alc (lk Tryz.func18 q7L) aln) (alc (bk Tryz.func18) (alc (bk Tryz.func47) aln)) Tryz.func18
def jw:Tmpl:={ t:=(.any::(.ptr 0 0)::(.ptr 2 0)::.any::.any::(.vec 4)::qP 4 ((.vec 3)::(.int .i64)::(.int .i64)::qP 26 [])),h:=[.cells [(.imm [.str,.str,.str])],.cells [(.int .i64)],.cells [(.ptr 1 0)],.vec 3 [(.int .i64)],.vec 65 [.str,.str,.str]],pro:=[(5,65,[.str,.str,.str])],fs:=[[.any,(.ptr 0 0),.any,.any,.any,(.ptr 2 0),(.fn 47 [] [(.ptr 0 0),(.ptr 2 0)]),.any,.any,(.int .i64),(.int .i64),(.int .i64),.any,.any,.any,.any,.any,.any,.any,.any,.any,.any,.any,.any,.any,.any,.any,.any,.any,.any,.any,.any,.any,.any,.any,.any,.any,.any,.any,.any,.any,.any,.any,(.int .i64),(.int .i64),.any,.any,.any,.any,.any,.any,.any,.any,.any,.any,.any,.any,(.int .i64),(.imm [.str,.str,.str]),(.int .i64),(.blit true),.any,.any,(.fn 47 [] [(.ptr 0 0),(.ptr 2 0)]),(.int .i64),(.int .i64),(.int .i64),(.vec 3),.any,.any,.any,.any,.any,.any,.any,.any,.any,.any],[]] }
def jp:List Out:=[⟨(.exit 0),{ t:=(.any::.any::(.ptr 2 0)::.any::.any::(.vec 4)::qP 33 []),h:=[.cells [(.imm [.str,.str,.str])],.cells [(.int .i64)],.cells [(.ptr 1 0)],.vec 3 [(.int .i64)],.vec 65 [.str,.str,.str]],fs:=[[.any,(.ptr 0 0),.any,.any,.any,(.ptr 2 0),(.fn 47 [] [(.ptr 0 0),(.ptr 2 0)]),.any,.any,(.int .i64),(.int .i64),(.int .i64),.any,.any,.any,.any,.any,.any,.any,.any,.any,.any,.any,.any,.any,.any,.any,.any,.any,.any,.any,.any,.any,.any,.any,.any,.any,.any,.any,.any,.any,.any,.any,(.int .i64),(.int .i64),.any,.any,.any,.any,.any,.any,.any,.any,.any,.any,.any,.any,(.int .i64),(.imm [.str,.str,.str]),(.int .i64),(.blit true),.any,.any,(.fn 47 [] [(.ptr 0 0),(.ptr 2 0)]),(.int .i64),(.int .i64),(.int .i64),(.vec 3),.any,.any,.any,.any,.any,.any,.any,.any,.any,.any],[]] }⟩]
noncomputable def wG:=qf [(45,qa vC vD zq),(46,qa z8 qZ qA)] [(18,Tryz.f18),(47,Tryz.f47)] [] 0
noncomputable def qW:=jD wG 47 Tryz.f47 4 jw jp
theorem q4a:qp Tryz.prog qc wG.nimp (qC Tryz.prog wG.iter 47) (zH Tryz.f47 4) (qo jw jp (qj qW)):=
 gk wG qe q9 (alc wC (alc z7 aln)) aln (alc (bk Tryz.func18) (alc (bk Tryz.func47) aln)) Tryz.func47
def kj:Tmpl:={ t:=(.any::(.ptr 0 0)::.any::.any::.any::(.ptr 2 0)::(.fn 47 [] [(.ptr 0 0),(.ptr 2 0)])::.any::.any::(.int .i64)::(.int .i64)::(.int .i64)::qP 31 ((.int .i64)::(.int .i64)::qP 33 [])),h:=[.cells [(.imm [.str,.str,.str])],.cells [(.int .i64)],.cells [(.ptr 1 0)]] }
def uU:List Out:=[⟨(.exit 8),{ t:=(.any::(.ptr 0 0)::.any::.any::.any::(.ptr 2 0)::(.fn 47 [] [(.ptr 0 0),(.ptr 2 0)])::.any::.any::(.int .i64)::(.int .i64)::qP 32 ((.int .i64)::(.int .i64)::qP 33 [])),h:=[.cells [(.imm [.str,.str,.str])],.cells [(.int .i64)],.cells [(.ptr 1 0)]] }⟩,⟨.ret,{ t:=(.any::.any::(.vec 6)::(.int .i64)::qP 74 []),h:=[.dead,.dead,.dead,.dead,.dead,.dead,.vec 3 [(.int .i64)]] }⟩]
noncomputable def jm:=qf [(45,qa vC vD zq),(46,qa z8 qZ qA)] [(18,Tryz.f18),(47,Tryz.f47)] [((47,4),qo jw jp (qj qW))] 0
noncomputable def wM:=jD jm 18 Tryz.f18 34 kj uU
theorem q76:qp Tryz.prog qc jm.nimp (qC Tryz.prog jm.iter 18) (zH Tryz.f18 34) (qo kj uU (qj wM)):=
 gk jm qe q9 (alc wC (alc z7 aln)) (alc (lk Tryz.func47 q4a) aln) (alc (bk Tryz.func18) (alc (bk Tryz.func47) aln)) Tryz.func18
def kw:Tmpl:={ t:=(.any::(.ptr 0 0)::.any::.any::.any::(.ptr 2 0)::(.fn 47 [] [(.ptr 0 0),(.ptr 2 0)])::.any::.any::(.int .i64)::(.int .i64)::qP 32 ((.int .i64)::(.int .i64)::qP 33 [])),h:=[.cells [(.imm [.str,.str,.str])],.cells [(.int .i64)],.cells [(.ptr 1 0)]] }
def uP:List Out:=[⟨(.exit 6),{ t:=(.any::(.ptr 0 0)::.any::.any::.any::(.ptr 2 0)::(.fn 47 [] [(.ptr 0 0),(.ptr 2 0)])::qP 36 ((.int .i64)::(.int .i64)::qP 33 [])),h:=[.cells [(.imm [.str,.str,.str])],.cells [(.int .i64)],.cells [(.ptr 1 0)]] }⟩,⟨.ret,{ t:=(.any::.any::(.vec 6)::(.int .i64)::qP 74 []),h:=[.dead,.dead,.dead,.dead,.dead,.dead,.vec 3 [(.int .i64)]] }⟩]
noncomputable def je:=qf [(45,qa vC vD zq),(46,qa z8 qZ qA)] [(18,Tryz.f18),(47,Tryz.f47)] [((18,34),qo kj uU (qj wM))] 0
noncomputable def v6:=jD je 18 Tryz.f18 29 kw uP
theorem q7O:qp Tryz.prog qc je.nimp (qC Tryz.prog je.iter 18) (zH Tryz.f18 29) (qo kw uP (qj v6)):=
 gk je qe q9 (alc wC (alc z7 aln)) (alc (lk Tryz.func18 q76) aln) (alc (bk Tryz.func18) (alc (bk Tryz.func47) aln)) Tryz.func18
def uM:Tmpl:={ t:=(.any::(.ptr 0 0)::.any::.any::.any::(.ptr 2 0)::(.fn 47 [] [(.ptr 0 0),(.ptr 2 0)])::qP 36 ((.int .i64)::(.int .i64)::qP 33 [])),h:=[.cells [(.imm [.str,.str,.str])],.cells [(.int .i64)],.cells [(.ptr 1 0)]] }
def kd:List Out:=[⟨(.exit 4),{ t:=(qP 5 ((.ptr 2 0)::qP 72 [])),h:=[.dead,.cells [(.int .i64)],.cells [(.ptr 1 0)]] }⟩,⟨.ret,{ t:=(.any::.any::(.vec 6)::(.int .i64)::qP 74 []),h:=[.dead,.dead,.dead,.dead,.dead,.dead,.vec 3 [(.int .i64)]] }⟩]
noncomputable def jj:=qf [(45,qa vC vD zq),(46,qa z8 qZ qA)] [(18,Tryz.f18),(47,Tryz.f47)] [((18,29),qo kw uP (qj v6))] 0
noncomputable def wX:=jD jj 18 Tryz.f18 23 uM kd
theorem q7a:qp Tryz.prog qc jj.nimp (qC Tryz.prog jj.iter 18) (zH Tryz.f18 23) (qo uM kd (qj wX)):=
 gk jj qe q9 (alc wC (alc z7 aln)) (alc (lk Tryz.func18 q7O) aln) (alc (bk Tryz.func18) (alc (bk Tryz.func47) aln)) Tryz.func18
noncomputable def q5s:=qf [(45,qa vC vD zq),(46,qa z8 qZ qA)] [(18,Tryz.f18),(47,Tryz.f47)] [((18,9),qo q02 kP (qj vj)),((18,23),qo uM kd (qj wX))] 0
noncomputable def qT:=qw q5s 18 Tryz.f18 true wP wR
theorem jb:zF Tryz.prog qc 18 (qa wP wR qT):=sk q5s qe q9 (alc wC (alc z7 aln)) (alc (lk Tryz.func18 q82) (alc (lk Tryz.func18 q7a) aln)) (alc (bk Tryz.func18) (alc (bk Tryz.func47) aln)) Tryz.func18
def qc8:FIn:=⟨[.str,.str,.str],[]⟩
def qbQ:List FOut:=[⟨(.agg [.str,.str,.str]),[],none⟩]
noncomputable def qhs:=qf [] [(42,Tryz.f42)] [] 0
noncomputable def wQ:=qw qhs 42 Tryz.f42 true qc8 qbQ
theorem qiq:zF Tryz.prog qc 42 (qa qc8 qbQ wQ):=sk qhs qe q9 aln aln (b1 Tryz.func42) Tryz.func42
def q5R:FIn:=⟨[(.ptr 0 0),(.agg [.str,.str]),(.agg [.str,.str])],[.cells [(.int .i64)]]⟩
def q5x:List FOut:=[⟨.str,[.cells [(.int .i64)]],none⟩]
noncomputable def qb0:=qf [(108,qa ko kC zT),(109,qa q0f q0n zv)] [(103,Tryz.f103)] [] 1
noncomputable def q0c:=qw qb0 103 Tryz.f103 true q5R q5x
theorem qel:zF Tryz.prog qc 103 (qa q5R q5x q0c):=sk qb0 qe q9 (alc q27 (alc q2Y aln)) aln (b1 Tryz.func103) Tryz.func103
def kr:FIn:=⟨[(.ptr 0 0),(.agg [.str,.str,.str]),(.agg [.str,.str,.str]),.str],[.cells [(.int .i64)]]⟩
def kD:List FOut:=[⟨(.int .i64),[.cells [(.int .i64)]],none⟩]
noncomputable def q9t:=qf [(102,qa ju jv qB),(103,qa q5R q5x q0c),(104,qa yG yN qY),(105,qa kE kp zR),(106,qa yD yL qH)] [(70,Tryz.f70)] [] 1
noncomputable def wN:=qw q9t 70 Tryz.f70 true kr kD
theorem q2a:zF Tryz.prog qc 70 (qa kr kD wN):=sk q9t qe q9 (alc yk (alc qel (alc q00 (alc q22 (alc q09 aln))))) aln (b1 Tryz.func70) Tryz.func70
def q45:FIn:=⟨[(.ptr 0 0),.str,.str],[.cells [(.int .i64)]]⟩
def q3s:List FOut:=[⟨(.int .i64),[.cells [(.int .i64)]],none⟩]
noncomputable def q8r:=qf [(102,qa ju jv qB),(105,qa kE kp zR)] [(101,Tryz.f101)] [] 1
noncomputable def yW:=qw q8r 101 Tryz.f101 true q45 q3s
theorem qcv:zF Tryz.prog qc 101 (qa q45 q3s yW):=sk q8r qe q9 (alc yk (alc q22 aln)) aln (b1 Tryz.func101) Tryz.func101
def kO:FIn:=⟨[(.ptr 0 0),(.agg [.str,.str,.str]),(.agg [.str,.str,.str])],[.cells [(.int .i64)]]⟩
def kW:List FOut:=[⟨.bool,[.cells [(.int .i64)]],none⟩]
noncomputable def q7i:=qf [(70,qa kr kD wN),(101,qa q45 q3s yW)] [(69,Tryz.f69)] [] 1
noncomputable def wJ:=qw q7i 69 Tryz.f69 true kO kW
theorem q4h:zF Tryz.prog qc 69 (qa kO kW wJ):=sk q7i qe q9 (alc q2a (alc qcv aln)) aln (b1 Tryz.func69) Tryz.func69
def q8Y:FIn:=⟨[(.agg [.str,.str,.str]),(.agg [.str,.str,.str])],[]⟩
def q8Z:List FOut:=[⟨(.tuple [(.int .i64),(.int .i64)]),[],none⟩]
def q5J:Tmpl:={ t:=(.any::.any::(.ptr 0 0)::(.ptr 1 0)::qP 9 ((.vec 2)::(.int .i64)::(.int .i64)::qP 36 [])),h:=[.cells [.str,.str,.str],.cells [.str,.str,.str],.vec 65 [.str,.str,.str]] }
def q5Q:List Out:=[⟨(.exit 0),{ t:=(.any::.any::(.ptr 0 0)::(.ptr 1 0)::qP 48 []),h:=[.cells [.str,.str,.str],.cells [.str,.str,.str]] }⟩,⟨.ret,{ t:=(qP 4 ((.int .i64)::(.int .i64)::qP 46 [])),h:=[] }⟩]
noncomputable def q2O:=qf [(68,qa q1N q1G jI),(69,qa kO kW wJ),(70,qa kr kD wN)] [(43,Tryz.f43)] [] 0
noncomputable def q0g:=jD q2O 43 Tryz.f43 3 q5J q5Q
theorem qe6:qp Tryz.prog qc q2O.nimp (qC Tryz.prog q2O.iter 43) (zH Tryz.f43 3) (qo q5J q5Q (qj q0g)):=
 gk q2O qe q9 (alc q2K (alc q4h (alc q2a aln))) aln (b1 Tryz.func43) Tryz.func43
noncomputable def qdQ:=qf [(68,qa q1N q1G jI),(69,qa kO kW wJ),(70,qa kr kD wN)] [(43,Tryz.f43)] [((43,3),qo q5J q5Q (qj q0g))] 0
noncomputable def q2i:=qw qdQ 43 Tryz.f43 true q8Y q8Z
theorem qgZ:zF Tryz.prog qc 43 (qa q8Y q8Z q2i):=sk qdQ qe q9 (alc q2K (alc q4h (alc q2a aln))) (alc (lk Tryz.func43 qe6) aln) (b1 Tryz.func43) Tryz.func43
def q0H:FIn:=⟨[(.imm [(.int .i64)]),(.imm [(.int .i64)])],[]⟩
def q0D:List FOut:=[⟨.bool,[],none⟩]
def uT:Tmpl:={ t:=((.imm [(.int .i64)])::(.imm [(.int .i64)])::qP 10 ((.int .i64)::(.int .i64)::qP 12 [])),h:=[] }
def uJ:List Out:=[⟨(.exit 0),{ t:=(qP 26 []),h:=[] }⟩,⟨.ret,{ t:=(qP 4 (.bool::qP 21 [])),h:=[] }⟩]
noncomputable def j9:=qf [] [(44,Tryz.f44)] [] 0
noncomputable def va:=jD j9 44 Tryz.f44 6 uT uJ
theorem q7x:qp Tryz.prog qc j9.nimp (qC Tryz.prog j9.iter 44) (zH Tryz.f44 6) (qo uT uJ (qj va)):=
 gk j9 qe q9 aln aln (b1 Tryz.func44) Tryz.func44
noncomputable def q4c:=qf [] [(44,Tryz.f44)] [((44,6),qo uT uJ (qj va))] 0
noncomputable def wj:=qw q4c 44 Tryz.f44 true q0H q0D
theorem q9a:zF Tryz.prog qc 44 (qa q0H q0D wj):=sk q4c qe q9 aln (alc (lk Tryz.func44 q7x) aln) (b1 Tryz.func44) Tryz.func44
def q3m:FIn:=⟨[],[]⟩
def q3o:List FOut:=[⟨.bool,[],none⟩]
noncomputable def qfv:=qf [(17,qa q0r q0w qV),(18,qa wP wR qT),(42,qa qc8 qbQ wQ),(43,qa q8Y q8Z q2i),(44,qa q0H q0D wj)] [(16,Tryz.f16)] [] 0
noncomputable def jS:=qw qfv 16 Tryz.f16 true q3m q3o
theorem q5C:zF Tryz.prog qc 16 (qa q3m q3o jS):=sk qfv qe q9 (alc q1F (alc jb (alc qiq (alc qgZ (alc q9a aln))))) aln (b1 Tryz.func16) Tryz.func16
def q2w:FIn:=⟨[(.imm [.str,.str,.str]),(.agg [(.int .i64),(.int .i64),(.int .i64)])],[]⟩
def q2C:List FOut:=[⟨(.tuple [.bool,(.int .i64)]),[],none⟩]
noncomputable def qdv:=qf [(45,qa vC vD zq),(48,qa zL zK qL)] [(19,Tryz.f19)] [] 0
noncomputable def uz:=qw qdv 19 Tryz.f19 true q2w q2C
theorem q4L:zF Tryz.prog qc 19 (qa q2w q2C uz):=sk qdv qe q9 (alc wC (alc wi aln)) aln (b1 Tryz.func19) Tryz.func19
def jA:FIn:=⟨[(.imm [(.int .i64)])],[]⟩
def jF:List FOut:=[⟨(.int .i64),[],none⟩]
def q0G:Tmpl:={ t:=((.imm [(.int .i64)])::.any::.any::(.int .i64)::(.int .i64)::qP 20 []),h:=[] }
def q0I:List Out:=[⟨(.exit 0),{ t:=(.any::.any::.any::(.int .i64)::qP 21 []),h:=[] }⟩]
noncomputable def yw:=qf [] [(20,Tryz.f20)] [] 0
noncomputable def wh:=jD yw 20 Tryz.f20 6 q0G q0I
theorem q8G:qp Tryz.prog qc yw.nimp (qC Tryz.prog yw.iter 20) (zH Tryz.f20 6) (qo q0G q0I (qj wh)):=
 gk yw qe q9 aln aln (b1 Tryz.func20) Tryz.func20
noncomputable def q5W:=qf [] [(20,Tryz.f20)] [((20,6),qo q0G q0I (qj wh))] 0
noncomputable def zY:=qw q5W 20 Tryz.f20 true jA jF
theorem kY:zF Tryz.prog qc 20 (qa jA jF zY):=sk q5W qe q9 aln (alc (lk Tryz.func20 q8G) aln) (b1 Tryz.func20) Tryz.func20
def jy:FIn:=⟨[(.imm [(.int .i64)])],[]⟩
def jx:List FOut:=[⟨(.int .i64),[],none⟩]
def q0C:Tmpl:={ t:=((.imm [(.int .i64)])::.any::.any::(.int .i64)::(.int .i64)::qP 20 []),h:=[] }
def q0B:List Out:=[⟨(.exit 0),{ t:=(.any::.any::.any::(.int .i64)::qP 21 []),h:=[] }⟩]
noncomputable def yq:=qf [] [(21,Tryz.f21)] [] 0
noncomputable def wg:=jD yq 21 Tryz.f21 6 q0C q0B
theorem q99:qp Tryz.prog qc yq.nimp (qC Tryz.prog yq.iter 21) (zH Tryz.f21 6) (qo q0C q0B (qj wg)):=
 gk yq qe q9 aln aln (b1 Tryz.func21) Tryz.func21
noncomputable def q5S:=qf [] [(21,Tryz.f21)] [((21,6),qo q0C q0B (qj wg))] 0
noncomputable def zX:=qw q5S 21 Tryz.f21 true jy jx
theorem q07:zF Tryz.prog qc 21 (qa jy jx zX):=sk q5S qe q9 aln (alc (lk Tryz.func21 q99) aln) (b1 Tryz.func21) Tryz.func21
def zf:FIn:=⟨[(.imm [.str,.str,.str])],[]⟩
def zg:List FOut:=[⟨(.vec 0),[.vec 65 [.str,.str,.str]],none⟩]
noncomputable def uF:=qf [] [(23,Tryz.f23)] [] 0
noncomputable def qD:=qw uF 23 Tryz.f23 false zf zg
theorem wI:zF Tryz.prog qc 23 (qa zf zg qD):=qgC (E:=uF) qe ⟨q9u q9,⟨aln,aln⟩,aln,(b1 Tryz.func23)⟩ Tryz.func23 (by kernel_rfl) (by kernel_rfl) (fun _=>rfl)
def q3D:FIn:=⟨[(.imm [.str,.str,.str])],[]⟩
def q3W:List FOut:=[⟨.bool,[],none⟩]
def q1l:Tmpl:={ t:=((.imm [.str,.str,.str])::qP 9 ((.vec 1)::qP 67 ((.imm [(.int .i64)])::(.int .i64)::(.int .i64)::qP 50 []))),h:=[.dead,.vec 65 [.str,.str,.str]],pro:=[(10,65,[.str,.str,.str])] }
def q1o:List Out:=[⟨(.exit 0),{ t:=(qP 10 ((.vec 1)::qP 120 [])),h:=[.dead,.vec 65 [.str,.str,.str]] }⟩]
noncomputable def yV:Env:={ tt:=q5L,glob:=qc,spec:=[(15,qa q44 q3G kQ),(16,qa q3m q3o jS),(17,qa q0r q0w qV),(18,qa wP wR qT),(19,qa q2w q2C uz),(20,qa jA jF zY),(21,qa jy jx zX),(23,qa zf zg qD)],body:=[(4,Tryz.f4)],loops:=[],nimp:=0,raws:=[23],dels:=[(22,65)] }
noncomputable def wT:=jD yV 4 Tryz.f4 19 q1l q1o
theorem q9o:qp Tryz.prog qc yV.nimp (qC Tryz.prog yV.iter 4) (zH Tryz.f4 19) (qo q1l q1o (qj wT)):=
 gk yV qe q9 (alc q5O (alc q5C (alc q1F (alc jb (alc q4L (alc kY (alc q07 (alc wI aln)))))))) aln (b1 Tryz.func4) Tryz.func4 (hd:=(alc qeE aln))
def q19:Tmpl:={ t:=(qP 10 ((.vec 1)::qP 93 ((.int .i64)::(.int .i64)::qP 25 []))),h:=[.dead,.frz 65 [.str,.str,.str]] }
def q1q:List Out:=[⟨(.exit 2),{ t:=(qP 131 []),h:=[] }⟩,⟨.ret,{ t:=(.any::.any::.bool::qP 128 []),h:=[] }⟩]
noncomputable def u5:Env:={ tt:=q5L,glob:=qc,spec:=[(15,qa q44 q3G kQ),(16,qa q3m q3o jS),(17,qa q0r q0w qV),(18,qa wP wR qT),(19,qa q2w q2C uz),(20,qa jA jF zY),(21,qa jy jx zX),(23,qa zf zg qD)],body:=[(4,Tryz.f4)],loops:=[],nimp:=0,raws:=[23],dels:=[(22,65)] }
noncomputable def v8:=jD u5 4 Tryz.f4 30 q19 q1q
theorem q9I:qp Tryz.prog qc u5.nimp (qC Tryz.prog u5.iter 4) (zH Tryz.f4 30) (qo q19 q1q (qj v8)):=
 gk u5 qe q9 (alc q5O (alc q5C (alc q1F (alc jb (alc q4L (alc kY (alc q07 (alc wI aln)))))))) aln (b1 Tryz.func4) Tryz.func4 (hd:=(alc qeE aln))
noncomputable def yX:Env:={ tt:=q5L,glob:=qc,spec:=[(15,qa q44 q3G kQ),(16,qa q3m q3o jS),(17,qa q0r q0w qV),(18,qa wP wR qT),(19,qa q2w q2C uz),(20,qa jA jF zY),(21,qa jy jx zX),(23,qa zf zg qD)],body:=[(4,Tryz.f4)],loops:=[((4,19),qo q1l q1o (qj wT)),((4,30),qo q19 q1q (qj v8))],nimp:=0,raws:=[23],dels:=[(22,65)] }
noncomputable def jh:=qw yX 4 Tryz.f4 true q3D q3W
theorem qcc:zF Tryz.prog qc 4 (qa q3D q3W jh):=sk yX qe q9 (alc q5O (alc q5C (alc q1F (alc jb (alc q4L (alc kY (alc q07 (alc wI aln)))))))) (alc (lk Tryz.func4 q9o) (alc (lk Tryz.func4 q9I) aln)) (b1 Tryz.func4) Tryz.func4 (hd:=(alc qeE aln))
end Go.Eng

