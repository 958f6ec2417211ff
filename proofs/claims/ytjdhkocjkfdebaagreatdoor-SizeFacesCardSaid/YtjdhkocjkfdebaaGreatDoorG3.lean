/- Texts of the proof, merged: what the code computes, and plain laws. No statement stands here. -/
import Derived.KernelRfl
import Derived.Shelf.Strings.SlTrimAscii
import Derived.Shelf.Strings.Search2
import Derived.Shelf.Small.Strs
import Derived.Shelf.Strconv.Itoa3
import Derived.Shelf.Strconv.Atoi
import Derived.Shelf.Strings.BuilderK
import Derived.Shelf.LaysM
import Derived.Test.YtjdhkocjkfdebaaGreatDoorProg
import Derived.WalkKit
import Derived.BigCall
import Derived.Deep.RegionWith
import Derived.Laws.Externs
import Derived.Lib.Builder
import Derived.Lib.AppendStr
import Derived.Shelf.SlicesG.Clone
import Derived.OpenShut
import Derived.Deep.Slices
import Derived.SizedLaws
import Derived.Below
import Derived.Lib.LaidTab
import Derived.Laws.OwnMore
import Derived.Deep.LoopGhost
import Derived.Test.YtjdhkocjkfdebaaGreatDoorG2
namespace Go.Eng
variable {B:Base}{E:Env}{P:Program}{X:Ctx}{a:Act}{f:FuncId}{fn:Func}{st:St}
theorem Sim.env {E E':Env}(he:E.glob=E'.glob)(hn:E.nimp=E'.nimp)(hs:Sim E B X st a):Sim E' B X st a:=⟨hs.hs,hs.h,hs.t,hs.fs,he▸hs.glob,hs.df,hn▸hs.ni,hs.y,hs.pin⟩
theorem uE:∀c:Code,(qZ c).length=zx c:=by
 intro c;induction c<;>simp_all [qZ,zx]
 all_goals omega
theorem qiB{f k:Nat}{L:St->Tree (Ex×St)}:∀{l:List ((Nat×Nat)×(St->Tree (Ex×St)))},q9K l f k=some L->((f,k),L)∈l
 | [],h=>by cases h
 | x::l,h=>by
  simp only[q9K] at h;split at h
  ·rename_i hb;cases h;simp only[qOd] at hb;have h1:=qP0 hb.1;have h2:=qP0 hb.2;have:x=((f,k),x.2):=by obtain⟨⟨a,b⟩,c⟩:=x;simp only at h1 h2;rw[h1,h2]
   exact this▸qOm
  ·exact qOo _ (qiB h)
def qt(P:Program)(gl:List (Nat×AV))(ni:Nat)(BO:Base->Prop)(c:Code)(L:St->Tree (Ex×St)):Prop:=∀(E:Env) (B:Base) (X:Ctx) (st:St) (a:Act) (r:Ex×St),E.glob=gl->E.nimp=ni->BO B->Sim E B X st a->(L st).run=some r->∀(n0:Nat),c.wpIn (q4B B.ro) n0 P (qB9 E B r) a X.w
def Env.loopsOK(E:Env)(P:Program):Prop:=∀x,x∈E.loops->∃fn c c',P.funcs[x.1.1]?=some fn/\fn.body=some c/\(qZ c)[x.1.2]?=some c'/\qt P E.glob E.nimp (qH P E.iter x.1.1) c' x.2
theorem qIG {rangeH:qdW}(hrg:qlJ E P rangeH)(hf:P.funcs[f]?=some fn){cb:Code}(hb:fn.body=some cb){k:Nat}{x:Operand}{ps:Array Tmp}{a b:Code}(hk:(qZ cb)[k]?=some (.rangeFunc x ps a b)) {evA evB:St->Tree (Ex×St)}(hA:∀(B:Base) (X:Ctx) (st:St) (act:Act) (r:Ex×St),qH P E.iter f B->Sim E B X st act->(evA st).run=some r->∀n,a.wpIn (q4B B.ro) n P (qB9 E B r) act X.w)(hB:∀(B:Base) (X:Ctx) (st:St) (act:Act) (r:Ex×St),qH P E.iter f B->Sim E B X st act->(evB st).run=some r->∀n,b.wpIn (q4B B.ro) n P (qB9 E B r) act X.w){B:Base} {X:Ctx} {st:St} {act:Act} {r:Ex×St} {n0:Nat} (hbo:qH P E.iter f B) (hs:Sim E B X st act) {g:FuncId} {first caps:List AV} (hx:E.opd st.t x=.fn g first caps)(hc:(qvC E.iter g f k&&q80 E.iter f&&qBv st)=true) (h:((rangeH g (qzw evA evB ps.toList) (first++[.yld]++caps) st).bind qG5).run=some r) :(Code.rangeFunc x ps a b).wpIn (q4B B.ro) n0 P (qB9 E B r) act X.w:=by
  simp only[qOd] at hc;obtain⟨⟨hit,hni⟩,htop⟩:=hc;have htop':st.fs=[[]]/\st.pend=none/\AV.noYL st.t=true/\st.h.all Blk.noY=true:=by
    unfold qBv at htop;split at htop
    · rename_i h1 h2
      simp only[qOd] at htop;exact⟨h1,h2,htop.1,htop.2⟩
    · cases htop
  obtain⟨t1,t2,t3,t4⟩:=htop';have hBfs:B.fs=[[]]:=by
    have:=hs.fs;rw[t1] at this;generalize B.fs=l at this;cases this with
    | cons g1 g2=>cases g1;cases g2;rfl
  have hro:B.ro=none:=by
    cases hr:B.ro with
    | none=>rfl
    | some l =>
      have:=hbo.1 (by rw[hr];rfl);rw[hBfs] at this;simp at this
  have hfi:qjv E.iter g=some (f,k):=by
    unfold qvC at hit;split at hit
    · rename_i y hy
      simp only[qOd] at hit;rw[hy];obtain⟨y1,y2⟩:=y;have e1:y1=f:=qP0 hit.1;have e2:y2=k:=qP0 hit.2;rw[e1,e2]
    · cases hit
  obtain⟨q,h1,h2⟩:=bind_some h;have hvx:=q8K hs x;rw[hx] at hvx;generalize hev:act.eval x=vx at hvx;cases hvx with
  | fn _ _ _ vf vc g1 g2 =>
  rw[hro];apply wpIn_rangeFunc;intro fid _
  let D:=X.w.heap.size
  let l:=X.w.heap.size+1
  let rec0:Obj:=.loop (q78 fid act.tmps ps a b D none)
  obtain⟨k1,k2⟩:=qnA hs.hs (o:=.deferred (some [])) (fun _ _ _ h=>by cases h);obtain⟨k3,k4⟩:=qnA k1 (o:=rec0) (fun _ _ _ h=>Obj.noConfusion h)
  let X1:Ctx:={ X with w:=(X.w.alloc (.deferred (some []))).alloc rec0,kept:=(l,rec0)::(D,.deferred (some []))::X.kept }
  have hsz:(X.w.alloc (.deferred (some []))).heap.size=l:=by simp[l]
  have hX1:({ ({ X with w:=X.w.alloc (.deferred (some [])),kept:=(X.w.heap.size,.deferred (some []))::X.kept }:Ctx) with w:=(X.w.alloc (.deferred (some []))).alloc rec0,kept:=((X.w.alloc (.deferred (some []))).heap.size,rec0)::(X.w.heap.size,.deferred (some []))::X.kept }:Ctx)=X1:=by rw[hsz]
  have k3':HSim B X1:=hX1▸k3;have k4':Move0 { X with w:=X.w.alloc (.deferred (some [])),kept:=(X.w.heap.size,.deferred (some []))::X.kept } X1 some:=hX1▸k4;have hall:X1.h.all Blk.noY=true:=by show X.h.all Blk.noY=true;rw[hs.h];exact t4
  let X2:Ctx:={ X1 with y:=l }
  have hs2:HSim B X2:=k3'.setY l hall
  let B1:Base:={ B with fs:=act.tmps.toList::B.fs,ro:=none,y:=l,pin:=fun e=>(l,.loop (q78 fid act.tmps ps a b D e))::(D,.deferred (some []))::X.kept }
  have hlt:∀p,p∈(D,(.deferred (some []):Obj))::X.kept->p.1≠l:=by
    intro p hp;rcases qOj.1 hp with rfl|hp
    · show D≠l;simp[D,l]
    · have:=qAD hs.hs hp;simp only[l];omega
  have hI:qBJ P (f,k) B1:=⟨fn,cb,x,ps,a,b,hf,hb,hk,act.tmps,B.fs,D,fid,(D,.deferred (some []))::X.kept,rfl,fun e=>rfl,hlt,rfl⟩;have hB1:qH P E.iter g B1:=⟨fun h=>(by cases h),by rw[hfi];exact hI⟩;have hargs:RepL X2 (first++[.yld]++caps) (vf++[Value.func (.yield l) #[] #[]]++vc):=by
    have hno:AV.noYL first=true/\AV.noYL caps=true:=by
      have hn:(AV.fn g first caps).noY=true:=by
        rw[<-hx];cases x with
        | tmp i =>
          simp only[Env.opd];rw[qNZ];cases hi:st.t[i]? with
          | none=>rfl
          | some v =>
            have:∀(l:List AV),AV.noYL l=true->∀v,v∈l->v.noY=true:=by
              intro l;induction l with
              | nil=>intro _ v hv;cases hv
              | cons y l ih =>
                intro hl v hv;simp only[AV.noYL,qOd] at hl;rcases qOj.1 hv with rfl|hv
                · exact hl.1
                · exact ih hl.2 v hv
            exact this _ t3 v (qON hi)
        | const v => rw [show E.opd st.t (.const v) = ofV v from rfl] at hx; unfold ofV at hx; split at hx; · cases hx
                     · unfold jg at hx;split at hx<;>first|cases hx|(split at hx<;>cases hx)
        | global g' =>
          simp only[Env.opd] at hx;cases hg:E.glob.find? fun x=>x.1==g' with
          | none=>rw[hg] at hx;cases hx
          | some y =>
            rw[hg] at hx;obtain⟨⟨sh,r',i,off,he⟩,_⟩:=hs.glob y (qOU hg);simp only[qOz,qOW] at hx;rw[he] at hx;cases hx
        | func f'=>rw[show E.opd st.t (.func f')=.fn f' [] [] from rfl] at hx;cases hx;rfl
      simpa only [AV.noY,qOd] using hn
    have m1:RepL X1 first vf:=(g1.ext0 k2).ext0 k4'
    have m2:RepL X1 caps vc:=(g2.ext0 k2).ext0 k4';exact((m1.setY l hno.1).append (.cons .yld .nil)).append (m2.setY l hno.2)
  have hF:SimF E B1 X2 st:=by have m1:RepL X1 st.t act.tmps.toList:=(hs.t.ext0 k2).ext0 k4';refine⟨hs2.base rfl rfl rfl,hs.h,?_,qAd (qje k4' (qje k2 hs.glob)) l,hs.ni,rfl,fun p hp=>by rw[t2] at hp;exact hp⟩;show RepLL X2 _ (act.tmps.toList::B.fs);rw[t1,hBfs];exact .cons (m1.setY l t3) (.cons .nil .nil)
  obtain⟨henter,hcalls⟩:=hrg g _ _ st q B1 X2 _ hF hB1 (fun B' hB'=>by obtain⟨_,h'⟩:=hB';rw[hfi] at h';exact qDx hf hb hk hni hA hB h') rfl hargs h1;refine⟨l,[qkN D],X1.w,{ target:=.fn (.func g) vc.toArray,args:=vf.toArray++#[Value.func (.yield l) #[] #[]] },X1.w,g,(vf++[Value.func (.yield l) #[] #[]]++vc).toArray,X1.w,?_,?_,fun _ _=>trivial,?_,qfJ none,?_⟩
  · exact run_enterLoop_outer fid act.tmps ps a b
  · simp only[resolve,hev,Deferred.ofValue,qOw]
    simp[Act.eval]
  · simp only[invoke]
    have:vf.toArray++#[Value.func (.yield l) #[] #[]]++vc.toArray=(vf++[Value.func (.yield l) #[] #[]]++vc).toArray:=by apply qPe;simp
    rw[this];exact henter X1.w
  · refine qFY.2 (hcalls.mono fun e w' ⟨v,X',e1,e2,_,hF'⟩=>?_)
    subst e1 e2;have hpin:=hF'.pin;have hrec:(l,.loop (q78 fid act.tmps ps a b D q.2.pend))∈X'.kept:=hpin _ qOm;have hlie:=(hF'.hs.kept _ hrec).1;simp only at hlie;have hbusy:(q78 fid act.tmps ps a b D q.2.pend).state≠.busy:=by simp only[q78];split<;>simp
    obtain⟨m1,m2⟩:=qbI hF'.hs (o':=.loop { q78 fid act.tmps ps a b D q.2.pend with state:=.exhausted }) hrec (fun _ _ _ h=>by cases h);refine⟨_,_,run_endLoop hlie hbusy,?_⟩;unfold qG5 at h2;cases htq:qBv { q.2 with pend:=none } with
    | false=>rw[htq] at h2;cases h2
    | true =>
    rw[htq] at h2;simp only at h2;have htop2:q.2.fs=[[]]/\AV.noYL q.2.t=true/\q.2.h.all Blk.noY=true:=by
      unfold qBv at htq;split at htq
      · rename_i h1 h2
        simp only[qOd] at htq;exact⟨h1,htq.1,htq.2⟩
      · cases htq
    obtain⟨u1,u2,u3⟩:=htop2
    let X3:Ctx:={ X' with w:=X'.w.putObj l (.loop { q78 fid act.tmps ps a b D q.2.pend with state:=.exhausted }),kept:=qcv l (.loop { q78 fid act.tmps ps a b D q.2.pend with state:=.exhausted }) X'.kept }
    have hsim:Sim E B { X3 with y:=B.y } { q.2 with pend:=none } { act with defers:=[qkN D]++act.defers }:=by
      have hfs':=hF'.fs.ext0 m2;have hold:∀p,p∈(D,(.deferred (some []):Obj))::X.kept->p∈X3.kept:=fun p hp=>q0C (hpin p (qOo _ hp)) (hlt p hp);have hfs2:RepLL X3 (q.2.t::q.2.fs) (act.tmps.toList::B.fs):=hfs';refine⟨((m1.base (B':=B) rfl rfl rfl).setY B.y (by show X'.h.all Blk.noY=true;rw[hF'.h];exact u3)),hF'.h,?_,?_,qAd (qje m2 hF'.glob) B.y,?_,hs.ni,rfl,?_⟩
      · cases hfs2 with|cons z1 z2=>exact z1.setY B.y u2
      · show RepLL _ q.2.fs B.fs
        rw[u1,hBfs];exact .cons .nil .nil
      · obtain⟨Ds,d1,d2,d3⟩:=hs.df
        rw[t2] at d3;refine⟨D::Ds,by rw[d1];rfl,List.nodup_cons.2 ⟨fun hD=>?_,d2⟩,fun D' hD'=>?_⟩
        · have:=qAD hs.hs (d3 D hD).1
          simp[D] at this
        · rcases qOj.1 hD' with rfl|hD'
          · refine⟨hold _ qOm,fun p hp=>?_⟩
            have hp':=hs.pin p (by rw[t2];exact hp);have:=qAD hs.hs hp';simp only[D];omega
          · exact⟨hold _ (qOo _ (d3 D' hD').1),(d3 D' hD').2⟩
      · intro p hp
        exact hold p (qOo _ (hs.pin p (by rw[t2];exact hp)))
    cases hpe:q.2.pend with
    | none =>
      rw[hpe] at h2;simp only[Tree.run,qNY] at h2;subst h2;exact⟨rfl,{ X3 with y:=B.y },by show X'.w.putObj l _=_;rw[hpe],hsim⟩
    | some e =>
      rw[hpe] at h2;cases e with
      | normal=>cases h2
      | ret =>
        simp only[Tree.run,qNY] at h2;subst h2;exact wpIn_ret ⟨rfl,{ X3 with y:=B.y },by show X'.w.putObj l _=_;rw[hpe],hsim⟩
      | exit i =>
        simp only[Tree.run,qNY] at h2;subst h2;exact wpIn_exit ⟨rfl,{ X3 with y:=B.y },by show X'.w.putObj l _=_;rw[hpe],hsim⟩
def Ctx.frzC(X:Ctx)(b:Nat):Ctx:={ X with h:=X.h.set b .dead,M:=fun m=>X.M m\/X.σ b=some m }
theorem Ctx.frzC_ext {b:Nat}{cs:List AV}(hb:X.h[b]?=some (.cells cs)):Ext X (X.frzC b):=by
 refine Move.of (fun _ h=>.inl h) (fun _ _=>rfl) (fun b1 b2 hb1 h=>?_);cases h;refine⟨by simpa[Ctx.frzC] using hb1,rfl,fun sh1 m ⟨e1,l1,h1,h2⟩=>?_,fun _ _ _ m hm c T fr hc=>⟨c,T,fr,hc,rfl⟩⟩;have hbl:=qo hb;rcases h1 with h1|h1
 ·rcases q7c hbl h1 with⟨rfl,h3⟩|⟨hne,h1⟩
  ·cases h3
  ·exact⟨_,_,.inl h1,h2⟩
 ·rcases q7c hbl h1 with⟨rfl,h3⟩|⟨hne,h1⟩
  ·cases h3
  ·exact⟨_,_,.inr h1,h2⟩
theorem HSim.frzC (hs:HSim B X){b:Nat}{cs:List AV}(hb:X.h[b]?=some (.cells cs))(hni:B.imps.length<=b):HSim B (X.frzC b):=by
 have hx:=Ctx.frzC_ext hb;have hbl:=qo hb;have hown:∀b1 n1,(X.frzC b).own b1 n1->b1≠b/\X.own b1 n1:=by
  intro b1 n1 ⟨h1,k1,h2,h3⟩;rcases q7c hbl h2 with⟨rfl,rfl⟩|⟨hne,h2⟩
  ·cases h3
  ·exact⟨hne,h1,k1,h2,h3⟩
 have hob:∀m,X.σ b=some m->X.own b m:=fun m hm=>⟨hm,_,hb,rfl⟩;constructor
 ·intro b1 k1 h;rcases q7c hbl h with⟨rfl,rfl⟩|⟨hne,h1⟩
  ·trivial
  ·exact jf.ext hx rfl (fun _ _=>rfl) (hs.blk b1 k1 h1)
 ·intro b1 b2 m h1 h2;exact hs.inj b1 b2 m (hown b1 m h1).2 (hown b2 m h2).2
 ·intro b1 m h1 h2;rcases h2 with h2|h2
  ·exact hs.notM b1 m (hown b1 m h1).2 h2
  ·exact(hown b1 m h1).1 (hs.inj b1 b m (hown b1 m h1).2 (hob m h2))
 ·intro m h;rcases h with h|h
  ·exact hs.ltM m h
  ·exact Ctx.own.lt hs (hob m h)
 ·intro m h;exact .inl (hs.M0 m h)
 ·intro m h;rcases h with h|h
  ·exact hs.newM m h
  ·exact .inr (hs.fresh b m (hob m h) hni)
 ·exact hs.os
 ·exact hs.tape
 ·exact hs.output
 ·exact hs.size
 ·exact hs.frame
 ·exact hs.imps
 ·intro b1 hb1;obtain⟨cs,h,hc⟩:=hs.impc b1 hb1;exact⟨cs,by simpa[Ctx.frzC,qO1 (show b≠b1 by omega)] using h,hc⟩
 ·intro b1 n1 h1 h2;exact hs.fresh b1 n1 (hown b1 n1 h1).2 h2
 ·exact hs.kept
theorem qHc {a:AV}{s:Sh}{u:U}{v:Value}(h:uOf a=some (s,u))(hr:Rep X a v):RepU X.w X.M s u v:=by
 cases hr<;>simp only[uOf] at h<;>first|(cases h;done)|skip
 all_goals first|(cases h;exact .int _ _)|(cases h;exact .bool _)|(cases h;exact .str _)|skip
 rename_i himm;cases h;exact q9T himm
theorem qwl{X:Ctx}:∀{cs:List AV} {sh:List Sh} {row:List U} {vs:List Value},qML cs=some (sh,row)->RepL X cs vs->sh.length=vs.length/\row.length=vs.length /\
  ∀j (hj:j<sh.length),∃v,vs[j]?=some v/\RepU X.w X.M sh[j] (row.getD j (.i 0)) v
 | [],sh,row,vs,h,hr=>by
  simp only[qML] at h;cases h;cases hr;exact⟨rfl,rfl,fun j hj=>absurd hj (qPO j)⟩
 | a::cs,sh,row,vs,h,hr=>by
  simp only[qML] at h;split at h
  ·rename_i s u ss us h1 h2;cases h;cases hr with
   | cons q1 q2=>
    obtain⟨g1,g2,g3⟩:=qwl h2 q2;refine⟨by simp[g1],by simp[g2],fun j hj=>?_⟩;cases j with
    | zero=>exact⟨_,rfl,qHc h1 q1⟩
    | succ j=>
     obtain⟨v,k1,k2⟩:=g3 j (by simpa using hj);exact⟨v,by simpa using k1,by simpa using k2⟩
  ·cases h
theorem qCb (hs:Sim E B X st a)(b:Nat):∃X',X'.w=X.w/\Sim E B X' (qHG E.nimp b st) a:=by
 unfold qHG;split
 ·rename_i cs hb;split
  ·rename_i sh row hu hni;have hbX:X.h[b]?=some (.cells cs):=by rw[hs.h];exact hb
   have hni':B.imps.length<=b:=qO2 hs.ni (Nat.le_of_ble_eq_true hni);have hx:=Ctx.frzC_ext hbX;have h1:=hs.hs.frzC hbX hni';have hsim:=hs.ext hx h1;obtain⟨n,c,T,g1,g2,g3⟩:=hs.hs.blk b _ hbX;obtain⟨k1,k2,k3⟩:=qwl hu (g3.ext hx);have hrows:Rows (X.frzC b).w (X.frzC b).M sh [row] ⟨n,0,none⟩:=by
    intro r j hj hr;have hr0:r=0:=by simpa using hr
    subst hr0;obtain⟨v,q1,q2⟩:=k3 j hj;refine⟨.inr g1,v,?_,q2⟩;show World.cell? X.w ⟨n,0+0*sh.length+j,none⟩=some v;rw[show 0+0*sh.length+j=j from by omega,zN g2];simpa using q1
   refine⟨X.frzC b,rfl,hsim.hs,by show X.h.set b .dead=_;rw[hs.h],?_,hsim.fs,hsim.glob,hsim.df,hsim.ni,hsim.y,hsim.pin⟩;have key:∀{azz:List AV} {vs:List Value},RepL (X.frzC b) azz vs->RepL (X.frzC b) (azz.map (qMV b sh row)) vs:=by
    intro azz;induction azz with
    | nil=>intro vs h;cases h;exact .nil
    | cons x azz ih=>
     intro vs h;cases h with
     | cons q1 q2=>
      refine .cons ?_ (ih q2);cases x<;>first|exact q1|skip
      rename_i b' off;show Rep _ (if Nat.beq b' b=true then AV.eptr sh [row] 0 off else AV.ptr b' off) _;split
      ·rename_i hbb;obtain rfl:=qP0 hbb;cases q1 with
       | ptr _ _ n' hb' hσ=>
        have hσ':X.σ b'=some n':=hσ;rw[g1] at hσ';cases hσ';have:=Rep.eptr (X:=X.frzC b') sh [row] 0 off ⟨n,0,none⟩ rfl (qOF 0) (by simp) hrows;simpa using this
      ·exact q1
   exact key hsim.t
  ·exact⟨X,rfl,hs⟩
 ·exact⟨X,rfl,hs⟩
theorem qAV (hs:Sim E B X st a)(ops:List Oper):∃X',X'.w=X.w/\Sim E B X' (qw4 E ops st) a:=by
 unfold qw4;split
 ·exact qCb hs _
 ·exact⟨X,rfl,hs⟩
theorem qbL (hm:P.follows .mixedOrders=true)(hE:E.tok P)(hS:E.specs P)(hL:E.loopsOK P)(hf:P.funcs[f]?=some fn){cb:Code}(hb:fn.body=some cb){callH:q8q} (hcH:∀B,qH P E.iter f B->CallOK E P callH B) {callS:List Blk->q7b} (hc:qlw E P callS) (hmo:q5o E callS) {rangeH:qdW} (hrg:qlJ E P rangeH) :∀(c:Code) (k:Nat),(∀j c',(qZ c)[j]?=some c'->(qZ cb)[k+j]?=some c') ->∀{B:Base} {X:Ctx} {st:St} {a:Act} {r:Ex×St} {n0:Nat},qH P E.iter f B->Sim E B X st a->(ye E callH callS rangeH f c k st).run=some r->c.wpIn (q4B B.ro) n0 P (qB9 E B r) a X.w:=by
 intro c;induction c with
 | skip=>
  intro k _ B X st a r n0 hbo hs h;simp only[ye,Tree.run,qNY] at h;subst h;exact wpIn_skip ⟨rfl,X,rfl,hs⟩
 | label _=>
  intro k _ B X st a r n0 hbo hs h;simp only[ye,Tree.run,qNY] at h;subst h;exact wpIn_label ⟨rfl,X,rfl,hs⟩
 | region id ops draw=>
  intro k _ B X st a r n0 hbo hs h;simp only[ye] at h;obtain⟨s,h1,h2⟩:=bind_some h;simp only[Tree.run,qNY] at h2;subst h2;obtain⟨X0,hw0,hs0⟩:=qAV hs ops.toList;rw[<-hw0];cases draw with
  | true=>exact qyX hm hE hS (hcH B hbo) hc hmo hs0 h1 fun X' a' hs'=>⟨rfl,X',rfl,hs'⟩
  | false=>exact qv2 hE (hcH B hbo) hs0 h1 fun X' a' hs'=>⟨rfl,X',rfl,hs'⟩
 | seq c d ihc ihd=>
  intro k hl B X st a r n0 hbo hs h;simp only[ye] at h;cases hfn:q9K E.loops f k with
  | some L=>
   rw[hfn] at h;obtain⟨fn',c1,c2,q1,q2,q3,q4⟩:=hL _ (qiB hfn);simp only at q1 q3 q4;rw[hf] at q1;cases q1;rw[hb] at q2;cases q2;have:=hl 0 (.seq c d) (by simp[qZ]);rw[qOQ,q3] at this;cases this;exact q4 E B X st a r rfl rfl hbo hs h n0
  | none=>
  rw[hfn] at h;obtain⟨r1,h1,h2⟩:=bind_some h;apply wpIn_seq;have g1:=ihc (k+1) (fun j c' hj=>by have:=hl (1+j) c' (by simp only[qZ];rw[Nat.add_comm,qP1,qOb (qo hj)];exact hj);rw[show k+1+j=k+(1+j) by omega];exact this) (n0:=n0) hbo hs h1;refine wpIn_mono g1 fun e a' w' ⟨he,X',hw,hs'⟩=>?_;subst hw;obtain⟨x1,s1⟩:=r1;cases x1 with
  | normal=>
   subst he;refine ihd (k+1+zx c) (fun j c' hj=>?_) hbo hs' h2;have:=hl (1+zx c+j) c' (by simp only[qZ];rw[show 1+zx c+j=(zx c+j)+1 by omega,qP1,qOi (by rw[uE];omega),uE];rw[show zx c+j-zx c=j by omega];exact hj);rw[show k+1+zx c+j=k+(1+zx c+j) by omega];exact this
  | exit i=>
   simp only[Tree.run,qNY] at h2;subst he h2;exact⟨rfl,X',rfl,hs'⟩
  | ret=>
   simp only[Tree.run,qNY] at h2;subst he h2;exact⟨rfl,X',rfl,hs'⟩
 | cond x c d ihc ihd=>
  intro k hl B X st a r n0 hbo hs h;simp only[ye] at h;have hlc:=fun j c' (hj:(qZ c)[j]?=some c')=>hl j c' (by simp only[qZ];rw[qOb (qo hj)];exact hj);have hld:∀j c',(qZ d)[j]?=some c'->(qZ cb)[k+zx c+j]?=some c':=fun j c' hj=>by have:=hl (zx c+j) c' (by simp only[qZ];rw[qOi (by rw[uE];omega),uE];rw[show zx c+j-zx c=j by omega];exact hj);rw[show k+zx c+j=k+(zx c+j) by omega];exact this
  have hx:=q8K hs x;cases hv:E.opd st.t x with
  | blit b=>
   rw[hv] at h hx;generalize hev:a.eval x=vx at hx;cases hx;cases b with
   | true=>exact wpIn_cond_true hev (ihc k hlc hbo hs h)
   | false=>exact wpIn_cond_false hev (ihd _ hld hbo hs h)
  | bool b=>
   rw[hv] at h hx;generalize hev:a.eval x=vx at hx;cases hx;cases x with
   | tmp t=>
    simp only at h;have ht:st.t[t]?=some (.bool b):=by
     simp only[Env.opd,qNZ] at hv;cases hg:st.t[t]? with
     | none=>rw[hg] at hv;cases hv
     | some y=>rw[hg] at hv;simp at hv;rw[hv]
    have hs':=hs.lit ht;cases b with
    | true=>exact wpIn_cond_true hev (ihc k hlc hbo hs' h)
    | false=>exact wpIn_cond_false hev (ihd _ hld hbo hs' h)
   | _=>cases h
  | _=>rw[hv] at h;cases h
 | block id c ihc=>
  intro k hl B X st a r n0 hbo hs h;simp only[ye] at h;obtain⟨r1,h1,h2⟩:=bind_some h;apply wpIn_block;have g1:=@ihc k hl _ _ _ _ _ n0 hbo hs h1;refine wpIn_mono g1 fun e a' w' ⟨he,X',hw,hs'⟩=>?_;subst hw he;obtain⟨x1,s1⟩:=r1;cases x1 with
  | normal=>
   simp only[Tree.run,qNY] at h2;subst h2;exact⟨rfl,X',rfl,hs'⟩
  | ret=>
   simp only[Tree.run,qNY] at h2;subst h2;exact⟨rfl,X',rfl,hs'⟩
  | exit i=>
   simp only[Ex.out,Exit.inBlock];simp only at h2;by_cases hi:i=id
   ·rw[if_pos hi] at h2 ⊢;simp only[Tree.run,qNY] at h2;subst h2;exact⟨rfl,X',rfl,hs'⟩
   ·rw[if_neg hi] at h2 ⊢;simp only[Tree.run,qNY] at h2;subst h2;exact⟨rfl,X',rfl,hs'⟩
 | loop c ihc=>
  intro k hl B X st a r n0 hbo hs h;simp only[ye] at h;cases hfn:q9K E.loops f k with
  | none=>rw[hfn] at h;cases h
  | some L=>
   rw[hfn] at h;obtain⟨fn',c1,c2,q1,q2,q3,q4⟩:=hL _ (qiB hfn);simp only at q1 q3 q4;rw[hf] at q1;cases q1;rw[hb] at q2;cases q2;have:=hl 0 (.loop c) (by simp[qZ]);rw[qOQ,q3] at this;cases this;exact q4 E B X st a r rfl rfl hbo hs h n0
 | exit id=>
  intro k _ B X st a r n0 hbo hs h;simp only[ye,Tree.run,qNY] at h;subst h;exact wpIn_exit ⟨rfl,X,rfl,hs⟩
 | ret  =>
  intro k _ B X st a r n0 hbo hs h;simp only[ye,Tree.run,qNY] at h;subst h;exact wpIn_ret ⟨rfl,X,rfl,hs⟩
 | goto _=>
  intro k _ B X st a r n0 hbo hs h;simp only[ye] at h;cases h
 | scope _ ihc=>
  intro k _ B X st a r n0 hbo hs h;simp only[ye] at h;cases h
 | rangeFunc x ps c d ihc ihd=>
  intro k hl B X st a r n0 hbo hs h;simp only[ye] at h;cases hx:E.opd st.t x with
  | fn g first caps=>
   rw[hx] at h;simp only at h;cases hcd:qvC E.iter g f k&&q80 E.iter f&&qBv st with
   | false=>rw[hcd] at h;cases h
   | true=>
    rw[hcd] at h;simp only at h;refine qIG hrg hf hb (hl 0 _ (by simp[qZ])) (fun B X st act r hbo hs hr n=>?_) (fun B X st act r hbo hs hr n=>?_) hbo hs hx hcd h
    ·refine ihc (k+1) (fun j c' hj=>?_) hbo hs hr;have:=hl (1+j) c' (by simp only[qZ];rw[Nat.add_comm,qP1,qOb (qo hj)];exact hj);rw[show k+1+j=k+(1+j) by omega];exact this
    ·refine ihd (k+1+zx c) (fun j c' hj=>?_) hbo hs hr;have:=hl (1+zx c+j) c' (by simp only[qZ];rw[show 1+zx c+j=(zx c+j)+1 by omega,qP1,qOi (by rw[uE];omega),uE];rw[show zx c+j-zx c=j by omega];exact hj);rw[show k+1+zx c+j=k+(1+zx c+j) by omega];exact this
  | _=>rw[hx] at h;cases h
 | _=>
  intro k hl B X st a r n0 hbo hs h;simp only[ye] at h;cases h
theorem qC0 {w:World}{t:TypeId}{v u:Value}(h:(Instr.loadAt t v).run P w=.ok u w):∃ad,v=.pointer (some ad)/\(loadVar t ad).run P w=.ok u w:=by
 cases v with
 | pointer p=>
  cases p with
  | some ad=>exact⟨ad,rfl,by simpa[Instr.loadAt,Instr.sureAddr] using h⟩
  | none=>simp[Instr.loadAt,Instr.sureAddr] at h
 | _=>simp[Instr.loadAt,Instr.sureAddr] at h
def qMB(tmps:Array Value):ResultVar->Sem Value
 | .tmp t=>pure (tmps.getD t undef)
 | .cell a t=>do loadVar t (<-asAddr (tmps.getD a undef))
theorem qDI (fn:Func)(tmps:Array Value):results fn tmps=(fn.results.mapM (qMB tmps) >>= fun vs=>pure (if h:vs.size=1 then vs[0] else .tuple vs)):=by unfold results;congr 1
theorem ql9{E:Env}{P:Program}(hE:E.tok P){B:Base}{X:Ctx}{st:St}{a:Act}(hs:Sim E B X st a):∀(l:List ResultVar) (vs:List AV),qqk E st.h st.t l=some vs ->
  ∃us,(l.mapM (qMB a.tmps)).run P X.w=.ok us X.w/\RepL X vs us
 | [],vs,h=>by simp only[qqk,qNY] at h;subst h;exact⟨[],by simp,.nil⟩
 | .tmp i::l,vs,h=>by
  simp only[qqk] at h;split at h
  ·rename_i r hr;cases h;obtain⟨us,h1,h2⟩:=ql9 hE hs l r hr;have:=q8K hs (.tmp i);simp only[Env.opd,Act.eval] at this;exact⟨_::us,by simp[List.mapM_cons,qMB,h1],.cons this h2⟩
  ·cases h
 | .cell i ty::l,vs,h=>by
  simp only[qqk] at h;split at h
  ·rename_i v h' n r hld hr;cases h;obtain⟨us,h1,h2⟩:=ql9 hE hs l r hr;have hv:=q8K hs (.tmp i);simp only[Env.opd,Act.eval] at hv;rw[<-hs.h] at hld;obtain⟨av,u,g1,g2,g3⟩:=qhA hE hs.hs hv (r:=(v,h',n)) (by rw[hld];rfl);obtain⟨ad,g4,g5⟩:=qC0 g2;have:v=av:=congrArg Prod.fst g1;subst this;refine⟨u::us,?_,.cons g3 h2⟩;simp only[List.mapM_cons,qMB,qO3,g4,asAddr,qOw,qOa,g5,h1]
  ·cases h
theorem RepL.len:∀{azz:List AV} {vs:List Value},RepL X azz vs->azz.length=vs.length
 | _,_,.nil=>rfl
 | _,_,.cons _ t=>by simp[t.len]
theorem qy9 (hE:E.tok P)(hs:Sim E B X st a){vs:List AV}(h:qqk E st.h st.t fn.results.toList=some vs) :∃u,(results fn a.tmps).run P X.w=.ok u X.w/\Rep X (qGh vs) u:=by
 obtain⟨us,h1,h2⟩:=ql9 hE hs _ _ h;have hm:(fn.results.mapM (qMB a.tmps)).run P X.w=.ok us.toArray X.w:=by rw[Array.mapM_eq_mapM_toList,Sem.run_map,h1];rfl
 rw[qDI,qO3,hm];simp only[qOa,qOw];have hl:=h2.len;cases h2 with
 | nil=>exact⟨_,rfl,.tuple [] [] .nil⟩
 | cons g1 g2=>
  cases g2 with
  | nil=>exact⟨_,rfl,by simpa[qGh] using g1⟩
  | cons g3 g4=>
   refine⟨_,rfl,?_⟩;rw[dif_neg (by simp)];exact .tuple _ _ (.cons g1 (.cons g3 g4))
theorem qHR {args:List AV}{vargs:List Value}(h:RepL X args vargs):RepL X (qDK fn args) (vargs.toArray++Array.replicate (fn.ntmps-vargs.toArray.size) undef).toList:=by
 have hrep:∀n,RepL X (List.replicate n .skip) (List.replicate n undef):=by
  intro n;induction n with
  | zero=>exact .nil
  | succ n ih=>simp only[qPn];exact .cons .skip ih
 unfold qDK;simp only[qQ0,Array.toList_replicate,List.size_toArray];rw[h.len];exact h.append (hrep _)
def Env.bodies(E:Env)(P:Program):Prop:=∀x,x∈E.body->P.funcs[x.1]?=some x.2/\(x.2.name == "runtime.NumGoroutine")=false
theorem qm7 (hm:P.follows .mixedOrders=true)(hE:E.tok P)(hS:E.specs P)(hL:E.loopsOK P)(hf:P.funcs[f]?=some fn){callH:q8q} (hcH:∀B,qH P E.iter f B->CallOK E P callH B) {callS:List Blk->q7b} (hc:qlw E P callS) (hmo:q5o E callS) {rangeH:qdW} (hrg:qlJ E P rangeH){args:List AV} {st:St} {r:AV×St} {B:Base} {X:Ctx} {vargs:List Value} (hro:B.ro=none) (hbo:qH P E.iter f B) (hs:SimF E B X st) (ha:RepL X args vargs) (h:(qwW E callS callH rangeH f fn args st).run=some r) :fn.body.isNone=false/\Calls P f vargs.toArray X.w fun e w'=>∃v X',e=.returned v/\X'.w=w'/\Rep X' r.1 v/\SimF E B X' r.2:=by
 unfold qwW at h;cases hb:fn.body with
 | none=>rw[hb] at h;cases h
 | some c=>
  rw[hb] at h;refine⟨rfl,qFY.1 (callsIn_of_wp_marks (F:=q4B none) (n:=0) hf hb trivial ?_)⟩;obtain⟨r1,h1,h2⟩:=bind_some h;have hsim:Sim E B X { t:=qDK fn args,fs:=st.t::st.fs,h:=st.h,pend:=st.pend } { tmps:=vargs.toArray++Array.replicate (fn.ntmps-vargs.toArray.size) undef,defers:=[] }:=
   ⟨hs.hs,hs.h,qHR ha,hs.fs,hs.glob,qCk.nil,hs.ni,hs.y,hs.pin⟩
  have hcode:=qbL (n0:=0) hm hE hS hL hf hb hcH hc hmo hrg c 0 (fun j c' hj=>by rw[qOS];exact hj) hbo hsim h1;rw[hro] at hcode;refine wpIn_mono hcode fun e a' w' ⟨he,X',hw,hs'⟩=>?_;subst he hw;obtain⟨x1,s1⟩:=r1;have fin:∀{vs:List AV} {caller:List AV} {fs:List (List AV)},qqk E s1.h s1.t fn.results.toList=some vs->s1.fs=caller::fs->r=(qGh vs,{ t:=caller,fs:=fs,h:=s1.h,pend:=s1.pend }) ->
    LeavesInM (q4B none) 0 P fn a'.tmps (fun e w'=>∃v X',e=.returned v/\X'.w=w'/\Rep X' r.1 v/\SimF E B X' r.2) a'.defers .returning X'.w:=by
   intro vs caller fs hr hfs hre;obtain⟨Ds,d1,_⟩:=hs'.df;rw[d1];refine qzS Ds hs' d1 fun X2 hs2=>?_;obtain⟨u,g1,g2⟩:=qy9 hE hs2 hr;refine⟨u,g1,u,X2,rfl,rfl,by rw[hre];exact g2,?_⟩;rw[hre];exact⟨hs2.hs,hs2.h,by rw[<-hfs];exact hs2.fs,hs2.glob,hs2.ni,hs2.y,hs2.pin⟩
  unfold qIo at h2;cases x1 with
  | exit i=>simp only at h2;cases h2
  | normal=>
   simp only at h2;split at h2
   ·rename_i vs caller fs hr hfs;cases h2;exact fin hr hfs rfl
   ·cases h2
  | ret=>
   simp only at h2;split at h2
   ·rename_i vs caller fs hr hfs;cases h2;exact fin hr hfs rfl
   ·cases h2
theorem yR (hf:P.funcs[f]?=some fn)(hn:(fn.name == "runtime.NumGoroutine")=false)(hb:fn.body.isNone=false):qbJ P f:=by intro args w;unfold callFunc;rw[qO3];show (Result.ok P w).andThen _=_;simp only[qOa,hf,hn,hb,qOC,if_false,qOw]
theorem qKr {all:Array Oper}{k:Nat}{o:Oper}{s s':St}(h:(qv9 all k o s).run=some s')(u:St)(hu:u.t=s.t):(qv9 all k o u).run=some { u with t:=s'.t }:=by
 unfold qv9 at h ⊢;split at h
 ·rename_i hg;rw[if_pos hg];split at h
  ·rename_i d hd;simp only[hu];split at h
   ·rename_i b hb;simp only[Tree.run] at h ⊢;cases b<;>(simp only[qNY] at h ⊢;subst h;rfl)
   ·rename_i hb;cases hx:s.t[d]? with
    | none=>simp only[Tree.run,qNY] at h ⊢;subst h;rw[<-hu]
    | some v=>
     rw[hx] at hb;cases v<;>first|(exact absurd rfl (hb _))|(simp only[Tree.run,qNY] at h ⊢;subst h;rw[<-hu])
  ·simp only[Tree.run,qNY] at h ⊢;subst h;rw[<-hu]
 ·rename_i hg;rw[if_neg hg];simp only[Tree.run,qNY] at h ⊢;subst h;rw[<-hu]
theorem qoS{E:Env}{callH:q8q}{all:Array Oper}{st0:St}:∀(l:List Oper) (k:Nat) (t t':List AV),(qwb E st0.h all k l t).run=some t'->(ql3 E callH all k l { st0 with t:=t }).run=some { st0 with t:=t' }
 | [],k,t,t',h=>by simp only[qwb,Tree.run,qNY] at h;subst h;rfl
 | o::rest,k,t,t',h=>by
  simp only[qwb] at h;simp only[ql3];cases hw:q66 all o t with
  | none=>rw[hw] at h;cases h
  | some b=>
   rw[hw] at h;cases b with
   | false=>
    simp only at h ⊢;exact qoS rest (k+1) _ t' h
   | true=>
    simp only at h ⊢;cases hst:qdC E o.op with
    | false=>rw[hst] at h;cases h
    | true=>
     rw[hst] at h;obtain⟨r,h1,h2⟩:=bind_some h;obtain⟨s,h3,h4⟩:=bind_some h2;have hr:=qws hst h1;have hstep:(qs1 E callH o { st0 with t:=t }).run=some { st0 with t:=qkf t o.dst r.1 }:=by
      unfold qs1;split
      ·rename_i x args tys hop;rw[hop] at hst;cases hst
      ·rw[Tree.run_bind,h1];obtain⟨r1,r2⟩:=r;simp only at hr;subst hr;rfl
     rw[Tree.run_bind,hstep];simp only[qOp];rw[Tree.run_bind,qKr h3 { st0 with t:=qkf t o.dst r.1 } rfl];exact qoS rest (k+1) _ t' h4
theorem qzJ {callH:q8q}{callS:List Blk->q7b}{rangeH:qdW}{st0:St}:∀(c:Code) (k:Nat) (t:List AV) (r:Ex×List AV),(q1M E st0.h f c k t).run=some r ->(ye E callH callS rangeH f c k { st0 with t:=t }).run=some (r.1,{ st0 with t:=r.2 }):=by
 intro c;induction c with
 | skip=>intro k t r h;simp only[q1M,Tree.run,qNY] at h;subst h;rfl
 | label _=>intro k t r h;simp only[q1M,Tree.run,qNY] at h;subst h;rfl
 | region id ops draw=>
  intro k t r h;simp only[q1M] at h;cases draw with
  | true=>cases h
  | false=>
   simp only at h;cases hfz:qLp E ops.toList t with
   | some b=>rw[hfz] at h;cases h
   | none=>
   rw[hfz] at h;obtain⟨s,h1,h2⟩:=bind_some h;simp only[Tree.run,qNY] at h2;subst h2;simp only[ye];have e0:qw4 E ops.toList { st0 with t:=t }={ st0 with t:=t }:=by unfold qw4;simp only;rw[hfz]
   rw[e0,Tree.run_bind,qoS (callH:=callH) _ _ _ _ h1];rfl
 | seq c d ihc ihd=>
  intro k t r h;simp only[q1M] at h;simp only[ye];cases hfn:q9K E.loops f k with
  | some L=>rw[hfn] at h;cases h
  | none=>
   rw[hfn] at h;simp only at h ⊢;obtain⟨s,h1,h2⟩:=bind_some h;rw[Tree.run_bind,ihc _ _ _ h1];simp only[qOp];obtain⟨e,s2⟩:=s;cases e with
   | normal=>exact ihd _ _ _ h2
   | ret=>simp only[Tree.run,qNY] at h2 ⊢;subst h2;rfl
   | exit i=>simp only[Tree.run,qNY] at h2 ⊢;subst h2;rfl
 | cond x c d ihc ihd=>
  intro k t r h;simp only[q1M] at h;simp only[ye];split at h
  ·exact ihc _ _ _ h
  ·exact ihd _ _ _ h
  ·rename_i b hx;cases x with
   | tmp d'=>
    simp only[Tree.run] at h ⊢;cases b with
    | true=>exact ihc _ _ _ h
    | false=>exact ihd _ _ _ h
   | _=>cases h
  ·cases h
 | block id c ihc=>
  intro k t r h;simp only[q1M] at h;simp only[ye];obtain⟨s,h1,h2⟩:=bind_some h;rw[Tree.run_bind,ihc _ _ _ h1];simp only[qOp];obtain⟨e,s2⟩:=s;cases e with
  | normal=>simp only[Tree.run,qNY] at h2 ⊢;subst h2;rfl
  | ret=>simp only[Tree.run,qNY] at h2 ⊢;subst h2;rfl
  | exit i=>
   simp only at h2 ⊢;split at h2
   ·rename_i hi;rw[if_pos hi];simp only[Tree.run,qNY] at h2 ⊢;subst h2;rfl
   ·rename_i hi;rw[if_neg hi];simp only[Tree.run,qNY] at h2 ⊢;subst h2;rfl
 | exit id=>intro k t r h;simp only[q1M,Tree.run,qNY] at h;subst h;rfl
 | ret=>intro k t r h;simp only[q1M,Tree.run,qNY] at h;subst h;rfl
 | _=>intro k t r h;simp only[q1M] at h;cases h
theorem qA2 {callH:q8q}{rangeH:qdW}{args:List AV}{v:AV}(h:(qBB E st.h f fn args).run=some v):(qwW E qwV callH rangeH f fn args st).run=some (v,st):=by
 unfold qBB at h;unfold qwW;cases hb:fn.body with
 | none=>rw[hb] at h;cases h
 | some c=>
  rw[hb] at h;simp only at h ⊢;obtain⟨r,h1,h2⟩:=bind_some h;rw[Tree.run_bind,qzJ (callH:=callH) (callS:=qwV) (rangeH:=rangeH) (st0:={ t:=[],fs:=st.t::st.fs,h:=st.h,pend:=st.pend }) c 0 _ r h1];simp only[qOp];obtain⟨e,t'⟩:=r;unfold qIo;cases e with
  | exit i=>cases h2
  | normal=>
   simp only at h2 ⊢;cases hr:qqk E st.h t' fn.results.toList with
   | none=>rw[hr] at h2;cases h2
   | some vs=>rw[hr] at h2;cases h2;rfl
  | ret=>
   simp only at h2 ⊢;cases hr:qqk E st.h t' fn.results.toList with
   | none=>rw[hr] at h2;cases h2
   | some vs=>rw[hr] at h2;cases h2;rfl
theorem qlr {it:List (FuncId×FuncId×Nat)}(h:q80 it f=true)(hB:B.ro.isSome=true->2<=B.fs.length):qH P it f B:=by
 refine⟨hB,?_⟩;unfold q80 at h;split at h
 ·cases h
 ·rename_i hn;rw[hn];trivial
theorem qob (E:Env)(P:Program):qlJ E P qxO:=fun _ _ _ _ _ _ _ _ _ _ _ _ _ h=>by cases h
theorem qFn (B:Base):CallOK E P (fun _ _ _=>.fail) B:=⟨(fun f args st r X a vargs _ _ h=>by cases h),(fun args st r X a vargs _ _ h=>by cases h)⟩
theorem qc2 (hm:P.follows .mixedOrders=true)(hE:E.tok P)(hS:E.specs P)(hL:E.loopsOK P)(hb:E.bodies P):qlw E P (q8m E):=by
 intro f args st v B X a vargs hs ha h;unfold q8m at h;cases hsp:E.spec.find? fun x=>x.1==f with
 | some G=>rw[hsp] at h;exact qx3 hS f args st v B X a vargs hs ha h
 | none=>
  rw[hsp] at h;simp only at h;cases hbd:E.body.find? fun x=>x.1==f with
  | none=>rw[hbd] at h;cases h
  | some fn=>
   rw[hbd] at h;simp only at h;cases hni:q80 E.iter f with
   | false=>rw[hni] at h;cases h
   | true=>
   rw[hni] at h;simp only at h;have hx:=hb fn (qOU hbd);have hfe:fn.1=f:=by simpa using qPd hbd
   rw[hfe] at hx
   let B':Base:={ B with fs:=a.tmps.toList::B.fs,ro:=none,pin:=fun _=>X.kept }
   have hF:SimF E B' X st:=⟨hs.hs.base rfl rfl rfl,hs.h,.cons hs.t hs.fs,hs.glob,hs.ni,hs.y,fun p hp=>hp⟩;have h1:=qA2 (callH:=fun _ _ _=>.fail) (rangeH:=qxO) h;obtain⟨g1,g2⟩:=qm7 hm hE hS hL hx.1 (fun B _=>qFn B) (callS:=qwV) (fun _ _ _ _ _ _ _ _ _ _ h=>by cases h) (qzg E) (qob E P) (B:=B') rfl (qlr hni (fun h=>by cases h)) hF ha h1;refine⟨yR hx.1 hx.2 g1 _,g2.mono fun e w' ⟨u,X',e1,e2,e3,e4⟩=>⟨u,X',e1,e2,e3,?_⟩⟩;have hpin:∀p,p∈X.kept->p∈X'.kept:=e4.pin;have hfs:RepLL X' (st.t::st.fs) (a.tmps.toList::B.fs):=e4.fs;obtain⟨Ds,d1,d2,d3⟩:=hs.df;refine⟨e4.hs.base rfl rfl rfl,e4.h,?_,?_,e4.glob,⟨Ds,d1,d2,fun D hD=>⟨hpin _ (d3 D hD).1,(d3 D hD).2⟩⟩,hs.ni,e4.y,fun p hp=>hpin p (hs.pin p hp)⟩
   ·cases hfs with|cons k1 k2=>exact k1
   ·cases hfs with|cons k1 k2=>exact k2
theorem qi0 (hm:P.follows .mixedOrders=true)(hE:E.tok P)(hS:E.specs P)(hL:E.loopsOK P)(hbs:E.bodies P)(hf:P.funcs[f]?=some fn){callH:q8q} (hcH:∀B,qH P E.iter f B->CallOK E P callH B) {rangeH:qdW} (hrg:qlJ E P rangeH){args:List AV} {st:St} {r:AV×St} {B:Base} {X:Ctx} {vargs:List Value} (hro:B.ro=none) (hbo:qH P E.iter f B) (hs:SimF E B X st) (ha:RepL X args vargs) (h:(qCX E callH rangeH f fn args st).run=some r) :fn.body.isNone=false/\Calls P f vargs.toArray X.w fun e w'=>∃v X',e=.returned v/\X'.w=w'/\Rep X' r.1 v/\SimF E B X' r.2:=qm7 hm hE hS hL hf hcH (qc2 hm hE hS hL hbs) (q7L E) hrg hro hbo hs ha h
theorem qdH (hm:P.follows .mixedOrders=true)(hE:E.tok P)(hS:E.specs P)(hL:E.loopsOK P)(hb:E.bodies P){callH:q8q}(hcH:∀B,CallOK E P callH B):qlJ E P (qlG E callH):=by
 intro g y args st r B X vargs hs hbo hy hro ha h;unfold qlG at h;cases hbd:E.body.find? fun x=>x.1==g with
 | none=>rw[hbd] at h;cases h
 | some fn=>
  rw[hbd] at h;have hx:=hb fn (qOU hbd);have hfe:fn.1=g:=by simpa using qPd hbd
  rw[hfe] at hx;obtain⟨g1,g2⟩:=qi0 hm hE hS hL hb hx.1 (callH:=qIq y callH) (fun B' hB'=>⟨(hcH B').fn,hy B' hB'⟩) (qob E P) hro hbo hs ha h;exact⟨yR hx.1 hx.2 g1 _,g2⟩
theorem qhv{E:Env}{P:Program}(hm:P.follows .mixedOrders=true)(hE:E.tok P)(hS:E.specs P)(hL:E.loopsOK P)(hb:E.bodies P):∀n B,CallOK E P (q9b E n) B
 | 0,_=>⟨(fun f args st r X a vargs _ _ h=>by simp only[q9b] at h;cases h),(fun args st r X a vargs _ _ h=>by simp only[q9b] at h;cases h)⟩
 | n+1,B=>⟨(fun f args st r X a vargs hs ha h=>by
  simp only[q9b] at h;cases hdl:qLv E f with
  | some e=>
   rw[hdl] at h;have hD:=qA0 hS hdl;exact⟨hD.1 _,qA8 hE hD hs ha h⟩
  | none=>
  rw[hdl] at h;simp only at h;cases hsp:E.spec.find? fun x=>x.1==f with
  | some G=>
   rw[hsp] at h;have hG:=hS.sp G (qOU hsp);have hfe:G.1=f:=by simpa using qPd hsp
   rw[hfe] at hG;exact⟨hG.1 _,q7J hG hs ha h⟩
  | none=>
   rw[hsp] at h;cases hbd:E.body.find? fun x=>x.1==f with
   | none=>rw[hbd] at h;cases h
   | some fn=>
    rw[hbd] at h;simp only at h;cases hni:q80 E.iter f with
    | false=>rw[hni] at h;cases h
    | true=>
    rw[hni] at h;simp only at h;obtain⟨r1,h1,h2⟩:=bind_some h;simp only[Tree.run,qNY] at h2;subst h2;have hx:=hb fn (qOU hbd);have hfe:fn.1=f:=by simpa using qPd hbd
    rw[hfe] at hx
    let B':Base:={ B with fs:=a.tmps.toList::B.fs,ro:=none,pin:=fun _=>X.kept }
    have hF:SimF E B' X st:=⟨hs.hs.base rfl rfl rfl,hs.h,.cons hs.t hs.fs,hs.glob,hs.ni,hs.y,fun p hp=>hp⟩;obtain⟨g1,g2⟩:=qi0 hm hE hS hL hb hx.1 (fun B _=>qhv hm hE hS hL hb n B) (qdH hm hE hS hL hb (qhv hm hE hS hL hb n)) (B:=B') rfl (qlr hni (fun h=>by cases h)) hF ha h1;refine⟨yR hx.1 hx.2 g1 _,g2.mono fun e w' ⟨v,X',e1,e2,e3,e4⟩=>⟨v,X',e1,e2,e3,?_⟩⟩;have hpin:∀p,p∈X.kept->p∈X'.kept:=e4.pin;have hfs:RepLL X' (r1.2.t::r1.2.fs) (a.tmps.toList::B.fs):=e4.fs;obtain⟨Ds,d1,d2,d3⟩:=hs.df;refine⟨e4.hs.base rfl rfl rfl,e4.h,?_,?_,e4.glob,⟨Ds,d1,d2,fun D hD=>⟨hpin _ (d3 D hD).1,(d3 D hD).2⟩⟩,hs.ni,e4.y,fun p hp=>hpin p (hs.pin p hp)⟩
    ·cases hfs with|cons k1 k2=>exact k1
    ·cases hfs with|cons k1 k2=>exact k2),
  (fun args st r X a vargs _ _ h=>by simp only[q9b] at h;cases h)⟩
theorem qAo (hm:P.follows .mixedOrders=true)(hE:E.tok P)(hS:E.specs P)(hL:E.loopsOK P)(hb:E.bodies P)(hf:P.funcs[f]?=some fn){n:Nat} {B:Base} {X:Ctx} {args:List AV} {vargs:List Value} {r:AV×List Blk} (hs:HSim B X) (h0:B.imps.length<=E.nimp) (hgl:q3b E.glob X) (ha:RepL X args vargs)(h:(qCN E n f fn args X.h).run=some r) :Calls P f vargs.toArray X.w fun e w'=>∃v X',e=.returned v/\X'.w=w'/\Rep X' r.1 v/\X'.h=r.2/\HSim B X'/\X'.y=X.y:=by
 unfold qCN at h;cases hni:q80 E.iter f with
 | false=>rw[hni] at h;cases h
 | true=>
 rw[hni] at h;simp only at h;obtain⟨r1,h1,h2⟩:=bind_some h;simp only[Tree.run,qNY] at h2;subst h2
 let B0:Base:={ B with fs:=[[]],ro:=none,y:=X.y,pin:=fun _=>[] }
 have hF:SimF E B0 X { t:=[],fs:=[],h:=X.h,pend:=none }:=⟨hs.base rfl rfl rfl,rfl,.cons .nil .nil,hgl,h0,rfl,fun p hp=>by cases hp⟩;obtain⟨_,g2⟩:=qi0 hm hE hS hL hb hf (fun B _=>qhv hm hE hS hL hb n B) (qdH hm hE hS hL hb (qhv hm hE hS hL hb n)) (B:=B0) rfl (qlr hni (fun h=>by cases h)) hF ha h1;refine g2.mono fun e w' ⟨v,X',e1,e2,e3,e4⟩=>⟨v,X',e1,e2,e3,e4.h,e4.hs.base rfl rfl rfl,e4.y⟩
end Go.Eng

namespace Go.Eng
variable {X:Ctx}
inductive PK where
 | i|b|s|r
inductive PV where
 | i (n:Int)|b (x:Bool)|s (l:qNX)|r (l:R)
def PV.kind:PV->PK|.i _=>.i|.b _=>.b|.s _=>.s|.r _=>.r
def PV.toI:PV->Int|.i n=>n|_=>0
def PV.toB:PV->Bool|.b x=>x|_=>false
def PV.toS:PV->List UInt8|.s x=>x|_=>[]
def PV.toR:PV->R|.r x=>x|_=>[]
inductive AP where
 | any|yld
 | int (k:IntKind)|bool|str|blit (b:Bool)
 | nilp|ptr (b off:Nat)|eptr (sh:List Sh) (off:Nat)|mptr (sh:List Sh) (off:Nat)|vptr (b off:Nat)
 | nils|imm (sh:List Sh)|vec (b:Nat)
 | nilf|fn (f:FuncId) (first caps:List AP)
 | agg (l:List AP)|tuple (l:List AP)
def ql:Nat->List AP->List AP
 | 0,l=>l
 | n+1,l=>.any::ql n l
def qGD:Option (List PV)->Option (List PV)->Option (List PV)
 | some a,some b=>some (a++b)
 | _,_=>none
mutual
def AP.take:AP->AV->Option (List PV)
 | .any,_=>some []
 | .yld,.yld=>some []
 | .int k,.int k' n=>if k=k' then some [.i n] else none
 | .int k,.ilit k' n=>if k=k' then some [.i n] else none
 | .bool,.bool b=>some [.b b]
 | .bool,.blit b=>some [.b b]
 | .str,.str s=>some [.s s]
 | .blit b,.blit b'=>if b=b' then some [] else none
 | .nilp,.nilp=>some []
 | .ptr b off,.ptr b' off'=>if b=b'/\off=off' then some [] else none
 | .eptr sh off,.eptr sh' l i off'=>if Sh.beqL sh sh'=true/\off=off' then some [.r l,.i i] else none
 | .mptr _ _,.nilp=>some [.b false,.r [],.i 0]
 | .mptr sh off,.eptr sh' l i off'=>if Sh.beqL sh sh'=true/\off=off' then some [.b true,.r l,.i i] else none
 | .mptr sh off,.mptr c sh' l i off'=>if Sh.beqL sh sh'=true/\off=off' then some [.b c,.r l,.i i] else none
 | .vptr b off,.vptr b' i off'=>if b=b'/\off=off' then some [.i i] else none
 | .nils,.nils=>some []
 | .imm sh,.imm sh' l=>if Sh.beqL sh sh'=true then some [.r l] else none
 | .imm _,.nils=>some [.r []]
 | .vec b,.vec b'=>if b=b' then some [] else none
 | .nilf,.nilf=>some []
 | .fn f p q,.fn g a c=>if f=g then qGD (AP.takeL p a) (AP.takeL q c) else none
 | .agg l,.agg a=>AP.takeL l a
 | .tuple l,.tuple a=>AP.takeL l a
 | _,_=>none
def AP.takeL:List AP->List AV->Option (List PV)
 | [],[]=>some []
 | p::l,a::azz=>qGD (p.take a) (AP.takeL l azz)
 | _,_=>none
end
mutual
def AP.make:AP->List PV->AV×List PV
 | .any,ps=>(.undef,ps)
 | .yld,ps=>(.yld,ps)
 | .int k,.i n::ps=>(.int k n,ps)
 | .bool,.b x::ps=>(.bool x,ps)
 | .str,.s x::ps=>(.str x,ps)
 | .blit b,ps=>(.blit b,ps)
 | .nilp,ps=>(.nilp,ps)
 | .ptr b off,ps=>(.ptr b off,ps)
 | .eptr sh off,.r l::.i i::ps=>(.eptr sh l i off,ps)
 | .mptr sh off,.b c::.r l::.i i::ps=>(.mptr c sh l i off,ps)
 | .vptr b off,.i i::ps=>(.vptr b i off,ps)
 | .nils,ps=>(.nils,ps)
 | .imm sh,.r l::ps=>(.imm sh l,ps)
 | .vec b,ps=>(.vec b,ps)
 | .nilf,ps=>(.nilf,ps)
 | .fn f p q,ps=>let x:=AP.makeL p ps;let y:=AP.makeL q x.2;(.fn f x.1 y.1,y.2)
 | .agg l,ps=>let x:=AP.makeL l ps;(.agg x.1,x.2)
 | .tuple l,ps=>let x:=AP.makeL l ps;(.tuple x.1,x.2)
 | _,ps=>(.undef,ps)
def AP.makeL:List AP->List PV->List AV×List PV
 | [],ps=>([],ps)
 | p::l,ps=>let x:=p.make ps;let y:=AP.makeL l x.2;(x.1::y.1,y.2)
end
mutual
def AP.kinds:AP->List PK
 | .int _=>[.i]|.bool=>[.b]|.str=>[.s]
 | .eptr _ _=>[.r,.i]|.mptr _ _=>[.b,.r,.i]|.vptr _ _=>[.i]|.imm _=>[.r]
 | .fn _ p q=>AP.kindsL p++AP.kindsL q
 | .agg l=>AP.kindsL l
 | .tuple l=>AP.kindsL l
 | _=>[]
def AP.kindsL:List AP->List PK
 | []=>[]
 | p::l=>p.kinds++AP.kindsL l
end
theorem q08 {a b:Option (List PV)}{c:List PV}(h:qGD a b=some c):∃x y,a=some x/\b=some y/\c=x++y:=by cases a<;>cases b<;>simp[qGD] at h;exact⟨_,_,rfl,rfl,h.symm⟩
mutual
theorem AP.take_ok{X:Ctx}:∀(p:AP) (a:AV) (ps rest:List PV),p.take a=some ps->(p.make (ps++rest)).2=rest/\ps.map PV.kind=p.kinds/\∀v,Rep X a v->Rep X (p.make (ps++rest)).1 v
 | .any,a,ps,rest,h=>by simp only[AP.take,qNY] at h;subst h;exact⟨rfl,rfl,fun v _=>.undef v⟩
 | .yld,a,ps,rest,h=>by
  cases a<;>simp only[AP.take] at h<;>first|(cases h;done)|skip
  cases h;exact⟨rfl,rfl,fun v hv=>hv⟩
 | .int k,a,ps,rest,h=>by
  cases a<;>simp only[AP.take] at h<;>first|(cases h;done)|skip
  all_goals
   split at h
   ·rename_i hk;cases h;subst hk;refine⟨rfl,rfl,fun v hv=>?_⟩;cases hv;exact .int _ _
   ·cases h
 | .bool,a,ps,rest,h=>by
  cases a<;>simp only[AP.take] at h<;>first|(cases h;done)|skip
  all_goals
   cases h;refine⟨rfl,rfl,fun v hv=>?_⟩;cases hv;exact .bool _
 | .str,a,ps,rest,h=>by
  cases a<;>simp only[AP.take] at h<;>first|(cases h;done)|skip
  cases h;exact⟨rfl,rfl,fun v hv=>hv⟩
 | .blit b,a,ps,rest,h=>by
  cases a<;>simp only[AP.take] at h<;>first|(cases h;done)|skip
  split at h
  ·rename_i hb;cases h;subst hb;exact⟨rfl,rfl,fun v hv=>hv⟩
  ·cases h
 | .nilp,a,ps,rest,h=>by
  cases a<;>simp only[AP.take] at h<;>first|(cases h;done)|skip
  cases h;exact⟨rfl,rfl,fun v hv=>hv⟩
 | .ptr b off,a,ps,rest,h=>by
  cases a<;>simp only[AP.take] at h<;>first|(cases h;done)|skip
  split at h
  ·rename_i hb;cases h;obtain⟨rfl,rfl⟩:=hb;exact⟨rfl,rfl,fun v hv=>hv⟩
  ·cases h
 | .eptr sh off,a,ps,rest,h=>by
  cases a<;>simp only[AP.take] at h<;>first|(cases h;done)|skip
  split at h
  ·rename_i hb;cases h;obtain⟨hb,rfl⟩:=hb;have:=Sh.beqL_eq _ _ hb;subst this;exact⟨rfl,rfl,fun v hv=>hv⟩
  ·cases h
 | .mptr sh off,a,ps,rest,h=>by
  cases a<;>simp only[AP.take] at h<;>first|(cases h;done)|skip
  ·cases h;refine⟨rfl,rfl,fun v hv=>?_⟩;cases hv;exact .mnil _ _ _ _
  ·split at h
   ·rename_i hb;cases h;obtain⟨hb,rfl⟩:=hb;have:=Sh.beqL_eq _ _ hb;subst this;refine⟨rfl,rfl,fun v hv=>?_⟩;cases hv with
    | eptr _ _ _ _ a h1 h2 h3 h4=>exact .mptr _ _ _ _ a h1 h2 h3 h4
   ·cases h
  ·split at h
   ·rename_i hb;cases h;obtain⟨hb,rfl⟩:=hb;have:=Sh.beqL_eq _ _ hb;subst this;exact⟨rfl,rfl,fun v hv=>hv⟩
   ·cases h
 | .vptr b off,a,ps,rest,h=>by
  cases a<;>simp only[AP.take] at h<;>first|(cases h;done)|skip
  split at h
  ·rename_i hb;cases h;obtain⟨rfl,rfl⟩:=hb;exact⟨rfl,rfl,fun v hv=>hv⟩
  ·cases h
 | .nils,a,ps,rest,h=>by
  cases a<;>simp only[AP.take] at h<;>first|(cases h;done)|skip
  cases h;exact⟨rfl,rfl,fun v hv=>hv⟩
 | .imm sh,a,ps,rest,h=>by
  cases a<;>simp only[AP.take] at h<;>first|(cases h;done)|skip
  ·cases h;refine⟨rfl,rfl,fun v hv=>?_⟩;cases hv;exact .imm _ _ _ (.inl ⟨rfl,rfl⟩)
  ·split at h
   ·rename_i hb;cases h;have:=Sh.beqL_eq _ _ hb;subst this;exact⟨rfl,rfl,fun v hv=>hv⟩
   ·cases h
 | .vec b,a,ps,rest,h=>by
  cases a<;>simp only[AP.take] at h<;>first|(cases h;done)|skip
  split at h
  ·rename_i hb;cases h;subst hb;exact⟨rfl,rfl,fun v hv=>hv⟩
  ·cases h
 | .nilf,a,ps,rest,h=>by
  cases a<;>simp only[AP.take] at h<;>first|(cases h;done)|skip
  cases h;exact⟨rfl,rfl,fun v hv=>hv⟩
 | .fn f p q,a,ps,rest,h=>by
  cases a<;>simp only[AP.take] at h<;>first|(cases h;done)|skip
  rename_i g a c;split at h
  ·rename_i hf;subst hf;obtain⟨x,y,h1,h2,rfl⟩:=q08 h;obtain⟨a1,a2,a3⟩:=AP.takeL_ok (X:=X) p a x (y++rest) h1;obtain⟨b1,b2,b3⟩:=AP.takeL_ok (X:=X) q c y rest h2;simp only[AP.make,qOu,a1,b1,AP.kinds,qOk,a2,b2,true_and];intro v hv;cases hv with
   | fn _ _ _ vf vc g1 g2=>exact .fn _ _ _ vf vc (a3 _ g1) (b3 _ g2)
  ·cases h
 | .agg l,a,ps,rest,h=>by
  cases a<;>simp only[AP.take] at h<;>first|(cases h;done)|skip
  obtain⟨a1,a2,a3⟩:=AP.takeL_ok (X:=X) l _ ps rest h;simp only[AP.make,a1,AP.kinds,a2,true_and];intro v hv;cases hv with
  | agg _ vs g=>exact .agg _ vs (a3 _ g)
 | .tuple l,a,ps,rest,h=>by
  cases a<;>simp only[AP.take] at h<;>first|(cases h;done)|skip
  obtain⟨a1,a2,a3⟩:=AP.takeL_ok (X:=X) l _ ps rest h;simp only[AP.make,a1,AP.kinds,a2,true_and];intro v hv;cases hv with
  | tuple _ vs g=>exact .tuple _ vs (a3 _ g)
theorem AP.takeL_ok{X:Ctx}:∀(p:List AP) (a:List AV) (ps rest:List PV),AP.takeL p a=some ps->(AP.makeL p (ps++rest)).2=rest/\ps.map PV.kind=AP.kindsL p/\∀v,RepL X a v->RepL X (AP.makeL p (ps++rest)).1 v
 | [],a,ps,rest,h=>by
  cases a<;>simp only[AP.takeL] at h<;>cases h;exact⟨rfl,rfl,fun v hv=>hv⟩
 | p::l,a,ps,rest,h=>by
  cases a with
  | nil=>simp only[AP.takeL] at h;cases h
  | cons a azz=>
   simp only[AP.takeL] at h;obtain⟨x,y,h1,h2,rfl⟩:=q08 h;obtain⟨a1,a2,a3⟩:=AP.take_ok (X:=X) p a x (y++rest) h1;obtain⟨b1,b2,b3⟩:=AP.takeL_ok (X:=X) l azz y rest h2;simp only[AP.makeL,qOu,a1,b1,AP.kindsL,qOk,a2,b2,true_and];intro v hv;cases hv with
   | cons g1 g2=>exact .cons (a3 _ g1) (b3 _ g2)
end
def AP.takeLL:List (List AP)->List (List AV)->Option (List PV)
 | [],[]=>some []
 | p::l,a::azz=>qGD (AP.takeL p a) (AP.takeLL l azz)
 | _,_=>none
def AP.makeLL:List (List AP)->List PV->List (List AV)×List PV
 | [],ps=>([],ps)
 | p::l,ps=>let x:=AP.makeL p ps;let y:=AP.makeLL l x.2;(x.1::y.1,y.2)
def AP.kindsLL:List (List AP)->List PK
 | []=>[]
 | p::l=>AP.kindsL p++AP.kindsLL l
theorem AP.takeLL_ok{X:Ctx}:∀(p:List (List AP)) (a:List (List AV)) (ps rest:List PV),AP.takeLL p a=some ps->(AP.makeLL p (ps++rest)).2=rest/\ps.map PV.kind=AP.kindsLL p/\∀v,RepLL X a v->RepLL X (AP.makeLL p (ps++rest)).1 v
 | [],a,ps,rest,h=>by
  cases a<;>simp only[AP.takeLL] at h<;>cases h;exact⟨rfl,rfl,fun v hv=>hv⟩
 | p::l,a,ps,rest,h=>by
  cases a with
  | nil=>simp only[AP.takeLL] at h;cases h
  | cons a azz=>
   simp only[AP.takeLL] at h;obtain⟨x,y,h1,h2,rfl⟩:=q08 h;obtain⟨a1,a2,a3⟩:=AP.takeL_ok (X:=X) p a x (y++rest) h1;obtain⟨b1,b2,b3⟩:=AP.takeLL_ok (X:=X) l azz y rest h2;simp only[AP.makeLL,qOu,a1,b1,AP.kindsLL,qOk,a2,b2,true_and];intro v hv;cases hv with
   | cons g1 g2=>exact .cons (a3 _ g1) (b3 _ g2)
inductive BP where
 | cells (l:List AP)|big (l:List AP) (k:IntKind) (n:Nat)|vec (e:TypeId) (sh:List Sh)|frz (e:TypeId) (sh:List Sh)|dead
def BP.take:BP->Blk->Option (List PV)
 | .cells l,.cells cs=>AP.takeL l cs
 | .big l k n,.big cs k' n' r=>if k=k'/\n=n' then qGD (AP.takeL l cs) (some [.r r]) else none
 | .vec e sh,.vec e' sh' l=>if e=e'/\Sh.beqL sh sh'=true then some [.r l] else none
 | .frz e sh,.frz e' sh' l=>if e=e'/\Sh.beqL sh sh'=true then some [.r l] else none
 | .dead,_=>some []
 | _,_=>none
def BP.make:BP->List PV->Blk×List PV
 | .cells l,ps=>let x:=AP.makeL l ps;(.cells x.1,x.2)
 | .big l k n,ps=>let x:=AP.makeL l ps;match x.2 with
  | .r r::qs=>(.big x.1 k n r,qs)
  | qs=>(.dead,qs)
 | .vec e sh,.r l::ps=>(.vec e sh l,ps)
 | .frz e sh,.r l::ps=>(.frz e sh l,ps)
 | _,ps=>(.dead,ps)
def BP.kinds:BP->List PK
 | .cells l=>AP.kindsL l
 | .big l _ _=>AP.kindsL l++[.r]
 | .vec _ _=>[.r]
 | .frz _ _=>[.r]
 | .dead=>[]
def BP.takeL:List BP->List Blk->Option (List PV)
 | [],[]=>some []
 | p::l,b::bs=>qGD (p.take b) (BP.takeL l bs)
 | _,_=>none
def BP.makeL:List BP->List PV->List Blk×List PV
 | [],ps=>([],ps)
 | p::l,ps=>let x:=p.make ps;let y:=BP.makeL l x.2;(x.1::y.1,y.2)
def BP.kindsL:List BP->List PK
 | []=>[]
 | p::l=>p.kinds++BP.kindsL l
def BP.isCells:BP->Bool
 | .cells _|.big _ _ _=>true
 | _=>false
theorem BP.take_ok (p:BP)(k:Blk)(ps rest:List PV)(h:p.take k=some ps):(p.make (ps++rest)).2=rest/\ps.map PV.kind=p.kinds/\Wk X k (p.make (ps++rest)).1 /\(p.isCells=true->(p.make (ps++rest)).1.solid=true):=by
 cases p with
 | cells l=>
  cases k<;>simp only[BP.take] at h<;>first|(cases h;done)|skip
  obtain⟨a1,a2,a3⟩:=AP.takeL_ok (X:=X) l _ ps rest h;simp only[BP.make,a1,BP.kinds,a2,true_and];exact⟨.inr (.inr (.inl ⟨_,_,rfl,rfl,a3⟩)),fun _=>rfl⟩
 | big l kk n=>
  cases k<;>simp only[BP.take] at h<;>first|(cases h;done)|skip
  split at h
  ·rename_i hb;obtain⟨rfl,rfl⟩:=hb;obtain⟨x,y,h1,h2,rfl⟩:=q08 h;cases h2;rename_i cs r;obtain⟨a1,a2,a3⟩:=AP.takeL_ok (X:=X) l _ x ([.r r]++rest) h1;simp only[qPo,qPi] at a1 a3;simp only[BP.make,qOu,a1,qPo,qPi,BP.kinds,qOk,a2,qP5,List.map_nil,PV.kind,true_and];exact⟨.inr (.inr (.inr ⟨_,_,_,_,_,rfl,rfl,a3⟩)),fun _=>rfl⟩
  ·cases h
 | vec e sh=>
  cases k<;>simp only[BP.take] at h<;>first|(cases h;done)|skip
  split at h
  ·rename_i hb;cases h;obtain⟨rfl,hb⟩:=hb;have:=Sh.beqL_eq _ _ hb;subst this;exact⟨rfl,rfl,.inr (.inl rfl),fun h=>by cases h⟩
  ·cases h
 | frz e sh=>
  cases k<;>simp only[BP.take] at h<;>first|(cases h;done)|skip
  split at h
  ·rename_i hb;cases h;obtain⟨rfl,hb⟩:=hb;have:=Sh.beqL_eq _ _ hb;subst this;exact⟨rfl,rfl,.inr (.inl rfl),fun h=>by cases h⟩
  ·cases h
 | dead=>
  have:ps=[]:=by cases k<;>simp[BP.take] at h<;>exact h
  subst this;exact⟨rfl,rfl,.inl rfl,fun h=>by cases h⟩
theorem BP.takeL_ok{X:Ctx}:∀(p:List BP) (k:List Blk) (ps rest:List PV),BP.takeL p k=some ps->(BP.makeL p (ps++rest)).2=rest/\ps.map PV.kind=BP.kindsL p /\
  (BP.makeL p (ps++rest)).1.length=k.length/\p.length=k.length/\∀(b:Nat) (k':Blk),(BP.makeL p (ps++rest)).1[b]?=some k'->∃k0,k[b]?=some k0/\Wk X k0 k'/\∀q:BP,p[b]?=some q->q.isCells=true->k'.solid=true
 | [],k,ps,rest,h=>by
  cases k<;>simp only[BP.takeL] at h<;>cases h;exact⟨rfl,rfl,rfl,rfl,fun b k' hb=>by simp[BP.makeL] at hb⟩
 | p::l,k,ps,rest,h=>by
  cases k with
  | nil=>simp only[BP.takeL] at h;cases h
  | cons k ks=>
   simp only[BP.takeL] at h;obtain⟨x,y,h1,h2,rfl⟩:=q08 h;obtain⟨a1,a2,a3,a4⟩:=BP.take_ok (X:=X) p k x (y++rest) h1;obtain⟨b1,b2,b3,b4,b5⟩:=BP.takeL_ok (X:=X) l ks y rest h2;simp only[BP.makeL,qOu,a1,b1,BP.kindsL,qOk,a2,b2,qOt,b3,b4,true_and];intro b k' hb;cases b with
   | zero=>
    simp only[qPf,qNY] at hb;subst hb;exact⟨k,rfl,a3,fun q hq hc=>by simp only[qPf,qNY] at hq;subst hq;exact a4 hc⟩
   | succ b=>
    simp only[qP1] at hb ⊢;exact b5 b k' hb
def keep(n:Nat):Nat->Option Nat:=fun b=>if Nat.blt b n then some b else none
theorem qGn {n b b':Nat}(h:keep n b=some b'):b'=b/\b<n:=by
 unfold keep at h;split at h
 ·rename_i hb;cases h;exact⟨rfl,by simpa[Nat.blt_eq] using hb⟩
 ·cases h
def Ctx.cut(X:Ctx)(n:Nat):Ctx:={ X with h:=(X.h.take n).map (Blk.ren (keep n)) }
theorem Ctx.cut_get {n b:Nat}{k:Blk}(h:(X.cut n).h[b]?=some k):b<n/\∃k0,X.h[b]?=some k0/\k=k0.ren (keep n):=by
 have h':((X.h.take n).map (Blk.ren (keep n)))[b]?=some k:=h;rw[qO8,qP3] at h';split at h'
 ·rename_i hb;refine⟨hb,?_⟩;cases hk:X.h[b]? with
  | none=>rw[hk] at h';cases h'
  | some k0=>rw[hk] at h';exact⟨k0,rfl,(qOE h').symm⟩
 ·cases h'
theorem qDw {B:Base}(hs:HSim B X){n:Nat}(hn:B.imps.length<=n):HSim B (X.cut n)/\Move X (X.cut n) (keep n):=by
 have hvec:∀b sh m,(X.cut n).isVec b sh m->X.isVec b sh m:=by
  intro b sh m ⟨e,l,h1,h2⟩;refine⟨e,l,?_,h2⟩;rcases h1 with h1|h1
  ·obtain⟨_,k0,h3,h4⟩:=Ctx.cut_get h1;cases k0<;>simp[Blk.ren] at h4;obtain⟨rfl,rfl,rfl⟩:=h4;exact .inl h3
  ·obtain⟨_,k0,h3,h4⟩:=Ctx.cut_get h1;cases k0<;>simp[Blk.ren] at h4;obtain⟨rfl,rfl,rfl⟩:=h4;exact .inr h3
 have hm:Move X (X.cut n) (keep n):=by refine Move.of (fun _ h=>h) (fun _ _=>rfl) (fun b b' hb hf=>?_);obtain⟨rfl,hlt⟩:=qGn hf;exact⟨by simp[Ctx.cut];omega,rfl,hvec b',fun sh m _ k hk c T fr hc=>⟨c,T,fr,hc,rfl⟩⟩
 have hown:∀b m,(X.cut n).own b m->X.own b m:=by intro b m ⟨h1,k,h2,h3⟩;obtain⟨_,k0,h4,h5⟩:=Ctx.cut_get h2;exact⟨h1,k0,h4,by rw[h5,Blk.mut_ren] at h3;exact h3⟩
 refine⟨⟨?_,fun b b' m h h'=>hs.inj b b' m (hown _ _ h) (hown _ _ h'),fun b m h=>hs.notM b m (hown _ _ h),hs.ltM,hs.M0,hs.newM,hs.os,hs.tape,hs.output,hs.size,hs.frame,hs.imps,?_,fun b m h=>hs.fresh b m (hown _ _ h),hs.kept⟩,hm⟩
 ·intro b k hk;obtain⟨_,k0,h1,h2⟩:=Ctx.cut_get hk;rw[h2];exact jf.move hm.toMove0 rfl (fun _ _=>rfl) (hs.blk b k0 h1)
 ·intro b hb;obtain⟨cs,h1,h2⟩:=hs.impc b hb;refine⟨cs.ren (keep n),?_,by rw[Blk.solid_ren];exact h2⟩;show ((X.h.take n).map (Blk.ren (keep n)))[b]?=_;rw[qO8,qP3,if_pos (by omega),h1];rfl
end Go.Eng

namespace Go.Eng
variable {B:Base}{E:Env}{X:Ctx}{a:Act}{st:St}
def Ex.beq:Ex->Ex->Bool
 | .normal,.normal=>true
 | .ret,.ret=>true
 | .exit i,.exit j=>Nat.beq i j
 | _,_=>false
theorem Ex.beq_eq {x y:Ex}(h:x.beq y=true):x=y:=by cases x<;>cases y<;>simp[Ex.beq] at h ⊢;exact h
def peq:Option Ex->Option Ex->Bool
 | none,none=>true
 | some x,some y=>x.beq y
 | _,_=>false
theorem qMX {x y:Option Ex}(h:peq x y=true):x=y:=by cases x<;>cases y<;>simp[peq] at h ⊢;exact Ex.beq_eq h
structure Tmpl where
 t:List AP
 h:List BP
 pro:List (Nat×TypeId×List Sh):=[]
 fs:List (List AP):=[[]]
 pend:Option Ex:=none
 sw:List (Nat×Nat):=[]
 swn:Nat:=0
 prc:List (Nat×Nat×TypeId×List Sh):=[]
 fz:List Nat:=[]
def qE3:List (Nat×TypeId×List Sh)->St->St
 | [],st=>st
 | (i,e,sh)::l,st=>match st.t[i]? with
  | some .nils=>qE3 l { st with t:=st.t.set i (.vec st.h.length),h:=st.h++[.vec e sh []] }
  | _=>qE3 l st
def qpG:List (Nat×Nat×TypeId×List Sh)->St->St
 | [],st=>st
 | (i,off,e,sh)::l,st=>match st.t[i]? with
  | some (.ptr b _)=>(match st.h[b]? with
   | some (.cells cs)=>(match cs[off]? with
    | some .nils=>qpG l { st with h:=(st.h++[Blk.vec e sh []]).set b (.cells (cs.set off (.vec st.h.length))) }
    | _=>qpG l st)
   | _=>qpG l st)
  | _=>qpG l st
def qdy(n:Nat)(h:List BP):Bool:=Nat.ble n h.length&&(h.take n).all BP.isCells
def swp(b c x:Nat):Nat:=if Nat.beq x b then c else if Nat.beq x c then b else x
def swB(b c:Nat):Nat->Option Nat:=fun x=>some (swp b c x)
def qBR(b c:Nat)(h:List Blk):List Blk:=(h.set b (h.getD c .dead)).set c (h.getD b .dead)
def St.swap(b c:Nat)(st:St):St:={ t:=AV.renL (swB b c) st.t,fs:=st.fs.map (AV.renL (swB b c)),h:=(qBR b c st.h).map (Blk.ren (swB b c)),pend:=st.pend }
def qMl:AV->Option Nat
 | .ptr b _=>some b
 | .vec b=>some b
 | _=>none
def qNA(st:St)(i:Nat):Option Nat:=match Nat.blt i 1000000 with
 | true=>(st.t[i]?).bind qMl
 | false=>match st.t[i%1000000]? with
  | some (.ptr b _)=>(match st.h[b]? with
   | some (.cells cs)=>(cs[i/1000000-1]?).bind qMl
   | _=>none)
  | _=>none
def qry(n:Nat):List (Nat×Nat)->St->St
 | [],st=>st
 | (i,b)::l,st=>match qNA st i with
  | some c=>(match Nat.ble n b&&Nat.ble n c&&Nat.blt b st.h.length&&Nat.blt c st.h.length&&!(Nat.beq b c) with
   | true=>qry n l (st.swap b c)
   | false=>qry n l st)
  | none=>qry n l st
def Tmpl.take1(tm:Tmpl)(st:St):Option (List PV):=match peq tm.pend st.pend with
 | true=>qGD (AP.takeL tm.t (AV.renL (keep tm.h.length) st.t)) (qGD (AP.takeLL tm.fs (st.fs.map (AV.renL (keep tm.h.length)))) (BP.takeL tm.h ((st.h.take tm.h.length).map (Blk.ren (keep tm.h.length)))))
 | false=>none
def qLP(l:List Nat)(st:St):St:={ st with h:=qF st.h l }
def Tmpl.take(tm:Tmpl)(st:St):Option (List PV):=tm.take1 (qLP tm.fz (qry tm.swn tm.sw (qpG tm.prc (qE3 tm.pro st))))
def Tmpl.ok(n:Nat)(tm:Tmpl):Bool:=qdy n tm.h&&(tm.sw.isEmpty||Nat.ble n tm.swn)
def Tmpl.make(tm:Tmpl)(ps:List PV):St:=let x:=AP.makeL tm.t ps;let y:=AP.makeLL tm.fs x.2;{ t:=x.1,fs:=y.1,h:=(BP.makeL tm.h y.2).1,pend:=tm.pend }
def Tmpl.kinds(tm:Tmpl):List PK:=AP.kindsL tm.t++(AP.kindsLL tm.fs++BP.kindsL tm.h)
theorem qrt {n:Nat}{h:List BP}(hc:qdy n h=true):n<=h.length/\∀b,b<n->∃q,h[b]?=some q/\q.isCells=true:=by
 simp only[qdy,qOd,Nat.ble_eq,qOy] at hc;refine⟨hc.1,fun b hb=>?_⟩;have hlt:b<h.length:=by omega
 refine⟨h[b],qO5 hlt,hc.2 _ ?_⟩;rw[List.mem_take_iff_getElem];exact⟨b,by omega,rfl⟩
theorem qtn {X X':Ctx}(hM:∀n,X.M n->X'.M n)(hw:X'.w=X.w)(hy:X'.y=X.y)(h:∀x,x∈E.glob->(∃sh l i off,x.2=.eptr sh l i off)/\qIV X x) :∀x,x∈E.glob->(∃sh l i off,x.2=.eptr sh l i off)/\qIV X' x:=by intro x hx;obtain⟨⟨sh,l,i,off,he⟩,hr⟩:=h x hx;refine⟨⟨sh,l,i,off,he⟩,hr.move hM (fun _ _=>by rw[hw]) ?_⟩;have hr:=hr.1;rw[he] at hr ⊢;exact hr.noMen rfl hM (fun _ _=>by rw[hw]) hy
theorem qpo{E:Env}{B:Base}{a:Act}:∀(l:List (Nat×TypeId×List Sh)) {X:Ctx} {st:St},Sim E B X st a->∃X',X'.w=X.w/\Sim E B X' (qE3 l st) a
 | [],X,st,hs=>⟨X,rfl,hs⟩
 | (i,e,sh)::l,X,st,hs=>by
  simp only[qE3];split
  ·rename_i hi;have hw:=PushW.same X;have hk:jf (X.pushW (.vec e sh []) none X.w) X.h.length (.vec e sh []):=.inl ⟨by simp[Ctx.pushW],rfl⟩;have hs1:=HSim.push hs.hs hw hk;have hx:=Ctx.push_ext hs.hs (.vec e sh []) hw;have hsim:=hs.ext hx hs1;obtain⟨v,g1,g2⟩:=hs.t.get i _ hi;have hv:v=.slice none 0 0:=by cases g2;rfl
   subst hv;have hrep:Rep (X.pushW (.vec e sh []) none X.w) (.vec st.h.length) (.slice none 0 0):=by rw[<-hs.h];refine .vec _ _ _ _ (by simp[Ctx.pushW]) fun sh' m hv=>?_;unfold qyG;simp[Ctx.pushW]
   have hset:=RepL.set hrep hsim.t i;have he:a.tmps.toList.set i (.slice none 0 0)=a.tmps.toList:=by
    apply qOR;intro j;by_cases hj:j=i
    ·subst hj;rw[qOc (qo g1),g1]
    ·rw[qO1 (qOr hj)]
   rw[he] at hset;obtain⟨X2,q1,q2⟩:=qpo l (X:=X.pushW (.vec e sh []) none X.w) (st:={ st with t:=st.t.set i (.vec st.h.length),h:=st.h++[.vec e sh []] })
    ⟨hs1,by simp[Ctx.pushW,hs.h],hset,hsim.fs,hsim.glob,hsim.df,hsim.ni,hsim.y,hsim.pin⟩
   exact⟨X2,q1,q2⟩
  ·exact qpo l hs
theorem qaZ{E:Env}{B:Base}{a:Act}:∀(l:List (Nat×Nat×TypeId×List Sh)) {X:Ctx} {st:St},Sim E B X st a->∃X',X'.w=X.w/\Sim E B X' (qpG l st) a
 | [],X,st,hs=>⟨X,rfl,hs⟩
 | (i,off,e,sh)::l,X,st,hs=>by
  simp only[qpG];split
  ·rename_i b o hi;split
   ·rename_i cs hb;split
    ·rename_i hc;have hw:=PushW.same X;have hk:jf (X.pushW (.vec e sh []) none X.w) X.h.length (.vec e sh []):=.inl ⟨by simp[Ctx.pushW],rfl⟩;have hs1:=HSim.push hs.hs hw hk;have hx:=Ctx.push_ext hs.hs (.vec e sh []) hw;have hsim:=hs.ext hx hs1;have hbX:X.h[b]?=some (.cells cs):=by rw[hs.h];exact hb
     have hbl:=qo hbX;obtain⟨n,c,T,g1,g2,g3⟩:=hs.hs.blk b _ hbX;have hb1:(X.pushW (.vec e sh []) none X.w).h[b]?=some (.cells cs):=by show (X.h++[Blk.vec e sh []])[b]?=_;rw[qOb hbl];exact hbX
     have g1':(X.pushW (.vec e sh []) none X.w).σ b=some n:=by show (if b=X.h.length then none else X.σ b)=_;rw[if_neg (by omega)];exact g1
     have g3':=g3.ext hx;have hrep:Rep (X.pushW (.vec e sh []) none X.w) (.vec st.h.length) (.slice none 0 0):=by rw[<-hs.h];refine .vec _ _ _ _ (by simp[Ctx.pushW]) fun sh' m hv=>?_;unfold qyG;simp[Ctx.pushW]
     obtain⟨v,k1,k2⟩:=g3'.get off _ hc;have hv:v=.slice none 0 0:=by cases k2;rfl
     subst hv;have hset:=RepL.set hrep g3' off;have he:c.toList.set off (.slice none 0 0)=c.toList:=by
      apply qOR;intro j;by_cases hj:j=off
      ·subst hj;rw[qOc (qo k1),k1]
      ·rw[qO1 (qOr hj)]
     rw[he] at hset;have hup:UpdW (X.pushW (.vec e sh []) none X.w) n c c T X.w:=⟨g2,g2,rfl,fun _ _=>rfl,rfl,rfl,rfl,rfl⟩;have hown:(X.pushW (.vec e sh []) none X.w).own b n:=⟨g1',_,hb1,rfl⟩;have hx2:=Ctx.upd_ext (k':=.cells (cs.set off (.vec st.h.length))) hs1 hb1 hown hup trivial;have hs2:=hs1.upd (k':=.cells (cs.set off (.vec st.h.length))) hb1 hown hup trivial ⟨n,c,T,g1',g2,hset.ext hx2⟩;have hsim2:=hsim.ext hx2 hs2;have hh:((X.pushW (.vec e sh []) none X.w).upd b (.cells (cs.set off (.vec st.h.length))) X.w).h=(st.h++[Blk.vec e sh []]).set b (.cells (cs.set off (.vec st.h.length))):=by show (X.h++[Blk.vec e sh []]).set b _=_;rw[hs.h]
     obtain⟨X3,q1,q2⟩:=qaZ l hsim2;refine⟨X3,q1,?_⟩;rw[hh] at q2;exact q2
    ·exact qaZ l hs
   ·exact qaZ l hs
  ·exact qaZ l hs
theorem qtm (b c x:Nat):swp b c (swp b c x)=x:=by
 unfold swp;simp only[Nat.beq_eq];by_cases h1:x=b
 ·subst h1;by_cases h2:c=x
  ·simp[h2]
  ·simp[h2]
 ·by_cases h2:x=c
  ·subst h2;simp[h1]
  ·simp[h1,h2]
theorem qLG {b c x n:Nat}(hb:n<=b)(hc:n<=c):n<=swp b c x↔n<=x:=by
 unfold swp;simp only[Nat.beq_eq];split
 ·rename_i h;subst h;exact⟨fun _=>hb,fun _=>hc⟩
 ·split
  ·rename_i h;subst h;exact⟨fun _=>hc,fun _=>hb⟩
  ·exact Iff.rfl
theorem qMn {b c x n:Nat}(hb:b<n)(hc:c<n):swp b c x<n↔x<n:=by
 unfold swp;simp only[Nat.beq_eq];split
 ·rename_i h;subst h;exact⟨fun _=>hb,fun _=>hc⟩
 ·split
  ·rename_i h;subst h;exact⟨fun _=>hc,fun _=>hb⟩
  ·exact Iff.rfl
theorem qJJ {b c x n:Nat}(hb:n<=b)(hc:n<=c)(hx:x<n):swp b c x=x:=by unfold swp;simp only[Nat.beq_eq];rw[if_neg (by omega),if_neg (by omega)]
theorem qG9 {b c:Nat}{h:List Blk}(hb:b<h.length)(hc:c<h.length)(hbc:b≠c)(i:Nat):(qBR b c h)[i]?=h[swp b c i]?:=by
 have e1:h.getD c .dead=h[c]:=by simp[hc]
 have e2:h.getD b .dead=h[b]:=by simp[hb]
 unfold qBR swp;simp only[Nat.beq_eq];rw[e1,e2];by_cases h1:i=b
 ·subst h1;rw[if_pos rfl,qO1 (qOr hbc),qOc hb,qO5 hc]
 ·by_cases h2:i=c
  ·subst h2;rw[if_neg h1,if_pos rfl,qOc (by simpa using hc),qO5 hb]
  ·rw[if_neg h1,if_neg h2,qO1 (qOr h2),qO1 (qOr h1)]
def Ctx.swap(X:Ctx)(b c:Nat):Ctx:={ X with σ:=fun x=>X.σ (swp b c x),h:=(qBR b c X.h).map (Blk.ren (swB b c)) }
theorem qFo (hs:HSim B X){b c:Nat}(hb:B.imps.length<=b)(hc:B.imps.length<=c)(hbl:b<X.h.length)(hcl:c<X.h.length)(hbc:b≠c) :HSim B (X.swap b c)/\Move X (X.swap b c) (swB b c):=by
 have hget:∀i,(X.swap b c).h[i]?=(X.h[swp b c i]?).map (Blk.ren (swB b c)):=fun i=>by show ((qBR b c X.h).map _)[i]?=_;rw[qO8,qG9 hbl hcl hbc]
 have hget':∀i k,(X.swap b c).h[i]?=some k->∃k0,X.h[swp b c i]?=some k0/\k=k0.ren (swB b c):=by
  intro i k h;rw[hget] at h;cases hk:X.h[swp b c i]? with
  | none=>rw[hk] at h;cases h
  | some k0=>rw[hk] at h;exact⟨k0,rfl,(qOE h).symm⟩
 have hσ:∀i,(X.swap b c).σ i=X.σ (swp b c i):=fun _=>rfl;have hm:Move X (X.swap b c) (swB b c):=by
  refine Move.of (fun _ h=>h) (fun _ _=>rfl) (fun b1 b2 hb1 hf=>?_);have hf':b2=swp b c b1:=(qOE hf).symm;subst hf';refine⟨?_,by rw[hσ,qtm],fun sh m ⟨e,l,h1,h2⟩=>⟨e,l,?_,h2⟩,fun sh m _ n hn c T fr hc=>⟨c,T,fr,hc,rfl⟩⟩
  ·show _<((qBR b c X.h).map _).length;simp only[qBR,qO7,qPb];exact(qMn hbl hcl).2 hb1
  ·rcases h1 with h1|h1
   ·obtain⟨k0,h3,h4⟩:=hget' _ _ h1;rw[qtm] at h3;rcases qps (.inl h4) with rfl|rfl
    ·exact .inl h3
    ·exact .inr h3
   ·obtain⟨k0,h3,h4⟩:=hget' _ _ h1;rw[qtm] at h3;rcases qps (.inr h4) with rfl|rfl
    ·exact .inl h3
    ·exact .inr h3
 have hown:∀i n,(X.swap b c).own i n->X.own (swp b c i) n:=by intro i n ⟨h1,k,h2,h3⟩;obtain⟨k0,h4,h5⟩:=hget' i k h2;exact⟨h1,k0,h4,by rw[h5,Blk.mut_ren] at h3;exact h3⟩
 refine⟨⟨?_,?_,fun i n h=>hs.notM _ n (hown _ _ h),hs.ltM,hs.M0,hs.newM,hs.os,hs.tape,hs.output,hs.size,hs.frame,?_,?_,?_,hs.kept⟩,hm⟩
 ·intro i k hk;obtain⟨k0,h1,h2⟩:=hget' i k hk;rw[h2];exact jf.move hm.toMove0 (hσ i) (fun _ _=>rfl) (hs.blk _ k0 h1)
 ·intro i j n h1 h2;have:=hs.inj _ _ n (hown _ _ h1) (hown _ _ h2);rw[<-qtm b c i,this,qtm]
 ·intro i hi;rw[hσ,qJJ hb hc hi];exact hs.imps i hi
 ·intro i hi;obtain⟨k,h1,h2⟩:=hs.impc i hi;exact⟨k.ren (swB b c),by rw[hget,qJJ hb hc hi,h1];rfl,by rw[Blk.solid_ren];exact h2⟩
 ·intro i n h1 h2;exact hs.fresh _ n (hown _ _ h1) ((qLG hb hc).2 h2)
theorem qfR{E:Env}{B:Base}{a:Act}{n:Nat}(hn:B.imps.length<=n):∀(l:List (Nat×Nat)) {X:Ctx} {st:St},Sim E B X st a->∃X',X'.w=X.w/\Sim E B X' (qry n l st) a
 | [],X,st,hs=>⟨X,rfl,hs⟩
 | (i,b)::l,X,st,hs=>by
  simp only[qry];split
  ·rename_i c hc;split
   ·rename_i hcond;simp only[qOd,Nat.ble_eq,Nat.blt_eq,qPy] at hcond;obtain⟨⟨⟨⟨c1,c2⟩,c3⟩,c4⟩,c5⟩:=hcond;have hne:b≠c:=fun e=>by subst e;simp at c5
    obtain⟨g1,g2⟩:=qFo hs.hs (b:=b) (c:=c) (by omega) (by omega) (by rw[hs.h];exact c3) (by rw[hs.h];exact c4) hne;obtain⟨X2,q1,q2⟩:=qfR hn l (X:=X.swap b c) (st:=st.swap b c) ⟨g1,by simp[Ctx.swap,St.swap,hs.h],hs.t.ren g2.toMove0,hs.fs.ren g2.toMove0,qtn (X:=X) (fun _ h=>h) rfl rfl hs.glob,hs.df,hs.ni,hs.y,hs.pin⟩;exact⟨X2,q1,q2⟩
   ·exact qfR hn l hs
  ·exact qfR hn l hs
theorem Tmpl.weaken1 {tm:Tmpl}{ps:List PV}(hk:qdy E.nimp tm.h=true)(h:tm.take1 st=some ps)(hs:Sim E B X st a) :ps.map PV.kind=tm.kinds/\∃X',X'.w=X.w/\Sim E B X' (tm.make ps) a:=by
 unfold Tmpl.take1 at h;split at h
 ·rename_i hpe;have hpe':=qMX hpe;obtain⟨x,yz,h1,h0,rfl⟩:=q08 h;obtain⟨y,z,h2,h3,rfl⟩:=q08 h0;obtain⟨hc1,hc2⟩:=qrt hk;obtain⟨c1,c2⟩:=qDw hs.hs (n:=tm.h.length) (qO2 hs.ni hc1);obtain⟨a1,a2,a3⟩:=AP.takeL_ok (X:=X.cut tm.h.length) _ _ x (y++z) h1;obtain⟨d1,d2,d3⟩:=AP.takeLL_ok (X:=X.cut tm.h.length) _ _ y z h2;obtain⟨b1,b2,b3,b4,b5⟩:=BP.takeL_ok (X:=X.cut tm.h.length) _ _ z [] h3;have hch:(X.cut tm.h.length).h=(st.h.take tm.h.length).map (Blk.ren (keep tm.h.length)):=by rw[<-hs.h];rfl
  rw[<-hch] at b3 b5;rw[qOZ] at b3 b5;obtain⟨e1,e2⟩:=qbi c1 (h':=(BP.makeL tm.h z).1) b3 (fun b k' hb=>by obtain⟨k0,e1,e2,_⟩:=b5 b k' hb;exact⟨k0,e1,e2⟩)
   (fun b hb k' hk'=>by obtain⟨q,q1,q2⟩:=hc2 b (by have:=hs.ni;omega);obtain⟨k0,_,_,e3⟩:=b5 b k' hk';exact e3 q q1 q2)
  refine⟨by simp[Tmpl.kinds,a2,d2,b2],{ X.cut tm.h.length with h:=(BP.makeL tm.h z).1 },rfl,⟨e1,?_,?_,?_,?_,?_,hs.ni,hs.y,?_⟩⟩
  ·simp only[Tmpl.make,a1,d1]
  ·simp only[Tmpl.make];exact(a3 _ (hs.t.ren c2.toMove0)).ext e2
  ·simp only[Tmpl.make,a1];exact(d3 _ (hs.fs.ren c2.toMove0)).ext e2
  ·exact qtn (X:=X) (fun _ h=>h) rfl rfl hs.glob
  ·show qCk X.kept (B.pin tm.pend) a.defers;rw[hpe'];exact hs.df
  ·show ∀p,p∈B.pin tm.pend->p∈X.kept;rw[hpe'];exact hs.pin
 ·cases h
theorem qDM (l:List Nat)(hs:Sim E B X st a):∃X',X'.w=X.w/\Sim E B X' (qLP l st) a:=by obtain⟨X1,f⟩:=q50 l hs.hs;refine⟨X1,f.w,?_⟩;have:=hs.ext f.ext f.hs;rw[f.h,hs.h] at this;exact this
theorem Tmpl.weaken {tm:Tmpl}{ps:List PV}(hk:tm.ok E.nimp=true)(h:tm.take st=some ps)(hs:Sim E B X st a) :ps.map PV.kind=tm.kinds/\∃X',X'.w=X.w/\Sim E B X' (tm.make ps) a:=by
 unfold Tmpl.ok at hk;simp only[qOd,qPp,List.isEmpty_iff,Nat.ble_eq] at hk;obtain⟨X0,h0,h2'⟩:=qpo tm.pro hs;obtain⟨X1,h1',h2⟩:=qaZ tm.prc h2';have h1:=h1'.trans h0;have:∃X',X'.w=X1.w/\Sim E B X' (qry tm.swn tm.sw (qpG tm.prc (qE3 tm.pro st))) a:=by
  rcases hk.2 with h0|h0
  ·rw[h0];exact⟨X1,rfl,h2⟩
  ·exact qfR (qO2 hs.ni h0) tm.sw h2
 obtain⟨X1',h1',h2'⟩:=this;obtain⟨X1'',h1'',h2''⟩:=qDM tm.fz h2';obtain⟨g1,X2,g2,g3⟩:=Tmpl.weaken1 hk.1 h h2'';exact⟨g1,X2,((g2.trans h1'').trans h1').trans h1,g3⟩
structure Out where
 x:Ex
 tm:Tmpl
abbrev TR:=Tree (Nat×List PV)
def qLA:List Out->Nat->Ex×St->TR
 | [],_,_=>.fail
 | o::l,j,r=>match Ex.beq o.x r.1,o.tm.take r.2 with
  | true,some ps=>.leaf (j,ps)
  | _,_=>qLA l (j+1) r
def okR(R:TR):Bool:=R.run.isSome
def jR(R:TR):Nat:=match R.run with|some r=>r.1|none=>0
def pR(R:TR)(i:Nat):PV:=match R.run with|some r=>r.2.getD i (.i 0)|none=>.i 0
def gI(R:TR)(i:Nat):Int:=(pR R i).toI
def gB(R:TR)(i:Nat):Bool:=(pR R i).toB
def gS(R:TR)(i:Nat):List UInt8:=(pR R i).toS
def gR(R:TR)(i:Nat):Go.Eng.R:=(pR R i).toR
def jIs(R:TR)(j:Nat):Bool:=Nat.beq (jR R) j
def qmq(R:TR):List PK->Nat->List PV
 | [],_=>[]
 | .i::l,n=>.i (gI R n)::qmq R l (n+1)
 | .b::l,n=>.b (gB R n)::qmq R l (n+1)
 | .s::l,n=>.s (gS R n)::qmq R l (n+1)
 | .r::l,n=>.r (gR R n)::qmq R l (n+1)
theorem qmO{R:TR}{j:Nat}{ps:List PV}(hR:R.run=some (j,ps)):∀(ks:List PK) (n:Nat),(ps.drop n).map PV.kind=ks->qmq R ks n=ps.drop n
 | [],n,h=>by simp at h;simp[qmq];exact h
 | k::ks,n,h=>by
  cases hd:ps.drop n with
  | nil=>rw[hd] at h;cases h
  | cons v rest=>
   rw[hd] at h;simp only[qP5,qPF] at h;have hn:ps[n]?=some v:=by
    have:(ps.drop n)[0]?=some v:=by rw[hd];rfl
    rwa [qP4,qOQ] at this
   have hr:ps.drop (n+1)=rest:=by rw[<-List.drop_drop,hd];rfl
   have ih:=qmO hR ks (n+1) (by rw[hr];exact h.2);have hp:pR R n=v:=by simp[pR,hR,hn]
   rw[hr] at ih;cases v<;>simp only[PV.kind] at h<;>obtain⟨rfl,_⟩:=h<;>simp only[qmq,ih,gI,gB,gS,gR,hp,PV.toI,PV.toB,PV.toS,PV.toR]
def qMR(R:TR):List Out->Nat->Tree (Ex×St)
 | [],_=>.fail
 | o::l,j=>match l with
  | []=>.leaf (o.x,o.tm.make (qmq R o.tm.kinds 0))
  | _::_=>.br (jIs R j) (.leaf (o.x,o.tm.make (qmq R o.tm.kinds 0))) (qMR R l (j+1))
theorem qCR{R:TR}{j:Nat}{ps:List PV}(hR:R.run=some (j,ps)):∀(outs:List Out) (k:Nat) (o:Out) (r:Ex×St),k<=j->outs[j-k]?=some o->ps.map PV.kind=o.tm.kinds ->
  (qMR R outs k).run=some r->r=(o.x,o.tm.make ps)
 | [],k,o,r,_,h,_,_=>by simp at h
 | o'::l,k,o,r,hk,h,hp,hr=>by
  have hj:jR R=j:=by simp[jR,hR]
  simp only[qMR] at hr;cases l with
  | nil=>
   have:j-k=0:=by
    rcases qP6 (j-k) with h0|h0
    ·exact h0
    ·rw[qOl (by simp;omega)] at h;cases h
   rw[this] at h;simp only[qPf,qNY] at h;subst h;simp only[Tree.run,qNY] at hr;rw[<-hr,qmO hR _ 0 (by simpa using hp)];rfl
  | cons o2 l=>
   simp only[Tree.run] at hr;by_cases hjk:j=k
   ·have hb:jIs R k=true:=by simp[jIs,hj,hjk]
    rw[hb] at hr;simp only[qNY] at hr;subst hjk;simp only[qOK,qPf,qNY] at h;subst h;rw[<-hr,qmO hR _ 0 (by simpa using hp)];rfl
   ·have hb:jIs R k=false:=by
     simp only[jIs,hj];cases hq:Nat.beq j k with
     | false=>rfl
     | true=>exact absurd (qP0 hq) hjk
    rw[hb] at hr;simp only at hr;refine qCR hR (o2::l) (k+1) o r (by omega) ?_ hp hr;rw[show j-k=(j-(k+1))+1 by omega,qP1] at h;exact h
theorem qCZ:∀(outs:List Out) (k:Nat) (r:Ex×St) (j:Nat) (ps:List PV),(qLA outs k r).run=some (j,ps)->k<=j/\∃o,outs[j-k]?=some o/\o.x=r.1/\o.tm.take r.2=some ps
 | [],k,r,j,ps,h=>by simp only[qLA] at h;cases h
 | o::l,k,r,j,ps,h=>by
  simp only[qLA] at h;split at h
  ·rename_i ps' hb ht;simp only[Tree.run,qNY,qOx] at h;obtain⟨rfl,rfl⟩:=h;exact⟨qO0 _,o,by simp,Ex.beq_eq hb,ht⟩
  ·obtain⟨h1,o',h2,h3,h4⟩:=qCZ l (k+1) r j ps h;refine⟨by omega,o',?_,h3,h4⟩;rw[show j-k=(j-(k+1))+1 by omega,qP1];exact h2
def qh(tin:Tmpl)(outs:List Out)(T:List PV->TR):St->Tree (Ex×St):=fun st=>match tin.take st with
 | none=>.fail
 | some ps=>.br (okR (T ps)) (qMR (T ps) outs 0) .fail
theorem qEC {tin:Tmpl}{outs:List Out}{T:List PV->TR}{r:Ex×St}(h:(qh tin outs T st).run=some r) :∃ps j qs,tin.take st=some ps/\(T ps).run=some (j,qs)/\(qMR (T ps) outs 0).run=some r:=by
 unfold qh at h;cases ht:tin.take st with
 | none=>rw[ht] at h;cases h
 | some ps=>
  rw[ht] at h;simp only[Tree.run] at h;cases hr:(T ps).run with
  | none=>simp[okR,hr] at h
  | some q=>
   obtain⟨j,qs⟩:=q;simp only[okR,hr,qQc] at h;exact⟨ps,j,qs,rfl,hr,h⟩
theorem qB9.env {E E':Env}(he:E.glob=E'.glob)(hn:E.nimp=E'.nimp){r:Ex×St}{e:Exit}{w:World}(h:qB9 E B r e a w):qB9 E' B r e a w:=by obtain⟨h1,X',h2,h3⟩:=h;exact⟨h1,X',h2,h3.env he hn⟩
theorem qKF {ni:Nat}{outs:List Out}(h:(outs.all fun o=>o.tm.ok ni)=true){j:Nat}{o:Out}(ho:outs[j]?=some o):o.tm.ok ni=true:=qOy.1 h o (qON ho)
theorem qyy {p:Nat->Prop}(h:∃n,p n):∃n,p n/\∀m,p m->n<=m:=by
 obtain⟨n,hn⟩:=h;induction n using Nat.strongRecOn with
 | _ n ih=>
  by_cases hlt:∃m,m<n/\p m
  ·obtain⟨m,h1,h2⟩:=hlt;exact ih m h1 h2
  ·exact⟨n,hn,fun m hm=>Nat.le_of_not_lt fun h=>hlt ⟨m,h,hm⟩⟩
open Classical in
noncomputable def qxD(p:Nat->Prop):Nat:=if h:∃n,p n then Classical.choose (qyy h) else 0
theorem qpT {p:Nat->Prop}(h:∃n,p n):p (qxD p)/\∀m,p m->qxD p<=m:=by unfold qxD;rw[dif_pos h];exact Classical.choose_spec (qyy h)
def qJ4(tin:Tmpl)(outs:List Out)(r:Ex×St):TR:=match r.1 with
 | .normal=>match tin.take r.2 with
  | some ps=>.leaf (0,ps)
  | none=>.fail
 | _=>qLA outs 1 r
def qmr(S:List PV->TR):Nat->List PV->TR
 | 0,_=>.fail
 | n+1,ps=>(S ps).bind fun r=>match r.1 with
  | 0=>qmr S n r.2
  | j+1=>.leaf (j,r.2)
theorem qGV {P:Program}{c:Code}{BO:Base->Prop}{ev:St->Tree (Ex×St)}(hev:∀(n0:Nat) B X st a r,BO B->Sim E B X st a->(ev st).run=some r->c.wpIn (q4B B.ro) n0 P (qB9 E B r) a X.w){tin:Tmpl} {outs:List Out} {S T:List PV->TR} (hk:tin.ok E.nimp=true) (hko:(outs.all fun o=>o.tm.ok E.nimp)=true)(hS:∀ps r,ps.map PV.kind=tin.kinds->(S ps).run=some r->((ev (tin.make ps)).bind (qJ4 tin outs)).run=some r) (hT:∀ps,∃n,T ps=qmr S n ps) :qt P E.glob E.nimp BO (.loop c) (qh tin outs T):=by
 intro E' B X st a r he hn hbo hs h nf;obtain⟨ps,j,qs,h1,h2,h3⟩:=qEC h;obtain⟨hkd,X',hw,hs'⟩:=Tmpl.weaken hk h1 (hs.env he hn);obtain⟨n0,hn0⟩:=hT ps;have hend:∀(o:Out) (X3:Ctx) (a':Act),outs[j]?=some o->qs.map PV.kind=o.tm.kinds->Sim E B X3 (o.tm.make qs) a'->qB9 E' B r o.x.out a' X3.w:=by intro o X3 a' q1 hkd2 hs3;have hr:=qCR h2 outs 0 o r (qPl _) q1 hkd2 h3;subst hr;exact qB9.env he.symm hn.symm ⟨rfl,X3,rfl,hs3⟩
 rw[hn0] at h2
 let I:Nat->Act->World->Prop:=fun n a' w'=>∃X1 ps1,X1.w=w'/\ps1.map PV.kind=tin.kinds/\Sim E B X1 (tin.make ps1) a'/\(qmr S n ps1).run=some (j,qs)
 have key:∀a' w',(∃n,I n a' w')->c.wpIn (q4B B.ro) nf P (Exit.then (fun a'' w''=>∃n,I n a'' w''/\∀m,I m a' w'->n<m) (qB9 E' B r)) a' w':=by
  intro a' w' hex;have hmin:=qyy hex;obtain⟨n,⟨X1,ps1,rfl,hk1,hs1,hit⟩,hleast⟩:=hmin;cases n with
  | zero=>simp only[qmr] at hit;cases hit
  | succ n=>
   simp only[qmr] at hit;obtain⟨s,g1,g2⟩:=bind_some hit;obtain⟨r1,g3,g4⟩:=bind_some (hS ps1 s hk1 g1);refine wpIn_mono (hev nf B X1 _ a' r1 hbo hs1 g3) fun e a'' w'' ⟨p1,X2,p2,p3⟩=>?_;subst p1 p2;obtain⟨x1,s1⟩:=r1;have other:∀(_:(qLA outs 1 (x1,s1)).run=some s),qB9 E' B r x1.out a'' X2.w:=by
    intro hf;obtain⟨sj,sps⟩:=s;obtain⟨f1,o,f2,f3,f4⟩:=qCZ _ _ _ _ _ hf;cases sj with
    | zero=>omega
    | succ sj=>
     simp only[Tree.run,qNY,qOx] at g2;obtain⟨rfl,rfl⟩:=g2;simp only[qQd] at f2;obtain⟨hkd2,X3,hw3,hs3⟩:=Tmpl.weaken (qKF hko f2) f4 p3;have f3':o.x=x1:=f3;rw[<-f3',<-hw3];exact hend o X3 a'' f2 hkd2 hs3
   cases x1 with
   | normal=>
    simp only[qJ4] at g4;cases htk:tin.take s1 with
    | none=>rw[htk] at g4;cases g4
    | some ps2=>
     rw[htk] at g4;simp only[Tree.run,qNY] at g4;subst g4;obtain⟨hkd2,X3,hw3,hs3⟩:=Tmpl.weaken hk htk p3;refine⟨n,⟨X3,ps2,hw3,hkd2,hs3,g2⟩,fun m hm=>?_⟩;have:=hleast m hm;omega
   | exit i=>exact other g4
   | ret=>exact other g4
 rw[<-hw];have hI0:∃n,I n a X'.w:=⟨n0,X',ps,rfl,hkd,hs',h2⟩;refine wpIn_loop (fun a' w'=>∃n,I n a' w') (fun a' w'=>qxD fun n=>I n a' w') hI0 fun a' w' hex=>?_;refine wpIn_mono (key a' w' hex) fun e a'' w'' hq=>?_;cases e with
 | normal=>
  obtain⟨n,hn1,hn2⟩:=hq;exact⟨⟨n,hn1⟩,qPQ ((qpT ⟨n,hn1⟩).2 n hn1) (hn2 _ (qpT hex).1)⟩
 | exit i=>exact hq
 | goto i=>exact hq
 | ret=>exact hq
 | panic ch=>exact hq
 | outgrown=>exact hq
end Go.Eng

namespace Go.Eng
variable {B:Base}{P:Program}{X:Ctx}{f:FuncId}{gl:List (Nat×AV)}{v:Value}
structure FOut where
 res:AP
 h:List BP
 pro:Option (Nat×TypeId×List Sh):=none
def qLd:Nat->AV->Bool
 | i,.tuple vs=>match vs[i]? with|some .nils=>true|_=>false
 | 0,.nils=>true
 | _,_=>false
def qNd(i:Nat)(v:AV):AV->AV
 | .tuple vs=>.tuple (vs.set i v)
 | .nils=>v
 | x=>x
def qN7(p:Option (Nat×TypeId×List Sh))(r:AV×List Blk):AV×List Blk:=match p with
 | none=>r
 | some (i,e,sh)=>match qLd i r.1 with
  | true=>(qNd i (.vec r.2.length) r.1,r.2++[.vec e sh []])
  | false=>r
def qBP(h:List Blk):Blk->Blk
 | .cells cs=>.cells (AV.lendL h cs)
 | k=>k
def qez(fz:Bool)(r:AV×List Blk):AV×List Blk:=match fz with
 | false=>r
 | true=>let h1:=qF r.2 (List.range r.2.length);(r.1.lend h1,h1.map (qBP h1))
def FOut.take1(o:FOut)(r:AV×List Blk):Option (List PV):=qGD (o.res.take (r.1.ren (keep o.h.length))) (BP.takeL o.h ((r.2.take o.h.length).map (Blk.ren (keep o.h.length))))
def FOut.take(o:FOut)(r:AV×List Blk):Option (List PV):=o.take1 (qN7 o.pro r)
def FOut.make(o:FOut)(ps:List PV):AV×List Blk:=let x:=o.res.make ps;(x.1,(BP.makeL o.h x.2).1)
def FOut.kinds(o:FOut):List PK:=o.res.kinds++BP.kindsL o.h
def qLx:List FOut->Nat->AV×List Blk->TR
 | [],_,_=>.fail
 | o::l,j,r=>match o.take r with
  | some ps=>.leaf (j,ps)
  | none=>qLx l (j+1) r
def qHl(R:TR):List FOut->Nat->Tree (AV×List Blk)
 | [],_=>.fail
 | o::l,j=>match l with
  | []=>.leaf (o.make (qmq R o.kinds 0))
  | _::_=>.br (jIs R j) (.leaf (o.make (qmq R o.kinds 0))) (qHl R l (j+1))
structure FIn where
 args:List AP
 h:List BP
def FIn.take(i:FIn)(args:List AV)(h:List Blk):Option (List PV):=qGD (AP.takeL i.args args) (BP.takeL i.h h)
def FIn.make(i:FIn)(ps:List PV):List AV×List Blk:=let x:=AP.makeL i.args ps;(x.1,(BP.makeL i.h x.2).1)
def FIn.kinds(i:FIn):List PK:=AP.kindsL i.args++BP.kindsL i.h
def q8(i:FIn)(outs:List FOut)(T:List PV->TR):za:=fun args h=>match i.take args h with
 | none=>.fail
 | some ps=>.br (okR (T ps)) (qHl (T ps) outs 0) .fail
theorem qr1{R:TR}{j:Nat}{ps:List PV}(hR:R.run=some (j,ps)):∀(outs:List FOut) (k:Nat) (o:FOut) (r:AV×List Blk),k<=j->outs[j-k]?=some o->ps.map PV.kind=o.kinds ->
  (qHl R outs k).run=some r->r=o.make ps
 | [],k,o,r,_,h,_,_=>by simp at h
 | o'::l,k,o,r,hk,h,hp,hr=>by
  have hj:jR R=j:=by simp[jR,hR]
  simp only[qHl] at hr;cases l with
  | nil=>
   have:j-k=0:=by
    rcases qP6 (j-k) with h0|h0
    ·exact h0
    ·rw[qOl (by simp;omega)] at h;cases h
   rw[this] at h;simp only[qPf,qNY] at h;subst h;simp only[Tree.run,qNY] at hr;rw[<-hr,qmO hR _ 0 (by simpa using hp)];rfl
  | cons o2 l=>
   simp only[Tree.run] at hr;by_cases hjk:j=k
   ·have hb:jIs R k=true:=by simp[jIs,hj,hjk]
    rw[hb] at hr;simp only[qNY] at hr;subst hjk;simp only[qOK,qPf,qNY] at h;subst h;rw[<-hr,qmO hR _ 0 (by simpa using hp)];rfl
   ·have hb:jIs R k=false:=by
     simp only[jIs,hj];cases hq:Nat.beq j k with
     | false=>rfl
     | true=>exact absurd (qP0 hq) hjk
    rw[hb] at hr;simp only at hr;refine qr1 hR (o2::l) (k+1) o r (by omega) ?_ hp hr;rw[show j-k=(j-(k+1))+1 by omega,qP1] at h;exact h
theorem qDa:∀(outs:List FOut) (k:Nat) (r:AV×List Blk) (j:Nat) (ps:List PV),(qLx outs k r).run=some (j,ps)->k<=j/\∃o,outs[j-k]?=some o/\o.take r=some ps
 | [],k,r,j,ps,h=>by simp only[qLx] at h;cases h
 | o::l,k,r,j,ps,h=>by
  simp only[qLx] at h;split at h
  ·rename_i ps' ht;simp only[Tree.run,qNY,qOx] at h;obtain⟨rfl,rfl⟩:=h;exact⟨qO0 _,o,by simp,ht⟩
  ·obtain⟨h1,o',h2,h4⟩:=qDa l (k+1) r j ps h;refine⟨by omega,o',?_,h4⟩;rw[show j-k=(j-(k+1))+1 by omega,qP1];exact h2
theorem qmG {i:FIn}{outs:List FOut}{T:List PV->TR}{args:List AV}{h:List Blk}{r:AV×List Blk}(hr:(q8 i outs T args h).run=some r) :∃ps j qs,i.take args h=some ps/\(T ps).run=some (j,qs)/\(qHl (T ps) outs 0).run=some r:=by
 unfold q8 at hr;cases ht:i.take args h with
 | none=>rw[ht] at hr;cases hr
 | some ps=>
  rw[ht] at hr;simp only[Tree.run] at hr;cases hq:(T ps).run with
  | none=>simp[okR,hq] at hr
  | some q=>
   obtain⟨j,qs⟩:=q;simp only[okR,hq,qQc] at hr;exact⟨ps,j,qs,rfl,hq,hr⟩
theorem quE (hs:HSim B X)(fz:Bool){r:AV×List Blk}(hr:Rep X r.1 v)(hh:X.h=r.2) :∃X',X'.w=X.w/\X'.h=(qez fz r).2/\HSim B X'/\Rep X' (qez fz r).1 v/\X'.y=X.y:=by
 cases fz with
 | false=>exact⟨X,rfl,hh,hs,hr,rfl⟩
 | true=>
  obtain⟨X1,f⟩:=q50 (List.range r.2.length) hs;have hf:X1.h=qF r.2 (List.range r.2.length):=by rw[f.h,hh]
  obtain⟨d1,d2⟩:=qbi f.hs (h':=X1.h.map (qBP X1.h)) (by simp) (fun b k' hb=>by
   rw[qO8] at hb;cases hk:X1.h[b]? with
   | none=>rw[hk] at hb;cases hb
   | some k0=>
    rw[hk] at hb;simp only[qOz,qNY] at hb;refine⟨k0,rfl,?_⟩;cases k0 with
    | cells cs=>exact .inr (.inr (.inl ⟨cs,_,rfl,hb.symm,fun vs hv=>qeb f.hs hv⟩))
    | _=>exact .inr (.inl hb.symm)) (fun b hb k' hk'=>by
   obtain⟨cs,hc,hc2⟩:=f.hs.impc b hb;rw[qO8,hc] at hk';simp only[qOz,qNY] at hk';subst hk';cases cs<;>first|(cases hc2;done)|rfl)
  refine⟨{ X1 with h:=X1.h.map (qBP X1.h) },f.w,?_,d1,?_,f.ext.y⟩
  ·simp only[qez,hf]
  ·have:=(qCK f.hs (hr.ext f.ext)).ext d2;simp only[qez];rw[<-hf];exact this
theorem qHt (hs:HSim B X)(p:Option (Nat×TypeId×List Sh)){r:AV×List Blk}(hr:Rep X r.1 v)(hh:X.h=r.2) :∃X',X'.w=X.w/\X'.h=(qN7 p r).2/\HSim B X'/\Rep X' (qN7 p r).1 v/\X'.y=X.y:=by
 cases p with
 | none=>exact⟨X,rfl,hh,hs,hr,rfl⟩
 | some p=>
  obtain⟨i,e,sh⟩:=p;obtain⟨a,h⟩:=r;simp only at hr hh;subst hh;simp only[qN7];cases hn:qLd i a with
  | false=>exact⟨X,rfl,rfl,hs,hr,rfl⟩
  | true=>
   simp only;have hw:=PushW.same X;have hk:jf (X.pushW (.vec e sh []) none X.w) X.h.length (.vec e sh []):=.inl ⟨by simp[Ctx.pushW],rfl⟩;have hs1:=HSim.push hs hw hk;have hx:=Ctx.push_ext hs (.vec e sh []) hw;have hrep:Rep (X.pushW (.vec e sh []) none X.w) (.vec X.h.length) (.slice none 0 0):=by refine .vec _ _ _ _ (by simp[Ctx.pushW]) fun sh' m hv=>?_;unfold qyG;simp[Ctx.pushW]
   refine⟨X.pushW (.vec e sh []) none X.w,rfl,by simp[Ctx.pushW],hs1,?_,rfl⟩;cases a with
   | nils=>
    cases hr;exact hrep
   | tuple vs=>
    cases hr with
    | tuple _ us hu=>
     simp only[qLd] at hn;cases hg:vs[i]? with
     | none=>rw[hg] at hn;cases hn
     | some x=>
      rw[hg] at hn;cases x<;>first|(cases hn;done)|skip
      obtain⟨u,g1,g2⟩:=hu.get i _ hg;have hue:u=.slice none 0 0:=by cases g2;rfl
      subst hue;have hset:=RepL.set hrep (hu.ext hx) i;have he:us.set i (.slice none 0 0)=us:=by
       apply qOR;intro j;by_cases hj:j=i
       ·subst hj;rw[qOc (qo g1),g1]
       ·rw[qO1 (qOr hj)]
      rw[he] at hset;exact .tuple _ _ hset
   | _=>cases i<;>cases hn
theorem FOut.weaken1 {o:FOut}{r:AV×List Blk}{ps:List PV}(hk:qdy B.imps.length o.h=true)(h:o.take1 r=some ps)(hs:HSim B X)(hr:Rep X r.1 v)(hh:X.h=r.2) :ps.map PV.kind=o.kinds/\∃X',X'.w=X.w/\X'.h=(o.make ps).2/\HSim B X'/\Rep X' (o.make ps).1 v/\X'.y=X.y:=by
 unfold FOut.take1 at h;obtain⟨x,y,h1,h2,rfl⟩:=q08 h;obtain⟨hc1,hc2⟩:=qrt hk;obtain⟨c1,c2⟩:=qDw hs (n:=o.h.length) hc1;obtain⟨a1,a2,a3⟩:=AP.take_ok (X:=X.cut o.h.length) _ _ x y h1;obtain⟨b1,b2,b3,b4,b5⟩:=BP.takeL_ok (X:=X.cut o.h.length) _ _ y [] h2;have hch:(X.cut o.h.length).h=(r.2.take o.h.length).map (Blk.ren (keep o.h.length)):=by rw[<-hh];rfl
 rw[<-hch] at b3 b5;rw[qOZ] at b3 b5;obtain⟨d1,d2⟩:=qbi c1 (h':=(BP.makeL o.h y).1) b3 (fun b k' hb=>by obtain⟨k0,e1,e2,_⟩:=b5 b k' hb;exact⟨k0,e1,e2⟩)
  (fun b hb k' hk'=>by obtain⟨q,q1,q2⟩:=hc2 b hb;obtain⟨k0,_,_,e3⟩:=b5 b k' hk';exact e3 q q1 q2)
 refine⟨by simp[FOut.kinds,a2,b2],{ X.cut o.h.length with h:=(BP.makeL o.h y).1 },rfl,?_,d1,?_,rfl⟩
 ·simp only[FOut.make,a1]
 ·simp only[FOut.make];exact(a3 _ (hr.ren c2.toMove0)).ext d2
theorem FOut.weaken {o:FOut}{r:AV×List Blk}{ps:List PV}(hk:qdy B.imps.length o.h=true)(h:o.take r=some ps)(hs:HSim B X)(hr:Rep X r.1 v)(hh:X.h=r.2) :ps.map PV.kind=o.kinds/\∃X',X'.w=X.w/\X'.h=(o.make ps).2/\HSim B X'/\Rep X' (o.make ps).1 v/\X'.y=X.y:=by obtain⟨X1,h1,h2,h3,h4,h5⟩:=qHt hs o.pro hr hh;obtain⟨g1,X2,g2,g3,g4,g5,g6⟩:=FOut.weaken1 hk h h3 h4 h2;exact⟨g1,X2,g2.trans h1,g3,g4,g5,g6.trans h5⟩
theorem qGm {E:Env}(hm:P.follows .mixedOrders=true)(hE:E.tok P)(hS:E.specs P)(hL:E.loopsOK P)(hb:E.bodies P){fn:Func}(hf:P.funcs[f]?=some fn)(hn:(fn.name == "runtime.NumGoroutine")=false) (hbd:fn.body.isNone=false) {n:Nat} {fz:Bool} {i:FIn} {outs:List FOut} {T:List PV->TR}(hi:i.h.length=E.nimp/\i.h.all BP.isCells=true) (ho:(outs.all fun o=>qdy E.nimp o.h)=true)(hT:∀ps r,ps.map PV.kind=i.kinds->(T ps).run=some r->((qCN E n f fn (i.make ps).1 (i.make ps).2).bind fun q=>qLx outs 0 (qez fz q)).run=some r) :qP P E.glob f (q8 i outs T):=by
 refine⟨yR hf hn hbd,fun B X args vargs r hs hen hgl ha h=>?_⟩;obtain⟨ps,j,qs,h1,h2,h3⟩:=qmG h;unfold FIn.take at h1;obtain⟨x,y,g1,g2,rfl⟩:=q08 h1;obtain⟨a1,a2,a3⟩:=AP.takeL_ok (X:=X) _ _ x y g1;obtain⟨b1,b2,b3,b4,b5⟩:=BP.takeL_ok (X:=X) _ _ y [] g2;rw[qOZ] at b3 b5;have himp:B.imps.length=X.h.length:=by rw[hen.imps];simp
 obtain⟨d1,d2⟩:=qbi hs (h':=(BP.makeL i.h y).1) b3 (fun b k' hb=>by obtain⟨k0,e1,e2,_⟩:=b5 b k' hb;exact⟨k0,e1,e2⟩)
  (fun b hb k' hk'=>by
   obtain⟨k0,_,_,e3⟩:=b5 b k' hk';have hlt:b<i.h.length:=by omega
   exact e3 i.h[b] (qO5 hlt) (qOy.1 hi.2 _ (qOI hlt)))
 have hkd:(x++y).map PV.kind=i.kinds:=by simp[FIn.kinds,a2,b2]
 have hgl1:q3b E.glob ({ X with h:=(BP.makeL i.h y).1 }:Ctx):=qtn (X:=X) (fun _ h=>h) rfl rfl hgl;obtain⟨q,k1,k2⟩:=bind_some (hT _ _ hkd h2);have hmk:i.make (x++y)=((AP.makeL i.args (x++y)).1,(BP.makeL i.h y).1):=by simp only[FIn.make,a1]
 rw[hmk] at k1;have hcalls:=qAo hm hE hS hL hb hf (n:=n) d1 (by omega) hgl1 ((a3 _ ha).ext d2) k1;refine hcalls.mono fun e w' ⟨v,X',e1,e2,e3,e4,e5,e6⟩=>?_;obtain⟨X2,p1,p2,p3,p4,p5⟩:=quE e5 fz e3 e4;obtain⟨_,o,q1,q2⟩:=qDa _ _ _ _ _ k2;have hco:qdy B.imps.length o.h=true:=by rw[himp,<-b4,hi.1];exact qOy.1 ho o (qON q1)
 obtain⟨m1,X3,m2,m3,m4,m5,m6⟩:=FOut.weaken hco q2 p3 p4 p2;have hre:=qr1 h2 outs 0 o r (qPl _) q1 m1 h3;subst hre;exact⟨v,X3,e1,by rw[m2,p1,e2],m5,m3,m4,(m6.trans p5).trans e6⟩
def qNB(l:List (FIn×za)):za:=fun args h=>match l.find? fun c=>(c.1.take args h).isSome with
 | some c=>c.2 args h
 | none=>.fail
theorem qI3 {l:List (FIn×za)}(he:qbJ P f)(hl:∀c,c∈l->qP P gl f c.2):qP P gl f (qNB l):=by
 refine⟨he,fun B X args vargs r hs hen hg ha h=>?_⟩;unfold qNB at h;cases hc:l.find? fun c=>(c.1.take args X.h).isSome with
 | none=>rw[hc] at h;cases h
 | some c=>
  rw[hc] at h;exact(hl c (qOU hc)).2 B X args vargs r hs hen hg ha h
theorem qKs:∀c,c∈([]:List (FIn×za))->qP P gl f c.2:=fun _ h=>by cases h
theorem qCp {i:FIn}{G:za}{l:List (FIn×za)}(h:qP P gl f G)(t:∀c,c∈l->qP P gl f c.2):∀c,c∈(i,G)::l->qP P gl f c.2:=fun c hc=>by
 rcases qOj.1 hc with rfl|hc
 ·exact h
 ·exact t c hc
end Go.Eng

namespace Go.Eng
variable {E:Env}{P:Program}{f:FuncId}{fn:Func}
def q5r(fn:Func):Code:=fn.body.getD .skip
def w8(fn:Func)(k:Nat):Code:=((qZ (q5r fn))[k]?).getD .skip
def qnn:Code->Code
 | .loop c=>c
 | c=>c
def qNL(E:Env)(f:FuncId)(fn:Func)(k:Nat):qEF:=match w8 fn k with
 | .rangeFunc _ ps a b=>qzw (ye E (q9b E 9) (q8m E) (qlG E (q9b E 9)) f a (k+1)) (ye E (q9b E 9) (q8m E) (qlG E (q9b E 9)) f b (k+1+zx a)) ps.toList
 | _=>fun _ _=>.fail
def hdl(E:Env):Option (FuncId×Func×Nat)->q8q
 | none=>q9b E 9
 | some (fc,fnc,kc)=>qIq (qNL E fc fnc kc) (q9b E 9)
def rgh(E:Env):Option (FuncId×Func×Nat)->qdW
 | none=>qlG E (q9b E 9)
 | some _=>qxO
def qoZ(E:Env)(y:Option (FuncId×Func×Nat))(f:FuncId)(fn:Func)(k:Nat)(st:St):Tree (Ex×St):=ye E (hdl E y) (q8m E) (rgh E y) f (qnn (w8 fn k)) (k+1) st
def z8(E:Env)(f:FuncId)(fn:Func)(k:Nat)(tin:Tmpl)(outs:List Out)(ps:List PV):TR:=(qoZ E none f fn k (tin.make ps)).bind (qJ4 tin outs)
def qDf(E:Env)(y:Option (FuncId×Func×Nat))(f:FuncId)(fn:Func)(k:Nat)(tin:Tmpl)(outs:List Out)(ps:List PV):TR:=(qoZ E y f fn k (tin.make ps)).bind (qJ4 tin outs)
def qj(E:Env)(f:FuncId)(fn:Func)(fz:Bool)(i:FIn)(outs:List FOut)(ps:List PV):TR:=(qCN E 9 f fn (i.make ps).1 (i.make ps).2).bind fun q=>qLx outs 0 (qez fz q)
def qpA:Nat:=2^70
def qf(S:List PV->TR)(ps:List PV):TR:=qmr S qpA ps
structure EnvOK (E:Env) (P:Program):Prop where
 tok:E.tok P
 specs:E.specs P
 loops:E.loopsOK P
 bodies:E.bodies P
theorem q3P (h:E.tt.map (fun x=>qAu P x.1)=E.tt.map (·.2)):E.tok P:=by
 intro x hx;have:∀(l:List (TypeId×TI)),l.map (fun x=>qAu P x.1)=l.map (·.2)->∀x,x∈l->qAu P x.1=x.2:=by
  intro l;induction l with
  | nil=>intro _ x hx;cases hx
  | cons y l ih=>
   intro h x hx;simp only[qP5,qPF] at h;rcases qOj.1 hx with rfl|hx
   ·exact h.1
   ·exact ih h.2 x hx
 exact this _ h x hx
theorem aln {α:Type}{p:α->Prop}:∀x,x∈([]:List α)->p x:=fun _ h=>by cases h
theorem alc {α:Type}{p:α->Prop}{a:α}{l:List α}(h:p a)(t:∀x,x∈l->p x):∀x,x∈a::l->p x:=fun x hx=>by
 rcases qOj.1 hx with rfl|hx
 ·exact h
 ·exact t x hx
theorem qHS (h:P.funcs[f]?=some fn)(hn:(fn.name == "runtime.NumGoroutine")=false):P.funcs[(f,fn).1]?=some (f,fn).2/\((f,fn).2.name == "runtime.NumGoroutine")=false:=⟨h,hn⟩
theorem qKn {gl:List (Nat×AV)}{ni f k:Nat}{L:St->Tree (Ex×St)}(hf:P.funcs[f]?=some fn)(hb:fn.body.isSome=true)(hn:((qZ (q5r fn))[k]?).isSome=true) {it:List (FuncId×FuncId×Nat)} (hg:qt P gl ni (qH P it f) (w8 fn k) L) :∃fn' c c',P.funcs[((f,k),L).1.1]?=some fn'/\fn'.body=some c/\(qZ c)[((f,k),L).1.2]?=some c'/\qt P gl ni (qH P it ((f,k),L).1.1) c' ((f,k),L).2:=by
 refine⟨fn,q5r fn,w8 fn k,hf,?_,?_,hg⟩
 ·unfold q5r;cases h:fn.body with
  | none=>rw[h] at hb;cases hb
  | some c=>rfl
 ·show (qZ (q5r fn))[k]?=some (w8 fn k);unfold w8;cases h:(qZ (q5r fn))[k]? with
  | none=>rw[h] at hn;cases hn
  | some c=>rfl
def qzG:Code->Bool
 | .loop _=>true
 | _=>false
theorem qAP {A C:List Code}(hA:∀(k:Nat) (d:Code),A[k]?=some d->∀(j:Nat) (c':Code),(qZ d)[j]?=some c'->A[k+j]?=some c')(hC:∀(k:Nat) (d:Code),C[k]?=some d->∀(j:Nat) (c':Code),(qZ d)[j]?=some c'->C[k+j]?=some c') :∀(k:Nat) (d:Code),(A++C)[k]?=some d->∀(j:Nat) (c':Code),(qZ d)[j]?=some c'->(A++C)[k+j]?=some c':=by
 intro k d hd j c' hc;rcases qO6 k A.length with h|h
 ·rw[qOb h] at hd;have:=hA k d hd j c' hc;rw[qOb (qo this)];exact this
 ·rw[qOi h] at hd;have:=hC _ d hd j c' hc;rw[qOi (by omega),show k+j-A.length=k-A.length+j by omega];exact this
theorem qyq {c:Code}{l:List Code}(hc:qZ c=c::l)(hl:∀(k:Nat) (d:Code),l[k]?=some d->∀(j:Nat) (c':Code),(qZ d)[j]?=some c'->l[k+j]?=some c') :∀(k:Nat) (d:Code),(c::l)[k]?=some d->∀(j:Nat) (c':Code),(qZ d)[j]?=some c'->(c::l)[k+j]?=some c':=by
 intro k d hd j c' hj;cases k with
 | zero=>
  simp only[qPf,qNY] at hd;subst hd;rw[hc] at hj;simpa using hj
 | succ k=>
  simp only[qP1] at hd;have:=hl k d hd j c' hj;rw[show k+1+j=(k+j)+1 by omega,qP1];exact this
theorem qzP:∀(c:Code) (k:Nat) (d:Code),(qZ c)[k]?=some d->∀(j:Nat) (c':Code),(qZ d)[j]?=some c'->(qZ c)[k+j]?=some c':=by
 intro c;induction c with
 | seq a b iha ihb=>exact qyq rfl (qAP iha ihb)
 | cond x a b iha ihb=>exact qAP iha ihb
 | block id c ih=>exact ih
 | scope c ih=>exact ih
 | loop c ih=>exact qyq rfl ih
 | rangeFunc x ps a b iha ihb=>exact qyq rfl (qAP iha ihb)
 | _=>intro k d hd;simp[qZ] at hd
theorem qGL {k:Nat}(h:((qZ (q5r fn))[k]?).isSome=true):(qZ (q5r fn))[k]?=some (w8 fn k):=by
 unfold w8;cases h':(qZ (q5r fn))[k]? with
 | none=>rw[h'] at h;cases h
 | some c=>rfl
def qLS(E:Env)(P:Program)(f:FuncId):Option (FuncId×Func×Nat)->Prop
 | none=>q80 E.iter f=true
 | some (fc,fnc,kc)=>P.funcs[fc]?=some fnc/\(qvC E.iter f fc kc&&(q80 E.iter fc&&(fnc.body.isSome&&((qZ (q5r fnc))[kc]?).isSome)))=true
theorem qxu (h:fn.body.isSome=true):fn.body=some (q5r fn):=by
 unfold q5r;cases hb:fn.body with
 | none=>rw[hb] at h;cases h
 | some c=>rfl
theorem qLq (hm:P.follows .mixedOrders=true)(h:EnvOK E P){y:Option (FuncId×Func×Nat)}(hy:qLS E P f y):(∀B,qH P E.iter f B->CallOK E P (hdl E y) B)/\qlJ E P (rgh E y):=by
 have hcall:=qhv hm h.tok h.specs h.loops h.bodies 9;cases y with
 | none=>exact⟨fun B _=>hcall B,qdH hm h.tok h.specs h.loops h.bodies hcall⟩
 | some y=>
  obtain⟨fc,fnc,kc⟩:=y;obtain⟨hf,hc⟩:=hy;simp only[qOd] at hc;obtain⟨c1,c2,c3,c4⟩:=hc;refine⟨fun B hB=>⟨(hcall B).fn,?_⟩,qob E P⟩;have hfi:qjv E.iter f=some (fc,kc):=by
   unfold qvC at c1;split at c1
   ·rename_i z hz;simp only[qOd] at c1;rw[hz];obtain⟨z1,z2⟩:=z;have e1:z1=fc:=qP0 c1.1;have e2:z2=kc:=qP0 c1.2;rw[e1,e2]
   ·cases c1
  obtain⟨_,hI⟩:=hB;rw[hfi] at hI;have hnode:=qGL c4;have hsub:=qzP (q5r fnc) kc _ hnode;intro args st r X a vargs hs ha hr;simp only[hdl,qIq,qNL] at hr;cases hn:w8 fnc kc with
  | rangeFunc x ps c d=>
   rw[hn] at hr hnode hsub;refine qDx hf (qxu c3) hnode c2 (fun B X st act r hbo hs hr n=>?_) (fun B X st act r hbo hs hr n=>?_) hI args st r X a vargs hs ha hr
   ·refine qbL hm h.tok h.specs h.loops hf (qxu c3) (fun B _=>hcall B) (qc2 hm h.tok h.specs h.loops h.bodies) (q7L E) (qdH hm h.tok h.specs h.loops h.bodies hcall) c (kc+1) (fun j c' hj=>?_) hbo hs hr;have:=hsub (1+j) c' (by simp only[qZ];rw[Nat.add_comm,qP1,qOb (qo hj)];exact hj);rw[show kc+1+j=kc+(1+j) by omega];exact this
   ·refine qbL hm h.tok h.specs h.loops hf (qxu c3) (fun B _=>hcall B) (qc2 hm h.tok h.specs h.loops h.bodies) (q7L E) (qdH hm h.tok h.specs h.loops h.bodies hcall) d (kc+1+zx c) (fun j c' hj=>?_) hbo hs hr;have:=hsub (1+zx c+j) c' (by simp only[qZ];rw[show 1+zx c+j=(zx c+j)+1 by omega,qP1,qOi (by rw[uE];omega),uE];rw[show zx c+j-zx c=j by omega];exact hj);rw[show kc+1+zx c+j=kc+(1+zx c+j) by omega];exact this
  | _=>rw[hn] at hr;cases hr
theorem qbR (hm:P.follows .mixedOrders=true)(h:EnvOK E P){f k:Nat}(hf:P.funcs[f]?=some fn)(hlp:qzG (w8 fn k)=true) {tin:Tmpl} {outs:List Out} {S:List PV->TR} {y:Option (FuncId×Func×Nat)} (hy:qLS E P f y)(hk:(tin.ok E.nimp&&outs.all fun o=>o.tm.ok E.nimp)=true)(hnk:(fn.body.isSome&&((qZ (q5r fn))[k]?).isSome)=true)(hS:∀ps,S ps=qDf E y f fn k tin outs ps):qt P E.glob E.nimp (qH P E.iter f) (w8 fn k) (qh tin outs (qf S)):=by
 simp only[qOd] at hk hnk;have hnode:=qGL hnk.2;have hsub:∀j c',(qZ (qnn (w8 fn k)))[j]?=some c'->(qZ (q5r fn))[k+1+j]?=some c':=by intro j c' hj;have:=qzP (q5r fn) k _ hnode (1+j) c' (by cases hn:w8 fn k<;>simp[hn,qzG] at hlp;rw[hn] at hj;simp only[qZ,qnn] at hj ⊢;rw[Nat.add_comm,qP1];exact hj);rw[show k+1+j=k+(1+j) by omega];exact this
 have hc:w8 fn k=.loop (qnn (w8 fn k)):=by cases hn:w8 fn k<;>simp[hn,qzG] at hlp;rfl
 rw[hc];refine qGV (ev:=qoZ E y f fn k) (S:=S) ?_ hk.1 hk.2 (fun ps r _ hr=>by rw[hS] at hr;exact hr) (fun ps=>⟨qpA,rfl⟩);intro n0 B X st a r hbo hs hr;obtain⟨w1,w2⟩:=qLq hm h hy;exact qbL hm h.tok h.specs h.loops hf (qxu hnk.1) w1 (qc2 hm h.tok h.specs h.loops h.bodies) (q7L E) w2 (qnn (w8 fn k)) (k+1) hsub hbo hs hr
theorem qC9 (hm:P.follows .mixedOrders=true)(h:EnvOK E P){f k:Nat}(hf:P.funcs[f]?=some fn)(hlp:qzG (w8 fn k)=true) {tin:Tmpl} {outs:List Out} {S:List PV->TR} (hni:q80 E.iter f=true)(hk:(tin.ok E.nimp&&outs.all fun o=>o.tm.ok E.nimp)=true)(hnk:(fn.body.isSome&&((qZ (q5r fn))[k]?).isSome)=true)(hS:∀ps,S ps=z8 E f fn k tin outs ps):qt P E.glob E.nimp (qH P E.iter f) (w8 fn k) (qh tin outs (qf S)):=qbR hm h hf hlp (y:=none) hni hk hnk hS
theorem qo7 (hm:P.follows .mixedOrders=true)(h:EnvOK E P)(hf:P.funcs[f]?=some fn)(hn:((fn.name == "runtime.NumGoroutine")||fn.body.isNone)=false) {fz:Bool} {i:FIn} {outs:List FOut} {T:List PV->TR}(hk:(Nat.beq i.h.length E.nimp&&i.h.all BP.isCells&&outs.all fun o=>qdy E.nimp o.h)=true)(hT:∀ps,T ps=qj E f fn fz i outs ps):qP P E.glob f (q8 i outs T):=by simp only[Bool.or_eq_false_iff] at hn;simp only[qOd] at hk;exact qGm hm h.tok h.specs h.loops h.bodies hf hn.1 hn.2 (n:=9) (fz:=fz) ⟨qP0 hk.1.1,hk.1.2⟩ hk.2 (fun ps r _ hr=>by rw[hT] at hr;exact hr)
theorem b1 (h:P.funcs[f]?=some fn)(hn:(fn.name == "runtime.NumGoroutine")=false:=by kernel_rfl):∀x,x∈[(f,fn)]->P.funcs[x.1]?=some x.2/\(x.2.name == "runtime.NumGoroutine")=false:=alc (qHS h hn) aln
theorem bk (h:P.funcs[f]?=some fn)(hn:(fn.name == "runtime.NumGoroutine")=false:=by kernel_rfl):P.funcs[(f,fn).1]?=some (f,fn).2/\((f,fn).2.name == "runtime.NumGoroutine")=false:=qHS h hn
theorem lk {gl:List (Nat×AV)}{ni f k:Nat}{L:St->Tree (Ex×St)}(hf:P.funcs[f]?=some fn){it:List (FuncId×FuncId×Nat)} (hg:qt P gl ni (qH P it f) (w8 fn k) L) (hb:fn.body.isSome=true:=by kernel_rfl) (hn:((qZ (q5r fn))[k]?).isSome=true:=by kernel_rfl) :∃fn' c c',P.funcs[((f,k),L).1.1]?=some fn'/\fn'.body=some c/\(qZ c)[((f,k),L).1.2]?=some c'/\qt P gl ni (qH P it ((f,k),L).1.1) c' ((f,k),L).2:=qKn hf hb hn hg
theorem sk (E:Env)(hm:P.follows .mixedOrders=true)(ht:E.tt.map (fun x=>qAu P x.1)=E.tt.map (·.2))(hs:∀x,x∈E.spec->qP P E.glob x.1 x.2)(hl:E.loopsOK P)(hb:E.bodies P)(hf:P.funcs[f]?=some fn){i:FIn} {outs:List FOut} {T:List PV->TR} (hT:∀ps,T ps=qj E f fn true i outs ps:=by exact fun _=>rfl) (hn:((fn.name == "runtime.NumGoroutine")||fn.body.isNone)=false:=by kernel_rfl)(hk:(Nat.beq i.h.length E.nimp&&i.h.all BP.isCells&&outs.all fun o=>qdy E.nimp o.h)=true:=by kernel_rfl) (hd:∀x,x∈E.dels->qpk P x.1 x.2:=by exact aln):qP P E.glob f (q8 i outs T):=qo7 hm ⟨q3P ht,⟨hs,hd⟩,hl,hb⟩ hf hn hk hT
theorem gk (E:Env)(hm:P.follows .mixedOrders=true)(ht:E.tt.map (fun x=>qAu P x.1)=E.tt.map (·.2))(hs:∀x,x∈E.spec->qP P E.glob x.1 x.2)(hl:E.loopsOK P)(hb:E.bodies P){f k:Nat}(hf:P.funcs[f]?=some fn){tin:Tmpl} {outs:List Out} {S:List PV->TR} (hS:∀ps,S ps=z8 E f fn k tin outs ps:=by exact fun _=>rfl) (hlp:qzG (w8 fn k)=true:=by kernel_rfl) (hni:q80 E.iter f=true:=by kernel_rfl)(hk:(tin.ok E.nimp&&outs.all fun o=>o.tm.ok E.nimp)=true:=by kernel_rfl) (hnk:(fn.body.isSome&&((qZ (q5r fn))[k]?).isSome)=true:=by kernel_rfl) (hd:∀x,x∈E.dels->qpk P x.1 x.2:=by exact aln) :qt P E.glob E.nimp (qH P E.iter f) (w8 fn k) (qh tin outs (qf S)):=qC9 hm ⟨q3P ht,⟨hs,hd⟩,hl,hb⟩ hf hlp hni hk hnk hS
end Go.Eng

namespace Go.Eng
open Go.Shelf Go.RowKit Go.Proofs Go.Sort
variable {P:Program}{X:Ctx}{gl:List (Nat×AV)}{ps:List PV}{vs:List Value}
theorem qpR (w:World)(q:Nat)(os:Array Obj):Below w.heap.size w (grow (w.drewN q) os):=
 ⟨rfl,rfl,rfl,by simp[grow],fun i hi=>by show ((w.drewN q).heap++os)[i]?=_;rw[Array.getElem?_append_left (by show i<w.heap.size;omega)];rfl⟩
theorem qyZ (w:World)(e:TypeId)(s:ByteArray):Below w.heap.size w (Lib.bytesWorld w e s):=⟨rfl,rfl,rfl,by rw[Lib.bytesWorld_size];omega,fun k hk=>Lib.bytesWorld_at_old w e s k (by omega)⟩
theorem HSim.grow {B:Base}(hs:HSim B X){w':World}(hb:Below X.w.heap.size X.w w'):HSim B { X with w:=w' }/\Ext X { X with w:=w' }:=by
 have hold:∀n (o:Obj),X.w.heap[n]?=some o->w'.heap[n]?=some o:=fun n o h=>(hb.block n (qO4.1 h).1).trans h;have hx:Ext X { X with w:=w' }:=Move.of (fun _ h=>h) (fun a ha=>qP2 (hb.block _ (hs.ltM _ ha))) (fun b b' hb' h=>by cases h;exact⟨hb',rfl,fun _ _ h=>h,fun _ _ _ n _ c T fr h=>⟨c,T,fr,hold n _ h,rfl⟩⟩);refine⟨⟨fun b k hk=>?_,hs.inj,hs.notM,fun n hn=>qOG (hs.ltM n hn) hb.size,hs.M0,hs.newM,hb.os.trans hs.os,hb.tape.trans hs.tape,hb.output.trans hs.output,qO2 hs.size hb.size,
  fun n hn hni=>?_,hs.imps,hs.impc,hs.fresh,fun p hp=>?_⟩,hx⟩
 ·by_cases hd:k=.dead
  ·subst hd;trivial
  ·exact jf.ext hx rfl (fun n hn=>hb.block n (hs.lt hk hd hn)) (hs.blk b k hk)
 ·show w'.heap[n]?=_;rw[hb.block n (qOG hn hs.size)];exact hs.frame n hn hni
 ·obtain⟨q1,q2,q3⟩:=hs.kept p hp;exact⟨hold _ _ q1,q2,q3⟩
theorem qjo {f:FuncId}{i:FIn}{o:FOut}{T:List PV->TR}(he:qbJ P f)(hi:i.h.all BP.isCells=true)(h:∀(B:Base) (X:Ctx) (ps:List PV) (j:Nat) (qs:List PV) (vargs:List Value),HSim B X->q3b gl X->X.h=(i.make ps).2->RepL X (i.make ps).1 vargs->ps.map PV.kind=i.kinds->(T ps).run=some (j,qs) ->j=0/\qs.map PV.kind=o.kinds/\(o.make qs).2=(i.make ps).2/\Calls P f vargs.toArray X.w fun e w'=>∃v,e=.returned v/\Below X.w.heap.size X.w w'/\Rep X (o.make qs).1 v) :qP P gl f (q8 i [o] T):=by
 refine⟨he,fun B X args vargs r hs hen hgl ha hr=>?_⟩;obtain⟨ps,j,qs,h1,h2,h3⟩:=qmG hr;unfold FIn.take at h1;obtain⟨x,y,g1,g2,rfl⟩:=q08 h1;obtain⟨a1,a2,a3⟩:=AP.takeL_ok (X:=X) _ _ x y g1;obtain⟨b1,b2,b3,b4,b5⟩:=BP.takeL_ok (X:=X) _ _ y [] g2;rw[qOZ] at b3 b5;have himp:B.imps.length=X.h.length:=by rw[hen.imps];simp
 obtain⟨d1,d2⟩:=qbi hs (h':=(BP.makeL i.h y).1) b3 (fun b k' hb=>by obtain⟨k0,e1,e2,_⟩:=b5 b k' hb;exact⟨k0,e1,e2⟩)
  (fun b hb k' hk'=>by
   obtain⟨k0,_,_,e3⟩:=b5 b k' hk';have hlt:b<i.h.length:=by omega
   exact e3 i.h[b] (qO5 hlt) (qOy.1 hi _ (qOI hlt)))
 have hkd:(x++y).map PV.kind=i.kinds:=by simp[FIn.kinds,a2,b2]
 have hgl1:q3b gl ({ X with h:=(BP.makeL i.h y).1 }:Ctx):=fun z hz=>⟨(hgl z hz).1,(hgl z hz).2.move d2.M d2.w ((hgl z hz).2.1.ext d2)⟩;have hmk:i.make (x++y)=((AP.makeL i.args (x++y)).1,(BP.makeL i.h y).1):=by simp only[FIn.make,a1]
 obtain⟨k1,k2,k3,k4⟩:=h B _ (x++y) j qs vargs d1 hgl1 (by rw[hmk]) (by rw[hmk];exact(a3 _ ha).ext d2) hkd h2;subst k1;refine k4.mono fun e w' ⟨v,e1,e2,e3⟩=>?_;obtain⟨m1,m2⟩:=d1.grow e2;have hre:=qr1 h2 [o] 0 o r (qPl _) rfl k2 h3;subst hre;exact⟨v,_,e1,rfl,e3.ext m2,by rw[k3,hmk],m1,rfl⟩
theorem qD6 {s:qNX}(h:RepL X [.str s] vs):vs=[.string ⟨s.toArray⟩]:=by
 cases h with
 | cons h t=>cases h;cases t;rfl
theorem qDj {k:IntKind}{n:Int}(h:RepL X [.int k n] vs):vs=[.int k n]:=by
 cases h with
 | cons h t=>cases h;cases t;rfl
theorem qtc {s t:qNX}(h:RepL X [.str s,.str t] vs):vs=[.string ⟨s.toArray⟩,.string ⟨t.toArray⟩]:=by
 cases h with
 | cons h t=>cases h;rw[qD6 t]
theorem qKf (h:ps.map PV.kind=[.s]):∃s,ps=[.s s]:=by
 match ps,h with
 | [.s s],_=>exact⟨s,rfl⟩
theorem qKZ (h:ps.map PV.kind=[.i]):∃s,ps=[.i s]:=by
 match ps,h with
 | [.i s],_=>exact⟨s,rfl⟩
theorem qxR (h:ps.map PV.kind=[.s,.s]):∃s t,ps=[.s s,.s t]:=by
 match ps,h with
 | [.s s,.s t],_=>exact⟨s,t,rfl⟩
def qAa:List PV->TR
 | [.s s,.s [c]]=>.leaf (0,[.i (Lib.indexByte s c)])
 | _=>.fail
theorem qBk {ρ:Ren}(L:Lays.n219 P ρ)(he:qbJ P (ρ.f 219)) :qP P gl (ρ.f 219) (q8 { args:=[.str,.str],h:=[] } [{ res:=.int .i64,h:=[] }] qAa):=
 qjo he rfl fun B X ps j qs vargs hs hg hh ha hk hT=>by
  obtain⟨s,t,rfl⟩:=qxR hk;unfold qAa at hT;split at hT
  ·rename_i s' c hps;simp only[qPF,PV.s.injEq,and_true] at hps;obtain⟨rfl,rfl⟩:=hps;cases hT;have:=qtc ha;subst this;refine⟨rfl,rfl,rfl,(Any.stringslite_Index_one L ⟨s.toArray⟩ c X.w).mono fun e w' ⟨h1,h2⟩=>?_⟩;subst h2;exact⟨_,h1,Below.refl _ _,.int _ _⟩
  ·cases hT
def qri:List PV->TR
 | [.s s,.s t]=>.leaf (0,[.i (Lib.compareBytes s t)])
 | _=>.fail
theorem qxB {ρ:Ren}(L:Lays.n106 P ρ)(he:qbJ P (ρ.f 106)) :qP P gl (ρ.f 106) (q8 { args:=[.str,.str],h:=[] } [{ res:=.int .i64,h:=[] }] qri):=
 qjo he rfl fun B X ps j qs vargs hs hg hh ha hk hT=>by obtain⟨s,t,rfl⟩:=qxR hk;cases hT;have:=qtc ha;subst this;refine⟨rfl,rfl,rfl,(Any.strings_Compare L ⟨s.toArray⟩ ⟨t.toArray⟩ X.w).mono fun e w' ⟨h1,h2⟩=>?_⟩;subst h2;exact⟨_,h1,Below.refl _ _,.int _ _⟩
def qFp:List PV->TR
 | [.s s,.s t]=>if s.length<=9223372036854775807/\t.length<4294967281/\t.all (fun b=>decide (b.toNat<128))=true then .leaf (0,[.s (Lib.trimS s t)]) else .fail
 | _=>.fail
theorem qEK {ρ:Ren}(L:Lays.n160 P ρ)(he:qbJ P (ρ.f 160))(h116:(P.info? (ρ.t 116)).map (fun i=>(i.zero,i.size))=some (some (.agg (Array.replicate 256 (.bool false))),256)) :qP P gl (ρ.f 160) (q8 { args:=[.str,.str],h:=[] } [{ res:=.str,h:=[] }] qFp):=
 qjo he rfl fun B X ps j qs vargs hs hg hh ha hk hT=>by
  obtain⟨s,t,rfl⟩:=qxR hk;simp only[qFp] at hT;split at hT
  ·rename_i hc;cases hT;have:=qtc ha;subst this;refine⟨rfl,rfl,rfl,(Any.strings_Trim_laid L h116 ⟨s.toArray⟩ ⟨t.toArray⟩ X.w (by simpa[ByteArray.size] using hc.1) (by simpa[ByteArray.size] using hc.2.1) (fun j b hj=>?_)).mono fun e w' ⟨h1,h2⟩=>⟨_,h1,h2,.str _⟩⟩;have h3:=hc.2.2;rw[qOy] at h3;simpa using h3 b (qON hj)
  ·cases hT
def qJW:R:=[Lib.pow10Tab.map U.i]
def qGi:List PV->TR
 | [.i n]=>if -9223372036854775808<=n/\n<=9223372036854775807 then .leaf (0,[.s (Lib.itoa n)]) else .fail
 | _=>.fail
theorem qrp {g:Nat}{k:IntKind}{zs:List Int}{name:String}(hn:P.globalNamed name=some g)(hz:zs≠[])(h:qIV X (g,.eptr (zs.map fun _=>.int k) [zs.map U.i] 0 0)):Lib.TabIs P X.w name k zs:=by
 obtain⟨h1,h2,h3⟩:=h;simp only at h1 h2 h3;have hcell:∀j (hj:j<zs.length),X.w.cell? ⟨g,j,none⟩=some (.int k zs[j]):=by
  intro j hj;generalize hv:(Value.pointer (some ⟨g,0,none⟩))=vv at h1;cases h1 with
  | eptr _ _ _ _ a hsp h0 hl hr=>
   simp only[Value.pointer.injEq,qNY,Addr.mk.injEq] at hv;obtain⟨v1,v2,_⟩:=hv;obtain⟨hM,v,e1,e2⟩:=hr 0 j (by simpa using hj) (by simp);have ho:a.off=0:=by omega
   have e1':X.w.cell? ⟨g,j,none⟩=some v:=by rw[Nat.zero_mul,qOQ,ho,qOS,<-v1] at e1;exact e1
   rw[e1'];have e2':RepU X.w X.M (.int k) (U.i zs[j]) v:=by simpa[zH,qNZ,hj] using e2
   cases e2';rfl
 unfold Lib.TabIs World.var?;rw[hn];simp only[qOp];have h0:=hcell 0 (qPA.2 hz);unfold World.cell? at h0;simp only at h0;split at h0
 ·rename_i cs T fr hheap;rw[hheap];simp only;congr 1;have hsz:cs.size<=zs.length:=by
   have h4:X.w.cell? ⟨g,zs.length,none⟩=none:=by simpa[AV.span] using h3
   unfold World.cell? at h4;simp only[hheap] at h4;simpa using h4
  apply Array.ext
  ·simp;rcases qO6 cs.size zs.length with hlt|hge
   ·have:=hcell cs.size hlt;unfold World.cell? at this;simp[hheap] at this
   ·omega
  ·intro j hj hj2;have hjz:j<zs.length:=by omega
   have:=hcell j hjz;unfold World.cell? at this;simp only[hheap] at this;simp[hj] at this;simp[this]
 ·cases h0
theorem qEf {ρ:Ren}(L:LaysM.n171 P ρ)(he:qbJ P (ρ.f 171)){g:Nat}(hn:P.globalNamed "internal/strconv.uint64pow10" = some g)(hg:(g,AV.eptr (Lib.pow10Tab.map fun _=>.int .u64) qJW 0 0)∈gl) :qP P gl (ρ.f 171) (q8 { args:=[.int .i64],h:=[] } [{ res:=.str,h:=[] }] qGi):=
 qjo he rfl fun B X ps j qs vargs hs hgl hh ha hk hT=>by
  obtain⟨n,rfl⟩:=qKZ hk;simp only[qGi] at hT;split at hT
  ·rename_i hc;cases hT;have:=qDj ha;subst this;refine⟨rfl,rfl,rfl,(Any.strconv_Itoa L n hc.1 hc.2 X.w (qrp hn (by decide) (hgl _ hg).2)).mono fun e w' ⟨h1,k,os,h2⟩=>⟨_,h1,?_,.str _⟩⟩;subst h2;exact qpR _ _ _
  ·cases hT
def qG0:List PV->TR
 | [.s s]=>if s.length<=18 then (match Lib.atoi s with|some n=>.leaf (0,[.i n])|none=>.fail) else .fail
 | _=>.fail
theorem qE4 {ρ:Ren}(L:Lays.n172 P ρ)(he:qbJ P (ρ.f 172)) :qP P gl (ρ.f 172) (q8 { args:=[.str],h:=[] } [{ res:=.tuple [.int .i64,.any],h:=[] }] qG0):=
 qjo he rfl fun B X ps j qs vargs hs hg hh ha hk hT=>by
  obtain⟨s,rfl⟩:=qKf hk;simp only[qG0] at hT;split at hT
  ·rename_i hc;split at hT
   ·rename_i n hn;cases hT;have:=qD6 ha;subst this;refine⟨rfl,rfl,rfl,(Any.strconv_Atoi L ⟨s.toArray⟩ n (by simpa[ByteArray.size] using hc) (by simpa using hn) X.w).mono fun e w' ⟨h1,t,h2⟩=>⟨_,h1,?_,.tuple _ _ (.cons (.int _ _) (.cons (.undef _) .nil))⟩⟩;subst h2;exact qyZ _ _ _
   ·cases hT
  ·cases hT
def qFm(s:qNX):List UInt8:=qeJ (qdh [48,48,48,48,48,48,48,48,48] (qu s) 9) s
def qnf(w:R):Nat->List UInt8
 | 0=>[]
 | i+1=>qFm (Lib.itoa (cI w i 0))++qnf w i
def qF4(b:Bool)(n:Int)(w:R):List UInt8:=if n=0 then [48] else (if b then [45] else [])++Lib.itoa (cI w (n-1) 0)++qnf w (n-1).toNat
def qxy(n:Int)(w:R):Bool:=decide (0<=n)&&decide (n<=232)&&(List.range n.toNat).all fun i=>decide (0<=cI w i 0/\cI w i 0<1000000000)
def qF9:List PV->TR
 | [.b b,.i n,.r w]=>if qxy n w then .leaf (0,[.s (qF4 b n w),.b b,.i n,.r w]) else .fail
 | _=>.fail
end Go.Eng

namespace Go.Proofs
open Go.Shelf
open Tryz
def lays219_ren:Go.Shelf.Ren:=⟨fun|219=>296|217=>357|225=>358|224=>359|267=>360|266=>393|314=>394|n=>n,fun|9=>9|3=>3|4=>4|5=>5|46=>451|146=>477|51=>457|n=>n,fun|1=>1|n=>n⟩
theorem lays219:Go.Proofs.Lays.n219 prog lays219_ren:={
 mixed:=by kernel_rfl
 f217:=func357.trans (congrArg some (by kernel_rfl))
 f219:=func296.trans (congrArg some (by kernel_rfl))
 f224:=func359.trans (congrArg some (by kernel_rfl))
 f225:=func358.trans (congrArg some (by kernel_rfl))
 f266:=func393.trans (congrArg some (by kernel_rfl))
 f267:=func360.trans (congrArg some (by kernel_rfl))
 f314:=func394.trans (congrArg some (by kernel_rfl))
 t3:=underlying3
 a3:=isAgg3
 z3:=sizeOf3
 v3:=zeroValue3
 t4:=underlying4
 a4:=isAgg4
 z4:=sizeOf4
 v4:=zeroValue4
 t5:=underlying5
 a5:=isAgg5
 z5:=sizeOf5
 v5:=zeroValue5
 t9:=underlying9
 a9:=isAgg9
 z9:=sizeOf9
 v9:=zeroValue9
 t46:=underlying451
 a46:=isAgg451
 z46:=sizeOf451
 v46:=zeroValue451
 t51:=underlying457
 a51:=isAgg457
 z51:=sizeOf457
 v51:=zeroValue457
 t146:=underlying477
 a146:=isAgg477
 z146:=sizeOf477
 v146:=zeroValue477
 g1:=by kernel_rfl }
def lays106_ren:Go.Shelf.Ren:=⟨fun|106=>244|213=>297|265=>361|n=>n,fun|9=>9|3=>3|n=>n,fun|n=>n⟩
theorem lays106:Go.Proofs.Lays.n106 prog lays106_ren:={
 mixed:=by kernel_rfl
 f106:=func244.trans (congrArg some (by kernel_rfl))
 f213:=func297.trans (congrArg some (by kernel_rfl))
 f265:=func361.trans (congrArg some (by kernel_rfl))
 t3:=underlying3
 a3:=isAgg3
 z3:=sizeOf3
 v3:=zeroValue3
 t9:=underlying9
 a9:=isAgg9
 z9:=sizeOf9
 v9:=zeroValue9 }
def lays160_ren:Go.Shelf.Ren:=⟨fun|160=>295|232=>351|231=>350|227=>352|234=>354|233=>353|236=>356|235=>355|228=>389|271=>392|151=>391|197=>390|120=>409|152=>408|260=>407|137=>414|119=>415|224=>359|225=>358|217=>357|266=>393|n=>n,fun|9=>9|4=>4|3=>3|5=>5|117=>446|116=>445|0=>0|124=>449|21=>21|105=>474|46=>451|119=>498|139=>501|138=>500|n=>n,fun|3=>7|4=>8|n=>n⟩
theorem lays160:Go.Proofs.Lays.n160 prog lays160_ren:={
 mixed:=by kernel_rfl
 f119:=func415.trans (congrArg some (by kernel_rfl))
 f120:=func409.trans (congrArg some (by kernel_rfl))
 f137:=func414.trans (congrArg some (by kernel_rfl))
 f151:=func391.trans (congrArg some (by kernel_rfl))
 f152:=func408.trans (congrArg some (by kernel_rfl))
 f160:=func295.trans (congrArg some (by kernel_rfl))
 f197:=func390.trans (congrArg some (by kernel_rfl))
 f217:=func357.trans (congrArg some (by kernel_rfl))
 f224:=func359.trans (congrArg some (by kernel_rfl))
 f225:=func358.trans (congrArg some (by kernel_rfl))
 f227:=func352.trans (congrArg some (by kernel_rfl))
 f228:=func389.trans (congrArg some (by kernel_rfl))
 f231:=func350.trans (congrArg some (by kernel_rfl))
 f232:=func351.trans (congrArg some (by kernel_rfl))
 f233:=func353.trans (congrArg some (by kernel_rfl))
 f234:=func354.trans (congrArg some (by kernel_rfl))
 f235:=func355.trans (congrArg some (by kernel_rfl))
 f236:=func356.trans (congrArg some (by kernel_rfl))
 f260:=func407.trans (congrArg some (by kernel_rfl))
 f266:=func393.trans (congrArg some (by kernel_rfl))
 f271:=func392.trans (congrArg some (by kernel_rfl))
 t0:=underlying0
 a0:=isAgg0
 z0:=sizeOf0
 v0:=zeroValue0
 t3:=underlying3
 a3:=isAgg3
 z3:=sizeOf3
 v3:=zeroValue3
 t4:=underlying4
 a4:=isAgg4
 z4:=sizeOf4
 v4:=zeroValue4
 t5:=underlying5
 a5:=isAgg5
 z5:=sizeOf5
 v5:=zeroValue5
 t9:=underlying9
 a9:=isAgg9
 z9:=sizeOf9
 v9:=zeroValue9
 t21:=underlying21
 a21:=isAgg21
 z21:=sizeOf21
 v21:=zeroValue21
 t46:=underlying451
 a46:=isAgg451
 z46:=sizeOf451
 v46:=zeroValue451
 t105:=underlying474
 a105:=isAgg474
 z105:=sizeOf474
 v105:=zeroValue474
 t116:=underlying445
 a116:=isAgg445
 z116:=sizeOf445
 t117:=underlying446
 a117:=isAgg446
 z117:=sizeOf446
 v117:=zeroValue446
 t119:=underlying498
 a119:=isAgg498
 z119:=sizeOf498
 t124:=underlying449
 a124:=isAgg449
 z124:=sizeOf449
 v124:=zeroValue449
 t138:=underlying500
 a138:=isAgg500
 z138:=sizeOf500
 v138:=zeroValue500
 t139:=underlying501
 a139:=isAgg501
 z139:=sizeOf501
 v139:=zeroValue501
 g3:=by kernel_rfl
 g4:=by kernel_rfl }
def lays172_ren:Go.Shelf.Ren:=⟨fun|172=>292|244=>348|245=>349|247=>384|279=>385|280=>386|281=>387|282=>388|287=>404|316=>405|171=>166|205=>406|321=>412|322=>413|243=>211|246=>263|283=>306|284=>307|285=>308|286=>309|129=>367|317=>366|318=>368|319=>369|320=>370|337=>395|338=>396|n=>n,fun|9=>9|3=>3|75=>391|76=>392|4=>4|5=>5|167=>467|37=>305|0=>0|85=>468|2=>2|168=>470|53=>400|175=>484|46=>451|210=>487|127=>465|145=>497|143=>495|21=>21|171=>399|173=>403|212=>456|51=>457|20=>20|213=>458|232=>490|233=>491|80=>440|n=>n,fun|15=>3|16=>4|17=>2|18=>5|19=>6|n=>n⟩
theorem lays172:Go.Proofs.Lays.n172 prog lays172_ren:={
 mixed:=by kernel_rfl
 f129:=func367.trans (congrArg some (by kernel_rfl))
 f171:=func166.trans (congrArg some (by kernel_rfl))
 f172:=func292.trans (congrArg some (by kernel_rfl))
 f205:=func406.trans (congrArg some (by kernel_rfl))
 f243:=func211.trans (congrArg some (by kernel_rfl))
 f244:=func348.trans (congrArg some (by kernel_rfl))
 f245:=func349.trans (congrArg some (by kernel_rfl))
 f246:=func263.trans (congrArg some (by kernel_rfl))
 f247:=func384.trans (congrArg some (by kernel_rfl))
 f279:=func385.trans (congrArg some (by kernel_rfl))
 f280:=func386.trans (congrArg some (by kernel_rfl))
 f281:=func387.trans (congrArg some (by kernel_rfl))
 f282:=func388.trans (congrArg some (by kernel_rfl))
 f283:=func306.trans (congrArg some (by kernel_rfl))
 f284:=func307.trans (congrArg some (by kernel_rfl))
 f285:=func308.trans (congrArg some (by kernel_rfl))
 f286:=func309.trans (congrArg some (by kernel_rfl))
 f287:=func404.trans (congrArg some (by kernel_rfl))
 f316:=func405.trans (congrArg some (by kernel_rfl))
 f317:=func366.trans (congrArg some (by kernel_rfl))
 f318:=func368.trans (congrArg some (by kernel_rfl))
 f319:=func369.trans (congrArg some (by kernel_rfl))
 f320:=func370.trans (congrArg some (by kernel_rfl))
 f321:=func412.trans (congrArg some (by kernel_rfl))
 f322:=func413.trans (congrArg some (by kernel_rfl))
 f337:=func395.trans (congrArg some (by kernel_rfl))
 f338:=func396.trans (congrArg some (by kernel_rfl))
 t0:=underlying0
 a0:=isAgg0
 z0:=sizeOf0
 v0:=zeroValue0
 t2:=underlying2
 a2:=isAgg2
 z2:=sizeOf2
 v2:=zeroValue2
 t3:=underlying3
 a3:=isAgg3
 z3:=sizeOf3
 v3:=zeroValue3
 t4:=underlying4
 a4:=isAgg4
 z4:=sizeOf4
 v4:=zeroValue4
 t5:=underlying5
 a5:=isAgg5
 z5:=sizeOf5
 v5:=zeroValue5
 t9:=underlying9
 a9:=isAgg9
 z9:=sizeOf9
 v9:=zeroValue9
 t20:=underlying20
 a20:=isAgg20
 z20:=sizeOf20
 v20:=zeroValue20
 t21:=underlying21
 a21:=isAgg21
 z21:=sizeOf21
 v21:=zeroValue21
 t37:=underlying305
 a37:=isAgg305
 z37:=sizeOf305
 v37:=zeroValue305
 t46:=underlying451
 a46:=isAgg451
 z46:=sizeOf451
 v46:=zeroValue451
 t51:=underlying457
 a51:=isAgg457
 z51:=sizeOf457
 v51:=zeroValue457
 t53:=underlying400
 a53:=isAgg400
 z53:=sizeOf400
 v53:=zeroValue400
 t75:=underlying391
 a75:=isAgg391
 z75:=sizeOf391
 v75:=zeroValue391
 t76:=underlying392
 a76:=isAgg392
 z76:=sizeOf392
 v76:=zeroValue392
 t85:=underlying468
 a85:=isAgg468
 z85:=sizeOf468
 v85:=zeroValue468
 t127:=underlying465
 a127:=isAgg465
 z127:=sizeOf465
 v127:=zeroValue465
 t143:=underlying495
 a143:=isAgg495
 z143:=sizeOf495
 v143:=zeroValue495
 t145:=underlying497
 a145:=isAgg497
 z145:=sizeOf497
 v145:=zeroValue497
 t167:=underlying467
 a167:=isAgg467
 z167:=sizeOf467
 v167:=zeroValue467
 t168:=underlying470
 a168:=isAgg470
 z168:=sizeOf470
 v168:=zeroValue470
 t171:=underlying399
 a171:=isAgg399
 z171:=sizeOf399
 v171:=zeroValue399
 t173:=underlying403
 a173:=isAgg403
 z173:=sizeOf403
 v173:=zeroValue403
 t175:=underlying484
 a175:=isAgg484
 z175:=sizeOf484
 v175:=zeroValue484
 t210:=underlying487
 a210:=isAgg487
 z210:=sizeOf487
 v210:=zeroValue487
 t212:=underlying456
 a212:=isAgg456
 z212:=sizeOf456
 v212:=zeroValue456
 t213:=underlying458
 a213:=isAgg458
 z213:=sizeOf458
 t232:=underlying490
 a232:=isAgg490
 z232:=sizeOf490
 v232:=zeroValue490
 t233:=underlying491
 a233:=isAgg491
 z233:=sizeOf491
 v233:=zeroValue491
 g15:=by kernel_rfl
 g16:=by kernel_rfl
 g17:=by kernel_rfl
 g18:=by kernel_rfl
 g19:=by kernel_rfl }
def lays169_ren:Go.Shelf.Ren:=⟨fun|169=>344|n=>n,fun|70=>436|9=>9|0=>0|72=>438|37=>305|127=>465|3=>3|5=>5|n=>n,fun|n=>n⟩
theorem lays169:Go.Proofs.Lays.n169 prog lays169_ren:={
 mixed:=by kernel_rfl
 f169:=func344.trans (congrArg some (by kernel_rfl))
 t0:=underlying0
 a0:=isAgg0
 z0:=sizeOf0
 v0:=zeroValue0
 t3:=underlying3
 a3:=isAgg3
 z3:=sizeOf3
 v3:=zeroValue3
 t9:=underlying9
 a9:=isAgg9
 z9:=sizeOf9
 v9:=zeroValue9
 t37:=underlying305
 a37:=isAgg305
 z37:=sizeOf305
 v37:=zeroValue305
 t70:=underlying436
 a70:=isAgg436
 z70:=sizeOf436
 v70:=zeroValue436
 t72:=underlying438
 a72:=isAgg438
 z72:=sizeOf438
 v72:=zeroValue438
 t127:=underlying465
 a127:=isAgg465
 z127:=sizeOf465
 v127:=zeroValue465 }
def laysM171_ren:Go.Shelf.Ren:=⟨fun|171=>166|243=>211|246=>263|283=>306|284=>307|285=>308|286=>309|129=>367|317=>366|318=>368|319=>369|320=>370|337=>395|338=>396|n=>n,fun|3=>3|9=>9|2=>2|4=>4|171=>399|0=>0|53=>400|37=>305|5=>5|173=>403|212=>456|51=>457|20=>20|213=>458|46=>451|232=>490|233=>491|n=>n,fun|17=>2|18=>5|19=>6|n=>n⟩
theorem laysM171:Go.Proofs.LaysM.n171 prog laysM171_ren:={
 mixed:=by kernel_rfl
 f129:=func367.trans (congrArg some (by kernel_rfl))
 f171:=func166.trans (congrArg some (by kernel_rfl))
 f243:=func211.trans (congrArg some (by kernel_rfl))
 f246:=func263.trans (congrArg some (by kernel_rfl))
 f283:=func306.trans (congrArg some (by kernel_rfl))
 f284:=func307.trans (congrArg some (by kernel_rfl))
 f285:=func308.trans (congrArg some (by kernel_rfl))
 f286:=func309.trans (congrArg some (by kernel_rfl))
 f317:=func366.trans (congrArg some (by kernel_rfl))
 f318:=func368.trans (congrArg some (by kernel_rfl))
 f319:=func369.trans (congrArg some (by kernel_rfl))
 f320:=func370.trans (congrArg some (by kernel_rfl))
 f337:=func395.trans (congrArg some (by kernel_rfl))
 f338:=func396.trans (congrArg some (by kernel_rfl))
 t0:=underlying0
 a0:=isAgg0
 z0:=sizeOf0
 v0:=zeroValue0
 t2:=underlying2
 a2:=isAgg2
 z2:=sizeOf2
 v2:=zeroValue2
 t3:=underlying3
 a3:=isAgg3
 z3:=sizeOf3
 v3:=zeroValue3
 t4:=underlying4
 a4:=isAgg4
 z4:=sizeOf4
 v4:=zeroValue4
 t5:=underlying5
 a5:=isAgg5
 z5:=sizeOf5
 v5:=zeroValue5
 t9:=underlying9
 a9:=isAgg9
 z9:=sizeOf9
 v9:=zeroValue9
 t20:=underlying20
 a20:=isAgg20
 z20:=sizeOf20
 v20:=zeroValue20
 t37:=underlying305
 a37:=isAgg305
 z37:=sizeOf305
 v37:=zeroValue305
 t46:=underlying451
 a46:=isAgg451
 z46:=sizeOf451
 v46:=zeroValue451
 t51:=underlying457
 a51:=isAgg457
 z51:=sizeOf457
 v51:=zeroValue457
 t53:=underlying400
 a53:=isAgg400
 z53:=sizeOf400
 v53:=zeroValue400
 t171:=underlying399
 a171:=isAgg399
 z171:=sizeOf399
 v171:=zeroValue399
 t173:=underlying403
 a173:=isAgg403
 z173:=sizeOf403
 v173:=zeroValue403
 t212:=underlying456
 a212:=isAgg456
 z212:=sizeOf456
 v212:=zeroValue456
 t213:=underlying458
 a213:=isAgg458
 z213:=sizeOf458
 t232:=underlying490
 a232:=isAgg490
 z232:=sizeOf490
 v232:=zeroValue490
 t233:=underlying491
 a233:=isAgg491
 z233:=sizeOf491
 v233:=zeroValue491
 g17:=by kernel_rfl
 g18:=by kernel_rfl
 g19:=by kernel_rfl
 i0:=by kernel_rfl
 i2:=by kernel_rfl
 i3:=by kernel_rfl
 i4:=by kernel_rfl
 i5:=by kernel_rfl
 i9:=by kernel_rfl
 i20:=by kernel_rfl
 i37:=by kernel_rfl
 i46:=by kernel_rfl
 i51:=by kernel_rfl
 i53:=by kernel_rfl
 i171:=by kernel_rfl
 i173:=by kernel_rfl
 i212:=by kernel_rfl
 i232:=by kernel_rfl
 i233:=by kernel_rfl
 m17:=by kernel_rfl
 m18:=by kernel_rfl
 m19:=by kernel_rfl }
end Go.Proofs

namespace Go.Eng
open Go.Shelf Go.RowKit Go.Proofs
open Tryz
set_option maxHeartbeats 2000000 in
set_option maxRecDepth 100000 in
theorem qIB(b:Nat)(w:World)(h0:w.cell? ⟨b,0,none⟩=some (.pointer (some ⟨b,0,none⟩))) :Calls prog 382 #[.pointer (some ⟨b,0,none⟩)] w fun e w'=>e=.returned (.tuple #[])/\w'=w:=by
 obtain⟨j,hj,_⟩:=qPG.1 (show (prog.info? 438).map (·.size)=some 2 by kernel_rfl)
 go_enter func382,ntmps382
 go_wp2
 rw[Lib.run_neq_ptr_same w ⟨b,0,none⟩ underlying436 hj]
 go_wp2
 go_end0
 exact⟨rfl,rfl⟩
set_option maxHeartbeats 2000000 in
set_option maxRecDepth 100000 in
theorem qGE(b:Nat)(w:World)(h0:w.cell? ⟨b,0,none⟩=some (.pointer none))(hsh:w.shape? b=some (438,2))(hfz:w.frozen? ⟨b,0,none⟩=false) :Calls prog 382 #[.pointer (some ⟨b,0,none⟩)] w fun e w'=>e=.returned (.tuple #[])/\w'=w.setCell ⟨b,0,none⟩ (.pointer (some ⟨b,0,none⟩)):=by
 obtain⟨j,hj,hjs⟩:=qPG.1 (show (prog.info? 438).map (·.size)=some 2 by kernel_rfl)
 go_enter func382,ntmps382
 go_wp2
 rw[Lib.run_to_unsafe w ⟨b,0,none⟩ underlying436 underlying482 hj (by rw[hjs];decide) hsh (Nat.zero_lt_succ 1)];simp only[Result.andThen];rw[Oper.upon_value]
 go_wp2
 rw[run_callFunc_extern func403 (by kernel_rfl) (by kernel_rfl) (by kernel_rfl) (e:=Extern.AbiNoEscape.same) (by kernel_rfl)];rw[Lib.run_noEscape];simp only[Result.andThen];rw[Oper.upon_value]
 go_wp2
 rw[Lib.run_from_unsafe w ⟨b,0,none⟩ underlying482 underlying436 hj hsh (by kernel_rfl)];simp only[Result.andThen];rw[Oper.upon_value]
 go_wp2
 go_end0
 exact⟨rfl,rfl⟩
abbrev BtB(B b:Nat)(bs:List Value)(w:World):Prop:=Lib.IsBuilder 438 5 B b bs w
set_option maxHeartbeats 2000000 in
set_option maxRecDepth 100000 in
theorem qyL(B b:Nat)(bs:List Value)(w:World)(h:BtB B b bs w) :Calls prog 382 #[.pointer (some ⟨b,0,none⟩)] w fun e w'=>e=.returned (.tuple #[])/\Lib.BuilderAt 438 5 B b (.pointer (some ⟨b,0,none⟩)) bs w'/\Below B w w':=by
 rcases h with h|h
 ·refine(qGE b w h.cell0 h.shape h.frozen0).mono ?_;rintro e w' ⟨rfl,rfl⟩;exact⟨rfl,h.used _,(Below.refl B w).setCell (p:=⟨b,0,none⟩) h.1 _⟩
 ·refine(qIB b w h.cell0).mono ?_;rintro e w' ⟨rfl,rfl⟩;exact⟨rfl,h,Below.refl B _⟩
set_option maxHeartbeats 2000000 in
set_option maxRecDepth 100000 in
theorem qJe(B b:Nat)(bs:List Value)(c:Int)(w:World)(h:BtB B b bs w)(hlen:bs.length+1<=140737488355328)(hBw:B<=w.heap.size) :Calls prog 342 #[.pointer (some ⟨b,0,none⟩),.int .u8 c] w fun e w'=>e=.returned .nilIface/\BtB B b (bs++[.int .u8 c]) w'/\Below B w w':=by
 obtain⟨i0,hi,hz0,hz1,hz2⟩:=info_parts (show (prog.info? 5).map (fun i=>(i.zero,i.size,i.bytes))=some (some (.int .u8 0),1,1) by kernel_rfl)
 go_enter func342,ntmps342
 go_wp2_with (go_at_call 382;refine(qyL B b bs _ h).mono ?_)
 rintro e w1 ⟨rfl,h1,hb1⟩;obtain⟨hB,v,hbk,hown,hne⟩:=h1;have c0:w1.cell? ⟨b,0,none⟩=some (.pointer (some ⟨b,0,none⟩)):=by rw[Lib.cell_of_heap hbk];rfl
 have c1:w1.cell? ⟨b,1,none⟩=some v:=by rw[Lib.cell_of_heap hbk];rfl
 have hsz1:=hb1.size
 go_wp2_with (at_builtin;refine wpList_append_own _ rfl _ _ 305 rfl B 5 i0 (.int .u8 0) 1 1 underlying305 hi hz0 hz1 hz2 rfl (by decide) _ _ _ rfl (hown.alloc _) ⟨w1.heap.size,0,none⟩ 1 1 [.int .u8 c] rfl rfl ?c1 ?c2 ?c3 ?c4 ?c5 ?_)
 case c1=>
  intro j u hj
  match j,hj with
  | 0,hj=>simp at hj;subst hj;simp[Addr.add]
 case c2=>intro u hu;simp at hu;subst hu;rfl
 case c3=>unfold maxLen;omega
 case c4=>omega
 case c5=>simp;omega
 intro v' w2 hown' hgrow _;have hlt:b<w1.heap.size:=by
  rcases qO6 b w1.heap.size with h'|h'
  ·exact h'
  ·simp[Array.getElem?_eq_none h'] at hbk
 have hb2:w2.heap[b]?=some (.cells #[.pointer (some ⟨b,0,none⟩),v] 438 (0,0)):=by rw[hgrow.block b (by simp;omega) (fun e=>hne e.symm),Lib.alloc_old w1 _ b hlt];exact hbk
 have d0:w2.cell? ⟨b,0,none⟩=some (.pointer (some ⟨b,0,none⟩)):=by rw[Lib.cell_of_heap hb2];rfl
 have d1:w2.cell? ⟨b,1,none⟩=some v:=by rw[Lib.cell_of_heap hb2];rfl
 have f1:w2.frozen? ⟨b,1,none⟩=false:=Lib.frozen_of_heap hb2 1;obtain⟨ao,n',cap,rfl⟩:∃ao n' cap,v'=.slice ao n' cap:=by
  rcases hown'.2 with⟨hv,_⟩|⟨g,cap,cur,hv,_⟩
  ·exact⟨_,_,_,hv⟩
  ·exact⟨_,_,_,hv⟩
 go_wp2
 go_ret
 refine⟨rfl,.inr ?_,?_⟩
 ·exact Lib.BuilderAt.put (T:=438) (e:=5) hB hb2 (bs':=bs++[.int .u8 c]) (by simpa using hown') (by decide)
 ·exact((hb1.alloc (by omega) _).grown hgrow (by simp;omega) (fun k hk=>(hown.lt k hk).1)).setCell (p:=⟨b,1,none⟩) hB _
set_option maxHeartbeats 2000000 in
set_option maxRecDepth 100000 in
theorem qHk(B b:Nat)(bs:List Value)(s:ByteArray)(w:World)(h:BtB B b bs w)(hlen:bs.length+s.size<=140737488355328)(hBw:B<=w.heap.size) :Calls prog 343 #[.pointer (some ⟨b,0,none⟩),.string s] w fun e w'=>e=.returned (.tuple #[.int .i64 s.size,.nilIface])/\BtB B b (bs++Lib.strCells s) w'/\Below B w w':=by
 obtain⟨i0,hi,hz0,hz1,hz2⟩:=info_parts (show (prog.info? 5).map (fun i=>(i.zero,i.size,i.bytes))=some (some (.int .u8 0),1,1) by kernel_rfl)
 go_enter func343,ntmps343
 go_wp2_with (go_at_call 382;refine(qyL B b bs _ h).mono ?_)
 rintro e w1 ⟨rfl,h1,hb1⟩;obtain⟨hB,v,hbk,hown,hne⟩:=h1;have c0:w1.cell? ⟨b,0,none⟩=some (.pointer (some ⟨b,0,none⟩)):=by rw[Lib.cell_of_heap hbk];rfl
 have c1:w1.cell? ⟨b,1,none⟩=some v:=by rw[Lib.cell_of_heap hbk];rfl
 have hsz1:=hb1.size
 go_wp2_with (at_builtin;refine Lib.wpList_append_own_string _ rfl _ _ 305 9 rfl B 5 i0 underlying305 underlying9 hi hz0 hz1 hz2 _ _ _ rfl hown s rfl ?c3 ?c4 ?c5 ?_)
 case c3=>unfold maxLen;omega
 case c4=>omega
 case c5=>omega
 intro v' w2 hown' hgrow _;have hlt:b<w1.heap.size:=by
  rcases qO6 b w1.heap.size with h'|h'
  ·exact h'
  ·simp[Array.getElem?_eq_none h'] at hbk
 have hb2:w2.heap[b]?=some (.cells #[.pointer (some ⟨b,0,none⟩),v] 438 (0,0)):=by rw[hgrow.block b hlt (fun e=>hne e.symm)];exact hbk
 have d0:w2.cell? ⟨b,0,none⟩=some (.pointer (some ⟨b,0,none⟩)):=by rw[Lib.cell_of_heap hb2];rfl
 have d1:w2.cell? ⟨b,1,none⟩=some v:=by rw[Lib.cell_of_heap hb2];rfl
 have f1:w2.frozen? ⟨b,1,none⟩=false:=Lib.frozen_of_heap hb2 1;obtain⟨ao,n',cap,rfl⟩:∃ao n' cap,v'=.slice ao n' cap:=by
  rcases hown'.2 with⟨hv,_⟩|⟨g,cap,cur,hv,_⟩
  ·exact⟨_,_,_,hv⟩
  ·exact⟨_,_,_,hv⟩
 go_wp2
 go_ret2
 refine⟨rfl,.inr ?_,?_⟩
 ·exact Lib.BuilderAt.put (T:=438) (e:=5) hB hb2 (bs':=bs++Lib.strCells s) (by simpa[Lib.strCells_length] using hown') (by decide)
 ·exact(hb1.grown hgrow (by omega) (fun k hk=>(hown.lt k hk).1)).setCell (p:=⟨b,1,none⟩) hB _
theorem qFw:Builder.Extra prog lays169_ren where
 sizeBuilder:=by kernel_rfl
 liesBuilder:=by kernel_rfl
 t5:=underlying5
 a5:=isAgg5
 z5:=sizeOf5
 v5:=zeroValue5
 infoByte:=by kernel_rfl
 cellsByte:=by kernel_rfl
 sizeByte:=by kernel_rfl
 neB5:=by decide
set_option maxHeartbeats 2000000 in
set_option maxRecDepth 100000 in
theorem qEo(B b:Nat)(l:qNX)(w:World)(h:BtB B b (Lib.byteCells l) w)(h0:l≠[]) :Calls prog 344 #[.pointer (some ⟨b,0,none⟩)] w fun e w'=>e=.returned (.string ⟨l.toArray⟩)/\Below B w w':=Any.Builder_String lays169 qFw B b l w h h0
def qmn(f:Nat->Int):Nat->List UInt8
 | 0=>[]
 | i+1=>qFm (Lib.itoa (f i))++qmn f i
def qDk(b:Bool)(n:Nat)(f:Nat->Int):List UInt8:=if n=0 then [48] else (if b then [45] else [])++Lib.itoa (f (n-1))++qmn f (n-1)
theorem qDe (n:Int)(h:-9223372036854775808<=n/\n<=9223372036854775807)(w:World)(ht:Lib.TabIs prog w "internal/strconv.uint64pow10" .u64 Lib.pow10Tab) :Calls prog 166 #[.int .i64 n] w fun e w'=>e=.returned (.string ⟨(Lib.itoa n).toArray⟩)/\Below w.heap.size w w':=(Any.strconv_Itoa laysM171 n h.1 h.2 w ht).mono fun e w' ⟨h1,k,os,h2⟩=>⟨h1,by subst h2;exact qpR _ _ _⟩
theorem qrL{P:Program}{w w':World}{name:String}{k:IntKind}{zs:List Int}(h:Lib.TabIs P w name k zs)(hb:Below w.heap.size w w'):Lib.TabIs P w' name k zs:=by
 unfold Lib.TabIs World.var? at *;cases hg:P.globalNamed name with
 | none=>rw[hg] at h;cases h
 | some g=>
  rw[hg] at h;simp only[qOp] at h ⊢;by_cases hlt:g<w.heap.size
  ·rw[hb.block g hlt];exact h
  ·rw[Array.getElem?_eq_none (by omega)] at h;cases h
theorem qjH{w w':World}(hb:Below w.heap.size w w'){n:Nat}(hn:n<w.heap.size)(o:Nat):w'.cell? ⟨n,o,none⟩=w.cell? ⟨n,o,none⟩:=qP2 (hb.block n hn)
theorem qz8{B b:Nat}{bs:List Value}{w w':World}(h:BtB B b bs w)(hb:Below w.heap.size w w'):BtB B b bs w':=by
 have key:∀p,Lib.BuilderAt 438 5 B b p bs w->Lib.BuilderAt 438 5 B b p bs w':=by
  intro p h;have hlt:=h.lt;obtain⟨hB,v,hbk,⟨hl,hown⟩,hne⟩:=h;refine⟨hB,v,(hb.block b hlt).trans hbk,⟨hl,?_⟩,hne⟩;rcases hown with h|⟨g,cap,cur,h1,h2,h3,h4⟩
  ·exact .inl h
  ·exact .inr ⟨g,cap,cur,h1,h2,(hb.block g (qO4.1 h3).1).trans h3,h4⟩
 exact h.elim (fun x=>.inl (key _ x)) (fun x=>.inr (key _ x))
theorem qIu{B b:Nat}{bs:List Value}{w:World}(h:BtB B b bs w):BtB B b bs w.drew:=h.elim (fun x=>.inl x.drew) (fun x=>.inr x.drew)
theorem qGB:∀(k n:Nat),n<10^(k+1)->(Lib.decDigits n).length<=k+1
 | 0,n,h=>by rw[Lib.decDigits,dif_pos (by omega)];simp
 | k+1,n,h=>by
  rw[Lib.decDigits];split
  ·simp
  ·have:=qGB k (n/10) (by rw[qPm] at h;omega);simp;omega
theorem qJm{pre l:qNX}{k:Nat}(hp:pre.length<=k)(hl:l.length<=9)(hk:k<=100000:=by omega):(Lib.byteCells pre).length+(⟨l.toArray⟩:ByteArray).size<=140737488355328:=by
 rw[Lib.byteCells_length];have:(⟨l.toArray⟩:ByteArray).size=l.length:=by simp[ByteArray.size]
 omega
theorem qCs{x:Int}(h:0<=x/\x<1000000000):(Lib.itoa x).length<=9:=by unfold Lib.itoa;rw[if_neg (by omega)];exact qGB 8 _ (by omega)
theorem qCo{l:qNX}(h:l.length<=9):(qFm l).length=9:=by unfold qFm qeJ qdh qu;simp;omega
theorem qHH{l:qNX}(h:l.length<=9):(⟨#[48,48,48,48,48,48,48,48,48]⟩:ByteArray).extract l.length 9++⟨l.toArray⟩=⟨(qFm l).toArray⟩:=by
 have key:∀k:Nat,k<=9->(⟨#[48,48,48,48,48,48,48,48,48]⟩:ByteArray).extract k 9=⟨(qdh [48,48,48,48,48,48,48,48,48] (k:Int) 9).toArray⟩:=by
  intro k hk;have:k=0\/k=1\/k=2\/k=3\/k=4\/k=5\/k=6\/k=7\/k=8\/k=9:=by omega
  rcases this with rfl|rfl|rfl|rfl|rfl|rfl|rfl|rfl|rfl|rfl<;>rfl
 rw[key _ h];unfold qFm qeJ qu;apply ByteArray.ext;simp
theorem qGS(l:qNX):Lib.strCells ⟨l.toArray⟩=Lib.byteCells l:=rfl
theorem qIc(x:Int):0<(Lib.itoa x).length:=by
 unfold Lib.itoa;split
 ·simp
 ·rw[Lib.decDigits];split<;>simp
set_option maxHeartbeats 4000000 in
set_option maxRecDepth 1000000 in
theorem qIA(n0:Nat)(b:Bool)(n:Nat)(f:Nat->Int)(w:World)(hlt:n0<w.heap.size)(h0:w.cell? ⟨n0,0,none⟩=some (.bool b))(h1:w.cell? ⟨n0,1,none⟩=some (.int .i64 (n:Int)))(hw:∀i,i<232->w.cell? ⟨n0,2+i,none⟩=some (.int .i64 (f i)))(hn:n<=232) (hf:∀i,i<n->0<=f i/\f i<1000000000) (ht:Lib.TabIs prog w "internal/strconv.uint64pow10" .u64 Lib.pow10Tab) :Calls prog 288 #[.pointer (some ⟨n0,0,none⟩)] w fun e w'=>e=.returned (.string ⟨(qDk b n f).toArray⟩)/\Below w.heap.size w w':=by
 rcases qP6 n with rfl|hpos
 ·go_enter func288,ntmps288
  go_wp2
  go_ret
  exact⟨rfl,Below.refl _ _⟩
 obtain⟨m,rfl⟩:∃m,n=m+1:=⟨n-1,by omega⟩;have hne:(((m+1:Nat):Int)==0)=false:=by simp;omega
 have w1:IntKind.i64.wrap (((m+1:Nat):Int)-1)=(m:Int):=by unfold IntKind.wrap;simp[IntKind.signed,IntKind.bits];omega
 have w1':IntKind.i64.wrap (m:Int)=(m:Int):=by unfold IntKind.wrap;simp[IntKind.signed,IntKind.bits];omega
 have hi:0<=(m:Int)/\(m:Int)<232:=by omega
 have hwm:=hw m (by omega);have w2:IntKind.i64.wrap (((m+1:Nat):Int)-2)=(m:Int)-1:=by unfold IntKind.wrap;simp[IntKind.signed,IntKind.bits];omega
 have hitm:=qCs (hf m (by omega));cases b
 case' false=>
  go_enter func288,ntmps288
  go_wp2
  have hB0:=Lib.fresh_isBuilder 438 5 w;have hb0:=(Below.refl w.heap.size w).alloc (qO0 _) (.cells #[.pointer none,.slice none 0 0] 438);generalize w.alloc (.cells #[.pointer none,.slice none 0 0] 438)=W0 at *;obtain⟨pre,hpre⟩:∃pre:List UInt8,pre=if false=true then [45] else []:=⟨_,rfl⟩
  replace hB0:BtB w.heap.size w.heap.size (Lib.byteCells pre) W0:=by subst hpre;exact hB0
 case' true=>
  go_enter func288,ntmps288
  go_wp2_with (go_at_call 342;refine(qJe w.heap.size w.heap.size [] 45 _ (Lib.fresh_isBuilder 438 5 w) (by simp) (by simp)).mono ?_)
  rintro e W0 ⟨rfl,hB0,hb0⟩;replace hb0:=((Below.refl w.heap.size w).alloc (qO0 _) (.cells #[.pointer none,.slice none 0 0] 438)).trans hb0;obtain⟨pre,hpre⟩:∃pre:List UInt8,pre=if true=true then [45] else []:=⟨_,rfl⟩
  replace hB0:BtB w.heap.size w.heap.size (Lib.byteCells pre) W0:=by subst hpre;exact hB0
  go_wp2
 all_goals
  have hp1:pre.length<=1:=by subst hpre;split<;>simp
  have hs0:=hb0.size;have d1:=(qjH hb0 hlt 1).trans h1;have dm:=(qjH hb0 hlt (2+m)).trans hwm
  go_region_with (first
   | (go_at_call 166;refine(qDe (f m) (by have:=hf m (by omega);omega) _ (qrL ht hb0.drew)).mono ?_;rintro e W1 ⟨rfl,b1⟩)
   | (go_at_call 343;refine(qHk w.heap.size w.heap.size _ _ _ (qz8 (qIu hB0) b1) (qJm hp1 hitm) (qO2 hs0 b1.size)).mono ?_;rintro e W2 ⟨rfl,hB2,b2⟩))
  have b02:Below w.heap.size w W2:=(hb0.drew.trans (b1.mono hs0)).trans b2;have e1:=(qjH b02 hlt 1).trans h1;replace hB2:BtB w.heap.size w.heap.size (Lib.byteCells (pre++Lib.itoa (f m))) W2:=by rw[Lib.byteCells_append];exact hB2
  go_wp2
  go_loopw [4] (fun vi wr=>∃(k:Nat) (acc:qNX),vi=.int .i64 ((k:Int)-1)/\k<=m/\BtB w.heap.size w.heap.size (Lib.byteCells acc) wr/\Below w.heap.size w wr/\acc++qmn f k=pre++Lib.itoa (f m)++qmn f m/\acc.length<=10+9*(m-k)) (fun vi _=>(intOf vi+1).toNat)
  case atStart=>exact⟨m,_,by congr 1<;>omega,qO0 _,hB2,b02,rfl,by simp;omega⟩
  case round=>
   obtain⟨k,acc,rfl,hkm,hI,hbw,hacc,hal⟩:=hrel;have hbs:=hbw.size;rcases qP6 k with rfl|hk0
   ·go_wp2_with (go_at_call 344;refine(qEo w.heap.size w.heap.size acc _ hI ?hne).mono ?_)
    case hne=>intro h0;subst h0;have:=congrArg List.length hacc;have h9:=qIc (f m);simp[qmn] at this;omega
    rintro e W3 ⟨rfl,b3⟩
    go_wp2
    go_ret
    refine⟨?_,hbw.trans b3⟩;simp only[qmn,qOZ] at hacc;rw[hacc,hpre];simp[qDk]
   ·obtain⟨q,rfl⟩:∃q,k=q+1:=⟨k-1,by omega⟩;have x1:(((q+1:Nat):Int)-1)=(q:Int):=by omega
    have x2:(0:Int)<=(q:Int)/\(q:Int)<232:=by omega
    have x3:(q:Int).toNat=q:=qO9 q;have dq:=(qjH hbw hlt (2+q)).trans (hw q (by omega));have hq9:=qCs (hf q (by omega));rw[x1]
    go_wp2_with (go_at_call 166;refine(qDe (f q) (by have:=hf q (by omega);omega) _ (qrL ht hbw)).mono ?_)
    rintro e W3 ⟨rfl,b3⟩;clear w1 w1' w2 hi hwm hne h1 hf hw ht;have hl9:((⟨(Lib.itoa (f q)).toArray⟩:ByteArray).size:Int)<=9:=by simp[ByteArray.size];omega
    go_wp2_with (go_at_call 343;refine(qHk w.heap.size w.heap.size (Lib.byteCells acc) _ _ (qz8 hI b3) ?hl (qO2 hbs b3.size)).mono ?_)
    case hl=>rw[qHH hq9,Lib.byteCells_length];have:=qCo hq9;simp[ByteArray.size];omega
    rintro e W4 ⟨rfl,hB4,b4⟩;rw[qHH hq9,qGS,<-Lib.byteCells_append] at hB4
    go_wp2
    go_roundw
    case rel=>
     refine⟨q,_,by congr 1<;>omega,by omega,hB4,(hbw.trans (b3.mono hbs)).trans b4,?_,?_⟩
     ·rw[<-hacc];simp[qmn]
     ·have:=qCo hq9;simp;omega
    case measure=>simp[intOf]
theorem qDb(w:R):∀i,qnf w i=qmn (fun i=>cI w i 0) i
 | 0=>rfl
 | i+1=>by unfold qnf qmn;rw[qDb w i]
theorem qIl(b:Bool)(n:Nat)(w:R):qF4 b (n:Int) w=qDk b n (fun i=>cI w i 0):=by
 unfold qF4 qDk;by_cases h:n=0
 ·subst h;rfl
 ·rw[if_neg (by omega),if_neg h,qDb];have e:((n:Int)-1)=((n-1:Nat):Int):=by omega
  rw[e,qO9]
theorem qHO{ps:List PV}(h:ps.map PV.kind=[.b,.i,.r]):∃b n w,ps=[.b b,.i n,.r w]:=by
 match ps,h with
 | [.b b,.i n,.r w],_=>exact⟨b,n,w,rfl⟩
theorem qDU{gl:List (Nat×AV)}(hg:(2,AV.eptr (Lib.pow10Tab.map fun _=>.int .u64) qJW 0 0)∈gl) :qP prog gl 288 (q8 { args:=[.ptr 0 0],h:=[.big [.bool,.int .i64] .i64 232] } [{ res:=.str,h:=[.big [.bool,.int .i64] .i64 232] }] qF9):=
 qjo (yR func288 (by kernel_rfl) (by kernel_rfl)) rfl fun B X ps j qs vargs hs hgl hh ha hk hT=>by
  obtain⟨b,n,r,rfl⟩:=qHO hk;simp only[qF9] at hT;split at hT
  ·rename_i hc;cases hT;unfold qxy at hc;simp only[qOd,decide_eq_true_eq,qOy,qOV] at hc;obtain⟨⟨c1,c2⟩,c3⟩:=hc;obtain⟨m,rfl⟩:∃m:Nat,n=(m:Int):=⟨n.toNat,by omega⟩;have hb0:X.h[0]?=some (.big [.bool b,.int .i64 (m:Int)] .i64 232 r):=by rw[hh];rfl
   obtain⟨n0,c,T,vs,hσ,hheap,hrep,hcl,hrl⟩:=hs.blk 0 _ hb0;have hvs:vs=[.bool b,.int .i64 (m:Int)]:=by
    cases hrep with
    | cons h t=>cases h;rw[qDj t]
   subst hvs;have hva:vargs=[.pointer (some ⟨n0,0,none⟩)]:=by
    cases ha with
    | cons h t=>
     cases t;cases h with
     | ptr _ _ n1 hb hσ2=>
      have:n1=n0:=qOE (hσ2.symm.trans hσ);rw[this]
   subst hva;have hlt:n0<X.w.heap.size:=(qO4.1 hheap).1;have hcell:∀o,X.w.cell? ⟨n0,o,none⟩=c[o]?:=fun o=>by unfold World.cell?;simp only[hheap];rfl
   have g0:X.w.cell? ⟨n0,0,none⟩=some (.bool b):=by rw[hcell,<-qQ5,hcl];rfl
   have g1:X.w.cell? ⟨n0,1,none⟩=some (.int .i64 (m:Int)):=by rw[hcell,<-qQ5,hcl];rfl
   have gw:∀i,i<232->X.w.cell? ⟨n0,2+i,none⟩=some (.int .i64 (cI r (i:Int) 0)):=fun i hi=>by rw[hcell];exact qxj (vs:=[.bool b,.int .i64 (m:Int)]) hcl (by omega)
   refine⟨rfl,rfl,rfl,?_⟩;have hT:=qrp (k:=.u64) (zs:=Lib.pow10Tab) (show prog.globalNamed "internal/strconv.uint64pow10" = some 2 by kernel_rfl) (by decide) (hgl _ hg).2;refine(qIA n0 b m (fun i=>cI r (i:Int) 0) X.w hlt g0 g1 gw (by omega) (fun i hi=>c3 i (by omega)) hT).mono fun e w' ⟨k1,k2⟩=>⟨_,k1,k2,?_⟩;rw[<-qIl];exact .str _
  ·cases hT
end Go.Eng

namespace Go.Eng
open Go.Shelf Go.RowKit Go.Lib Go.Proofs
def qDg:FIn:=⟨[(.imm [(.int .i64)])],[]⟩
def qzv(e:TypeId):List FOut:=[⟨(.vec 0),[.vec e [(.int .i64)]],none⟩]
def qF0:List PV->TR
 | [.r x]=>.br (ile (qg x) 17592186044416) (.leaf (0,[.r x])) .fail
 | _=>.fail
theorem qEe{args:List AV}{h:List Blk}{ps:List PV}(hp:qDg.take args h=some ps):∃l,(args=[.imm [.int .i64] l]\/(args=[.nils]/\l=[]))/\h=[]/\ps=[.r l]:=by
 unfold FIn.take qDg at hp;obtain⟨x,y,g1,g2,rfl⟩:=q08 hp;have hh:h=[]/\y=[]:=by
  cases h with
  | nil=>simp only[BP.takeL] at g2;cases g2;exact⟨rfl,rfl⟩
  | cons b t=>simp only[BP.takeL] at g2;cases g2
 obtain⟨rfl,rfl⟩:=hh;cases args with
 | nil=>simp only[AP.takeL] at g1;cases g1
 | cons a t=>
  simp only[AP.takeL] at g1;obtain⟨x1,x2,q1,q2,rfl⟩:=q08 g1;cases t with
  | cons b t=>simp only[AP.takeL] at q2;cases q2
  | nil=>
   simp only[AP.takeL] at q2;cases q2;cases a with
   | imm sh l=>
    simp only[AP.take] at q1;split at q1
    ·rename_i he;cases q1;obtain rfl:=Sh.beqL_eq _ _ he;exact⟨l,.inl rfl,rfl,rfl⟩
    ·cases q1
   | nils=>
    simp only[AP.take] at q1;cases q1;exact⟨[],.inr ⟨rfl,rfl⟩,rfl,rfl⟩
   | _=>exact absurd q1 (by simp[AP.take])
theorem qvN(e:TypeId){T:List PV->TR}{x y:R}(h:(T [.r x]).run=some (0,[.r y])){r:AV×List Blk}:(qHl (T [.r x]) (qzv e) 0).run=some r↔r=(.vec 0,[.vec e [.int .i64] y]):=by
 have h1:(qHl (T [.r x]) (qzv e) 0).run=some ((.vec 0,[.vec e [.int .i64] (gR (T [.r x]) 0)]):AV×List Blk):=rfl;have h2:gR (T [.r x]) 0=y:=by unfold gR pR;rw[h];rfl
 rw[h1,h2];constructor
 ·intro q;cases q;rfl
 ·intro q;rw[q]
theorem qEB{P:Program}{ρ:Ren}(L:SlLaysN.n41 P ρ){gl:List (Nat×AV)}{T:List PV->TR}(h0:qP P gl (ρ.f 41) (q8 qDg (qzv (ρ.t 23)) T))(hT:∀x,0<qg x->qg x<=17592186044416->(T [.r x]).run=some (0,[.r x])):qP P gl (ρ.f 41) (q8 qDg (qzv (ρ.t 23)) qF0):=by
 refine⟨h0.1,fun B X args vargs r hs hen hgl ha hr=>?_⟩;obtain⟨ps,j,qs,h1,h2,h3⟩:=qmG hr;obtain⟨l,hargs,hX,rfl⟩:=qEe h1;have h2':Tree.run (Tree.br (ile (qg l) 17592186044416) (.leaf ((0,[PV.r l]):Nat×List PV)) .fail)=some (j,qs):=h2;have g1:ile (qg l) 17592186044416=true:=by
  cases hb:ile (qg l) 17592186044416 with
  | true=>rfl
  | false=>rw[hb] at h2';cases h2'
 have hle:qg l<=17592186044416:=of_decide_eq_true g1;have hrr:=(qvN (ρ.t 23) (T:=qF0) (x:=l) (y:=l) (by show Tree.run (.br (ile (qg l) 17592186044416) (.leaf (0,[PV.r l])) .fail)=_;rw[show ile (qg l) 17592186044416=true from g1];rfl)).1 h3;by_cases hpos:0<qg l
 ·refine h0.2 B X _ vargs r hs hen hgl ha ?_;have hrun:=hT l hpos hle;have hok:okR (T [.r l])=true:=by unfold okR;rw[hrun];rfl
  unfold q8;rw[h1];show Tree.run (.br (okR (T [.r l])) (qHl (T [.r l]) (qzv (ρ.t 23)) 0) .fail)=_;rw[hok];exact(qvN (ρ.t 23) hrun).2 hrr
 ·have hl:l=[]:=qPu (by unfold qg at hpos;omega);subst hl;subst hrr;have hv:∃v,vargs=[v]/\qfe X.w X.M [.int .i64] [] v:=by
   rcases hargs with rfl|⟨rfl,_⟩
   ·cases ha with
    | cons hv ht=>
     cases ht;cases hv with
     | imm _ _ v himm=>exact⟨_,rfl,himm⟩
   ·cases ha with
    | cons hv ht=>
     cases ht;cases hv;exact⟨_,rfl,.inl ⟨rfl,rfl⟩⟩
  obtain⟨v,rfl,himm⟩:=hv
  ·rcases himm with⟨rfl,_⟩|⟨a,cap,rfl,_⟩
   ·refine(AnyG.slices_Clone_int_nil L 0 0 X.w).mono fun x w' ⟨e1,e2⟩=>?_;subst e2;have hpw:=PushW.same X;refine⟨.slice none 0 0,X.pushW (.vec (ρ.t 23) [.int .i64] []) none X.w,e1,rfl,?_,by show X.h++_=_;rw[hX];rfl,hs.push hpw (.inl ⟨by simp[Ctx.pushW],rfl⟩),rfl⟩;have e0:(0:Nat)=X.h.length:=by rw[hX];rfl
    show Rep _ (.vec 0) _;rw[e0];exact .vec _ _ _ _ (by simp[Ctx.pushW]) fun sh' m' _=>by unfold qyG;simp[Ctx.pushW,hX]
   ·refine(AnyG.slices_Clone_int_zero L a cap X.w).mono fun x w' ⟨v,e1,e2,e3,e4⟩=>?_;rcases e2.2 with⟨q,_⟩|⟨g,c2,cur,q1,q2,q3,q4,q5,q6,q7⟩
    ·exact absurd q e3
    ·have hpw:PushW X (some g) w':=⟨fun m hm=>e4.block m hm,e4.size,e4.os,e4.tape,e4.output,fun m h=>by cases h;exact q2⟩;have hk:jf (X.pushW (.vec (ρ.t 23) [.int .i64] []) (some g) w') X.h.length (.vec (ρ.t 23) [.int .i64] []):=
      .inr ⟨g,cur,by simp[Ctx.pushW],q3,fun r j hj hr=>absurd hr (qPO r)⟩
     refine⟨v,X.pushW (.vec (ρ.t 23) [.int .i64] []) (some g) w',e1,rfl,?_,by show X.h++_=_;rw[hX];rfl,hs.push hpw hk,rfl⟩;have e0:(0:Nat)=X.h.length:=by rw[hX];rfl
     show Rep _ (.vec 0) _;rw[e0,q1];exact qrj (l:=[]) (qPl _) q5 q3 (by rw[q6];rfl)
theorem qJy{T:List PV->TR}(h:∀x:R,T [.r x]=.br (ilt 0 (qg x)) (.br (ile ((qg [])+(qg x)) 17592186044416) (.leaf (0,[(.r (zD [] x))])) .fail) .fail)(x:R)(h1:0<qg x)(h2:qg x<=17592186044416) :(T [.r x]).run=some (0,[.r x]):=by have e1:ilt 0 (qg x)=true:=decide_eq_true h1;have e2:ile ((qg [])+(qg x)) 17592186044416=true:=decide_eq_true (by have:qg ([]:R)=0:=rfl;rw[this,Int.zero_add];exact h2);rw[h,e1,e2];rfl
end Go.Eng

namespace Go.Eng
mutual
def qlm{H:Type}:DataW H->List U
 | .lit (.bool b)=>[.b b]
 | .lit (.int _ n)=>[.i n]
 | .lit (.string s)=>[.s s]
 | .nil=>[.l []]
 | .slice es _=>[.l (qyM es)]
 | .agg ps=>qER ps
 | _=>[.i 0]
def qER{H:Type}:List (DataW H)->List U
 | []=>[]
 | d::l=>qlm d++qER l
def qyM{H:Type}:List (DataW H)->List (List U)
 | []=>[]
 | d::l=>qlm d::qyM l
end
theorem qnw{H:Type}:∀l:List (DataW H),qyM l=l.map qlm
 | []=>rfl
 | d::l=>by simp[qyM,qnw l]
inductive UFit:Sh->U->Prop
 | int (k:IntKind) (n:Int) (h0:k.min<=n) (h1:n<=k.max):UFit (.int k) (.i n)
 | bool (b:Bool):UFit .bool (.b b)
 | str (s:qNX) (h:s.length<=maxLen):UFit .str (.s s)
 | sl (row:List Sh) (l:R) (h:l.length<=maxLen) (hl:∀r,r∈l->r.length=row.length) (hf:∀(r:List U) (j:Nat) (s:Sh) (u:U),r∈l->row[j]?=some s->r[j]?=some u->UFit s u):UFit (.sl row) (.l l)
inductive CR (W:World) (M:Nat->Prop):List Sh->List U->List Value->Prop
 | nil:CR W M [] [] []
 | cons {s:Sh} {u:U} {v:Value} {sh:List Sh} {us:List U} {vs:List Value} (h:RepU W M s u v) (f:UFit s u) (t:CR W M sh us vs):CR W M (s::sh) (u::us) (v::vs)
theorem CR.append{W:World}{M:Nat->Prop}{a a':List Sh}{b b':List U}{c c':List Value}(h:CR W M a b c)(k:CR W M a' b' c'):CR W M (a++a') (b++b') (c++c'):=by
 induction h with
 | nil=>exact k
 | cons h f t ih=>exact .cons h f ih
theorem CR.len{W:World}{M:Nat->Prop}{a:List Sh}{b:List U}{c:List Value}(h:CR W M a b c):b.length=a.length/\c.length=a.length:=by
 induction h with
 | nil=>exact⟨rfl,rfl⟩
 | cons h f t ih=>simp[ih.1,ih.2]
theorem CR.get{W:World}{M:Nat->Prop}{a:List Sh}{b:List U}{c:List Value}(h:CR W M a b c):∀(j:Nat) (s:Sh),a[j]?=some s->∃u v,b[j]?=some u/\c[j]?=some v/\RepU W M s u v/\UFit s u:=by
 induction h with
 | nil=>intro j s hj;simp at hj
 | cons h f t ih=>
  intro j s hj;cases j with
  | zero=>simp at hj;subst hj;exact⟨_,_,rfl,rfl,h,f⟩
  | succ j=>simpa using ih j s (by simpa using hj)
def Sh.good:Sh->Bool
 | .sl row=>!row.isEmpty
 | _=>true
def qwz:Nat->List (Nat×TypeId×Nat)->Bool
 | _,[]=>true
 | o,f::l=>Nat.beq f.1 o&&qwz (o+f.2.2) l
def qEQ:List (Nat×TypeId×Nat)->Nat
 | []=>0
 | f::l=>f.2.2+qEQ l
def qyj(x:TI):Bool:=match x.d with
 | .struct fs=>qwz 0 fs&&Nat.beq (qEQ fs) x.size
 | .array n _ es=>Nat.beq (n*es) x.size
 | .slice _ es=>Nat.blt 0 es
 | _=>true
theorem qIg{E:Env}(h:E.tt.all (fun x=>qyj x.2)=true)(t:TypeId):qyj (E.ty t)=true:=by
 unfold Env.ty;cases hf:E.tt.find? fun x=>x.1==t with
 | none=>rfl
 | some x=>exact qOy.1 h x (qOU hf)
section
variable {H:Type} {enc:TypeId×Value->H} {P:Program} {W:World} {base:Nat} {sp:Nat->Bool} {held:Bool} {E:Env}
theorem qwd{M:Nat->Prop}{fuel n:Nat}{cs:List Value}(ih:∀t cs d ps sh,E.shape n t=some sh->DataW.trod enc P W base sp held fuel t cs=some (d,ps)->CR W M sh (qlm d) cs) :
  ∀(fs:List (Nat×TypeId×Nat)) (o:Nat) (xs:List (DataW H×List MemPlace)) (shs:List (List Sh)),qwz o fs=true->o+qEQ fs=cs.length->fs.mapM (fun f=>E.shape n f.2.1)=some shs ->
   xs.length=fs.length->(∀(i:Nat) (f:Nat×TypeId×Nat),fs[i]?=some f->DataW.trod enc P W base sp held fuel f.2.1 ((cs.drop f.1).take f.2.2)=xs[i]?) ->
   CR W M shs.flatten (qER (xs.map (·.1))) (cs.drop o)
 | [],o,xs,shs,_,hs,hsh,hl,_=>by
  simp[qEQ] at hs hsh hl;subst hsh hl;have:cs.drop o=[]:=qPD (by omega);rw[this];exact .nil
 | f::fs,o,xs,shs,hlay,hs,hsh,hl,hx=>by
  simp only[qwz,qOd] at hlay;obtain⟨h1,h2⟩:=hlay;have ho:f.1=o:=qP0 h1;simp only[qEQ] at hs;rw[List.mapM_cons] at hsh;cases hsf:E.shape n f.2.1 with
  | none=>rw[hsf] at hsh;cases hsh
  | some shf=>
   cases hrest:fs.mapM (fun f=>E.shape n f.2.1) with
   | none=>rw[hsf,hrest] at hsh;cases hsh
   | some shr=>
    rw[hsf,hrest] at hsh;cases hsh;cases xs with
    | nil=>simp at hl
    | cons x xs=>
     have h0:=hx 0 f rfl;simp only[qPf] at h0;have c1:=ih f.2.1 _ x.1 x.2 shf hsf h0;rw[ho] at c1;have c2:=qwd (cs:=cs) (M:=M) (fuel:=fuel) ih fs (o+f.2.2) xs shr h2 (by omega) hrest (by simpa using hl) fun i g hg=>by have:=hx (i+1) g (by simpa using hg);simpa using this
     have hsplit:cs.drop o=(cs.drop o).take f.2.2++cs.drop (o+f.2.2):=by rw[<-List.drop_drop,qQa]
     rw[hsplit];simp only[qQ8,qP5,qER];exact c1.append c2
theorem qAB{M:Nat->Prop}{fuel n es:Nat}{e:TypeId}{cs:List Value}{she:List Sh}(he:E.shape n e=some she)
  (ih:∀t cs d ps sh,E.shape n t=some sh->DataW.trod enc P W base sp held fuel t cs=some (d,ps)->CR W M sh (qlm d) cs) :
  ∀(m o:Nat) (xs:List (DataW H×List MemPlace)),(o+m)*es=cs.length->xs.length=m->(∀i,i<m->DataW.trod enc P W base sp held fuel e ((cs.drop ((o+i)*es)).take es)=xs[i]?) ->
   CR W M (List.replicate m she).flatten (qER (xs.map (·.1))) (cs.drop (o*es))
 | 0,o,xs,hs,hl,_=>by
  simp at hl hs;subst hl;have:cs.drop (o*es)=[]:=qPD (by omega);rw[this];exact .nil
 | m+1,o,xs,hs,hl,hx=>by
  cases xs with
  | nil=>simp at hl
  | cons x xs=>
   have h0:=hx 0 (by omega);simp only[qPf,qOQ] at h0;have c1:=ih e _ x.1 x.2 she he h0;have c2:=qAB (cs:=cs) he ih m (o+1) xs (by rw[<-hs];congr 1;omega) (by simpa using hl) fun i hi=>by have:=hx (i+1) (by omega);rw[show o+(i+1)=o+1+i by omega] at this;simpa using this
   have hsplit:cs.drop (o*es)=(cs.drop (o*es)).take es++cs.drop ((o+1)*es):=by rw[qOf,qPz,<-List.drop_drop,qQa]
   rw[hsplit];simp only[qPn,qQ8,qP5,qER];exact c1.append c2
theorem qCB(hE:E.tok P)(hlay:E.tt.all (fun x=>qyj x.2)=true):∀(fuel n:Nat) (t:TypeId) (cs:List Value) (d:DataW H) (ps:List MemPlace) (sh:List Sh),E.shape n t=some sh ->DataW.trod enc P W base sp held fuel t cs=some (d,ps)->CR W (fun b=>b<W.heap.size) sh (qlm d) cs:=by
 intro fuel;induction fuel with
 | zero=>intro n t cs d ps sh _ h;simp[DataW.trod] at h
 | succ fuel ih=>
  intro n t cs d ps sh hsh h;cases n with
  | zero=>simp[Env.shape] at hsh
  | succ n=>
   simp only[Env.shape] at hsh;have hl:=qIg hlay t;unfold qyj at hl;cases hd:(E.ty t).d<;>rw[hd] at hsh hl<;>simp only at hsh hl<;>try (cases hsh)
   ·
    unfold DataW.trod at h;rw[qro hE hd] at h;split at h<;>simp_all;obtain⟨rfl,_⟩:=h;exact .cons (.bool (.b _)) (.bool _) .nil
   ·
    rename_i k;unfold DataW.trod at h;rw[qtD hE hd] at h;split at h<;>simp_all;obtain⟨⟨rfl,hw⟩,rfl,_⟩:=h;simp[Lit.wf] at hw;exact .cons (.int _ (.i _)) (.int _ _ hw.1 hw.2) .nil
   ·
    unfold DataW.trod at h;rw[qgn hE hd] at h;split at h<;>simp_all;rename_i s;obtain⟨hm,rfl,_⟩:=h;refine .cons ?_ (.str _ (by simpa using hm)) .nil;have:=RepU.str (w:=W) (M:=fun b=>b<W.heap.size) (.s s.data.toList);simpa[U.toS] using this
   ·
    rename_i e es;obtain⟨ht,rfl⟩:=q0S hE hd;cases he:E.shape n e with
    | none=>rw[he] at hsh;cases hsh
    | some she=>
     rw[he] at hsh;cases hsh;have hpos:0<P.cellsOf e:=by simpa[Nat.blt_eq] using hl
     rcases DataW.trod_slice ht h with⟨rfl,hx⟩|⟨a,len,cap,elems,rest,k,hk,rfl,hx,hb,hlc,hcm,hlen,hel,_,_⟩
     ·cases hx;exact .cons (.slnil _ _ rfl) (.sl _ _ (by simp[maxLen]) (fun r hr=>by cases hr) (fun r j s u hr=>by cases hr)) .nil
     ·cases hx;cases hk;have hrow:∀(i:Nat) (hi:i<len),∃cs',W.cells? base (a.add (i*P.cellsOf e)) (P.cellsOf e)=some cs'/\CR W (fun b=>b<W.heap.size) she (qlm (elems[i]'(by omega)).1) cs':=by intro i hi;have h0:=hel i hi;rw[qO5 (by omega)] at h0;obtain⟨cs',g1,g2⟩:=qPq.1 h0;exact⟨cs',g1,ih n e cs' _ _ she he g2⟩
      have hget:∀(r:Nat) (hr:r<len),(((elems.map (·.1)).map qlm).getD r []:List U)=qlm (elems[r]'(by omega)).1:=by intro r hr;simp[hlen,hr]
      have hcell:∀(r j:Nat) (s:Sh) (hr:r<len),she[j]?=some s->∃v,W.cell? ⟨a.block,a.off+r*she.length+j,none⟩=some v/\RepU W (fun b=>b<W.heap.size) s (zH (qyM (elems.map (·.1))) r j) v/\UFit s ((qlm (elems[r]'(by omega)).1).getD j (.i 0))/\a.spot=none/\a.block<W.heap.size:=by
       intro r j s hr hj;obtain⟨cs',g1,g2⟩:=hrow r hr;obtain⟨_,g4,g5⟩:=World.cells?_some g1;obtain⟨q1,q2⟩:=g2.len;obtain⟨u,v,e1,e2,e3,e4⟩:=g2.get j s hj;have hlen:she.length=P.cellsOf e:=by rw[<-q2,g4]
       have hjl:j<P.cellsOf e:=by rw[<-hlen];exact qo hj
       have hc:=(g5 j hjl).trans e2;have h00:=g5 0 hpos;obtain⟨cs0,z1,z2⟩:=hrow 0 (by omega);obtain⟨_,z4,z5⟩:=World.cells?_some z1;have hz:=z5 0 hpos;obtain⟨v0,hv0⟩:∃v0,cs0[0]?=some v0:=⟨cs0[0],qO5 (by omega)⟩;rw[hv0] at hz;simp only[Nat.zero_mul,Addr.add,if_true] at hz;have hspot:=World.cell?_spot hz;refine⟨v,?_,?_,?_,hspot,qP8 _ _ hz⟩
       ·rw[<-hc,Addr.add_of hspot,qOL,hlen]
       ·have:zH (qyM (elems.map (·.1))) r j=u:=by rw[qnw];unfold zH;rw[qO9,hget r hr];simp[e1]
        rw[this];exact e3
       ·simp[e1];exact e4
      have hrl:(qyM (elems.map (·.1))).length=len:=by rw[qnw];simp[hlen]
      have hsh0:0<len->0<she.length:=by intro hl0;obtain⟨cs',g1,g2⟩:=hrow 0 hl0;obtain⟨_,g4,_⟩:=World.cells?_some g1;rw[<-g2.len.2,g4];exact hpos
      refine .cons ?_ (.sl _ _ (by rw[hrl];omega) ?_ ?_) .nil
      ·have hR:=q9T (w:=W) (M:=fun b=>b<W.heap.size) (row:=she) (l:=qyM (elems.map (·.1))) (v:=.slice (some a) len cap) (.inr ⟨a,cap,by rw[hrl],fun h0=>by
        rw[hrl] at h0;obtain⟨_,_,_,_,h4,_⟩:=hcell 0 0 she[0] h0 (qO5 (hsh0 h0));exact h4,by rw[hrl];exact hlc,fun r j hj hr=>by
        rw[hrl] at hr;obtain⟨v,h1,h2,_,_,h5⟩:=hcell r j she[j] hr (qO5 hj);exact⟨h5,v,h1,h2⟩⟩)
       exact hR
      ·intro r hr;rw[qnw] at hr;obtain⟨i,hi⟩:=qQb hr;have hil:i<len:=by have:=qo hi;simpa[hlen] using this
       have:r=qlm (elems[i]'(by omega)).1:=by rw[<-hget i hil,qNZ,hi];rfl
       obtain⟨cs',g1,g2⟩:=hrow i hil;rw[this];exact g2.len.1
      ·intro r j s u hr hs hu;rw[qnw] at hr;obtain⟨i,hi⟩:=qQb hr;have hil:i<len:=by have:=qo hi;simpa[hlen] using this
       have:r=qlm (elems[i]'(by omega)).1:=by rw[<-hget i hil,qNZ,hi];rfl
       subst this;obtain⟨_,_,_,h3,_⟩:=hcell i j s hil hs;simpa[qNZ,hu] using h3
   ·
    rename_i m e es;obtain⟨ht,rfl⟩:=q7C hE hd;cases he:E.shape n e with
    | none=>rw[he] at hsh;cases hsh
    | some she=>
     rw[he] at hsh;cases hsh;obtain⟨xs,m0,hf,hx,hcl,hxl,hel⟩:=DataW.trod_array ht h;cases hf;cases hx;have hsz:m*P.cellsOf e=cs.length:=by rw[hcl];have h1:=qP0 hl;obtain⟨_,i,dd,h2,_,_,h4,_⟩:=kB hE (t:=t) (by rw[hd];rfl);rw[h1,h4];unfold Program.cellsOf;rw[h2];rfl
     have:=qAB (cs:=cs) he (fun t cs d ps sh h1 h2=>ih n t cs d ps sh h1 h2) m 0 xs (by simpa using hsz) hxl (fun i hi=>by simpa using hel i hi);simpa[qlm] using this
   ·
    rename_i fs;obtain⟨fields,ht,rfl⟩:=q8n hE hd;cases hm:(fields.toList.map fun f=>(f.offset,f.type,P.cellsOf f.type)).mapM fun f=>E.shape n f.2.1 with
    | none=>rw[hm] at hsh;cases hsh
    | some shs=>
     rw[hm] at hsh;cases hsh;obtain⟨xs,m0,hf,hx,hcl,hxl,hel⟩:=DataW.trod_struct ht h;cases hf;cases hx;simp only[qOd] at hl;have hsz:qEQ (fields.toList.map fun f=>(f.offset,f.type,P.cellsOf f.type))=cs.length:=by rw[hcl];have h1:=qP0 hl.2;obtain⟨_,i,dd,h2,_,_,h4,_⟩:=kB hE (t:=t) (by rw[hd];rfl);rw[h1,h4];unfold Program.cellsOf;rw[h2];rfl
     have:=qwd (cs:=cs) (fun t cs d ps sh h1 h2=>ih n t cs d ps sh h1 h2) _ 0 xs shs hl.1 (by simpa using hsz) hm (by simpa using hxl) (fun i f hf=>by
      rw[qO8] at hf;cases hfi:fields.toList[i]? with
      | none=>rw[hfi] at hf;cases hf
      | some g=>
       rw[hfi] at hf;cases hf;exact hel i g (by simpa using hfi))
     simpa[qlm] using this
end
end Go.Eng

namespace Go.Eng
open Go.RowKit
variable {sh:List Sh}
inductive UFits:List Sh->List U->Prop
 | nil:UFits [] []
 | cons {s:Sh} {u:U} {sh:List Sh} {us:List U} (h:UFit s u) (t:UFits sh us):UFits (s::sh) (u::us)
theorem CR.fits {W:World}{M:Nat->Prop}{a:List Sh}{b:List U}{c:List Value}(h:CR W M a b c):UFits a b:=by
 induction h with
 | nil=>exact .nil
 | cons h f t ih=>exact .cons f ih
def q9r:List Sh->List U->List AV
 | .int k::sh,u::us=>.int k u.toI::q9r sh us
 | .bool::sh,u::us=>.bool u.toB::q9r sh us
 | .str::sh,u::us=>.str u.toS::q9r sh us
 | .sl row::sh,u::us=>.imm row u.toR::q9r sh us
 | _,_=>[]
theorem qEl {X:Ctx}{us:List U}{vs:List Value}(h:CR X.w X.M sh us vs):RepL X (q9r sh us) vs:=by
 induction h with
 | nil=>exact .nil
 | cons h f t ih=>
  rename_i s u v sh us vs;cases s with
  | int k=>cases h;exact .cons (.int _ _) ih
  | bool=>cases h;exact .cons (.bool _) ih
  | str=>cases h;exact .cons (.str _) ih
  | sl row=>exact .cons (.imm _ _ _ (qmU h)) ih
def qo3(agg:Bool)(sh:List Sh)(us:List U):AV:=match agg with
 | true=>.agg (q9r sh us)
 | false=>(q9r sh us).headD .undef
section
variable {H:Type} {enc:TypeId×Value->H} {P:Program} {W:World} {base:Nat} {sp:Nat->Bool} {held:Bool} {E:Env}
theorem qi1 (hE:E.tok P)(hlay:E.tt.all (fun x=>qyj x.2)=true){X:Ctx}(hw:X.w=W)(hM:X.M=fun b=>b<W.heap.size){r:Reach}{b0 n:Nat}{t:TypeId}{v:Value}{d:DataW H}{ps:List MemPlace}(hsh:E.shape n t=some sh) (hv:Value.okWide P W r b0 t v) (hd:DataW.Trod enc P W base sp held t v d ps):UFits sh (qlm d)/\Rep X (qo3 (E.ty t).d.isAgg sh (qlm d)) v:=by
 obtain⟨fuel,hf⟩:=hd;have hc:=qCB hE hlay fuel n t _ d ps sh hsh hf;refine⟨hc.fits,?_⟩;have hr:RepL X (q9r sh (qlm d)) v.cells.toList:=qEl (by rw[hw,hM];exact hc);have hone:∀(_:(E.ty t).d.isAgg=false),v.cells=#[v]->Rep X (qo3 (E.ty t).d.isAgg sh (qlm d)) v:=by
  intro ha hcell;rw[ha];rw[hcell] at hr;simp only[qo3];generalize q9r sh (qlm d)=l at hr;cases hr with
  | cons h1 h2=>simpa using h1
 unfold Value.okWide at hv;cases n with
 | zero=>simp[Env.shape] at hsh
 | succ n=>
  simp only[Env.shape] at hsh;cases hd:(E.ty t).d<;>rw[hd] at hsh hone<;>simp only at hsh<;>try (cases hsh)
  ·rw[qro hE hd] at hv;refine hone rfl ?_;cases v<;>simp[Cell.okWide,qro hE hd,Cell.ok] at hv<;>rfl
  ·rw[qtD hE hd] at hv;refine hone rfl ?_;cases v<;>simp[Cell.okWide,qtD hE hd,Cell.ok] at hv<;>rfl
  ·rw[qgn hE hd] at hv;refine hone rfl ?_;cases v<;>simp[Cell.okWide,qgn hE hd,Cell.ok] at hv<;>rfl
  ·rw[(q0S hE hd).1] at hv;refine hone rfl ?_;cases v<;>simp[Cell.okWide,(q0S hE hd).1,Cell.ok] at hv<;>rfl
  ·rw[(q7C hE hd).1] at hv;obtain⟨cs,rfl,_,_⟩:=hv;simp only[TD.isAgg,qo3];exact .agg _ _ (by simpa[Value.cells] using hr)
  ·obtain⟨fields,ht,_⟩:=q8n hE hd;rw[ht] at hv;obtain⟨cs,rfl,_,_⟩:=hv;simp only[TD.isAgg,qo3];exact .agg _ _ (by simpa[Value.cells] using hr)
end
def qtQ(W:World):Ctx:={ σ:=fun _=>none,h:=[],w:=W,M:=fun b=>b<W.heap.size }
def qqH(W:World):Base:={ w0:=W,imps:=[],M0:=fun b=>b<W.heap.size,fs:=[] }
theorem qMF (W:World):HSim (qqH W) (qtQ W):=by
 have hno:∀b n,¬(qtQ W).own b n:=by intro b n ⟨h,_⟩;cases h
 refine⟨fun b k h=>?_,fun b b' n h=>absurd h (hno b n),fun b n h=>absurd h (hno b n),fun n h=>h,fun n h=>h,fun n h=>.inl h,rfl,rfl,rfl,qO0 _,fun _ _ _=>rfl,fun b h=>?_,fun b h=>?_,fun b n h=>absurd h (hno b n),fun p hp=>by cases hp⟩
 ·have:([]:List Blk)[b]?=some k:=h;simp at this
 ·exact absurd h (by simp[qqH])
 ·exact absurd h (by simp[qqH])
theorem qMz (W:World):Entry (qqH W) (qtQ W):=⟨rfl,rfl,fun _ h=>h⟩
theorem qs9 {P:Program}{gl:List (Nat×AV)}{f:FuncId}{G:za}(hG:qP P gl f G){W:World}(hgl:q3b gl (qtQ W)){args:List AV}{vargs:List Value}(ha:RepL (qtQ W) args vargs)(h:(G args []).run=some (.bool true,[])):Calls P f vargs.toArray W fun e W'=>e=.returned (.bool true)/\Below W.heap.size W W':=by refine(hG.2 (qqH W) (qtQ W) args vargs _ (qMF W) (qMz W) hgl ha h).mono fun e W' ⟨v,X',e1,e2,e3,e4,e5,_⟩=>?_;subst e2;refine⟨?_,e5.os,e5.tape,e5.output,e5.size,fun k hk=>e5.frame k hk (by simp[qqH])⟩;rw[e1];cases e3;rfl
theorem qof {i:FIn}{outs:List FOut}{T:List PV->TR}{args:List AV}{ps:List PV}(ho:outs=[{ res:=.bool,h:=[] }])(hi:i.take args []=some ps)(hT:(T ps).run=some (0,[.b true])) :(q8 i outs T args []).run=some (.bool true,[]):=by subst ho;unfold q8;rw[hi];simp only[Tree.run,okR,hT,qQc];simp only[qHl,FOut.kinds,AP.kinds,BP.kindsL,qOZ,qmq,gB,pR,hT,qPr,PV.toB,FOut.make,AP.make,BP.makeL,Tree.run]
theorem qB1 {P:Program}{W:World}{E:Env}(hE:E.tok P)(hlay:E.tt.all (fun x=>qyj x.2)=true){name:String}{g n:Nat}{t:TypeId}{d:DataW Unit}(hg:P.globalNamed name=some g) (hty:(P.globals[g]?).map (·.type)=some t) (hsh:E.shape n t=some sh) {ds:List (String×DataW Unit)} (h:laidMet P ds W) (hm:(name,d)∈ds) :qIV (qtQ W) (g,.eptr sh [qlm d] 0 0):=by
 obtain⟨ps,hl,_⟩:=h;have key:∀(ds:List (String×DataW Unit)) (ps:List MemPlace),DataW.LaidVars P W ds ps->(name,d)∈ds->∃cs fuel p,W.var? P name=some cs/\DataW.trod (fun _=>()) P W 0 (fun _=>true) false fuel t cs.toList=some (d,p):=by
  intro ds;induction ds with
  | nil=>intro ps _ h;cases h
  | cons x ds ih=>
   intro ps hl hm;obtain⟨nm,dd⟩:=x;obtain⟨g',t',cs,fuel,p,q,h1,h2,h3,h4,h5,_⟩:=hl;rcases qOj.1 hm with he|hm
   ·cases he;obtain rfl:=qOE (hg.symm.trans h1);obtain rfl:=qOE (hty.symm.trans h2);exact⟨cs,fuel,p,h3,h4⟩
   ·exact ih q h5 hm
 obtain⟨cs,fuel,p,h3,h4⟩:=key ds ps hl hm;have hc:=qCB hE hlay fuel n t _ d p sh hsh h4;have hheap:∃T fr,W.heap[g]?=some (.cells cs T fr):=by
  unfold World.var? at h3;rw[hg] at h3;simp only[qOp] at h3;split at h3
  ·rename_i cs' T fr he;cases h3;exact⟨T,fr,he⟩
  ·cases h3
 suffices hs:Rows (qtQ W).w (qtQ W).M sh [qlm d] ⟨g,0,none⟩ by
  refine⟨?_,?_,?_⟩
  ·have:=Rep.eptr (X:=qtQ W) sh [qlm d] 0 0 ⟨g,0,none⟩ rfl (qOF _) (by simp) hs;simpa using this
  ·obtain⟨T,fr,he⟩:=hheap;exact(qO4.1 he).1
  ·have:=World.var?_cell hg h3 sh.length;show W.cell? ⟨g,sh.length*1,none⟩=none;rw[qPC,this,Array.getElem?_eq_none];rw[<-Array.length_toList,hc.len.2];exact qO0 _
 intro r j hj hr;have hr0:r=0:=by simpa using hr
 subst hr0;obtain⟨u,v,e1,e2,e3,_⟩:=hc.get j sh[j] (qO5 hj);have hcell:W.cell? ⟨g,j,none⟩=some v:=by have:=World.var?_cell hg h3 j;rw[this];simpa using e2
 refine⟨qP8 W ⟨g,j,none⟩ hcell,v,?_,?_⟩
 ·rw[Nat.zero_mul,qOQ,qOS];exact hcell
 have:zH [qlm d] (0:Nat) j=u:=by simp[zH,e1]
 rw[this];exact e3
theorem UFits.int {k:IntKind}{us:List U}(h:UFits (.int k::sh) us):∃n us',us=.i n::us'/\k.min<=n/\n<=k.max/\UFits sh us':=by
 cases h with
 | cons h t=>cases h with
  | int k n h0 h1=>exact⟨n,_,rfl,h0,h1,t⟩
theorem UFits.bool {us:List U}(h:UFits (.bool::sh) us):∃b us',us=.b b::us'/\UFits sh us':=by
 cases h with
 | cons h t=>cases h with
  | bool b=>exact⟨b,_,rfl,t⟩
theorem UFits.str {us:List U}(h:UFits (.str::sh) us):∃s us',us=.s s::us'/\s.length<=maxLen/\UFits sh us':=by
 cases h with
 | cons h t=>cases h with
  | str s h0=>exact⟨s,_,rfl,h0,t⟩
theorem UFits.sl {row sh:List Sh}{us:List U}(h:UFits (.sl row::sh) us):∃l us',us=.l l::us'/\UFit (.sl row) (.l l)/\UFits sh us':=by
 cases h with
 | cons h t=>
  rename_i u us;cases u with
  | l x=>exact⟨x,_,rfl,h,t⟩
  | _=>cases h
theorem UFits.none {us:List U}(h:UFits [] us):us=[]:=by cases h;rfl
end Go.Eng

namespace Go.Eng
abbrev Bs:=List UInt8
abbrev Op2:=Bs->Bs->Option Bs
def opF(T:List PV->TR):Op2:=fun a b=>match (T [.s a,.s b]).run with
 | some (0,[.s r,.i e])=>if e=0 then some r else none
 | _=>none
theorem qIs{T:List PV->TR}{a b r:Bs}(h:opF T a b=some r):(T [.s a,.s b]).run=some (0,[.s r,.i 0]):=by
 unfold opF at h;split at h
 ·rename_i r' e heq;split at h
  ·rename_i he;cases h;subst he;exact heq
  ·cases h
 ·cases h
abbrev Mx:=List (List Bs)
def q7t(Z:Mx)(i c:Nat):Bs:=(Z.getD i []).getD c []
def qEH(Z:Mx)(i c:Nat)(v:Bs):Mx:=Z.set i ((Z.getD i []).set c v)
def qbs(Z:Mx)(i j:Nat):Mx:=(Z.set i (Z.getD j [])).set j (Z.getD i [])
structure Dim (Z:Mx) (N C:Nat):Prop where
 n:Z.length=N
 c:∀r,r∈Z->r.length=C
theorem Dim.row{Z:Mx}{N C i:Nat}(h:Dim Z N C)(hi:i<N):(Z.getD i []).length=C:=by rw[qNZ,qO5 (by rw[h.n];exact hi)];exact h.c _ (qOI _)
theorem Dim.set{Z:Mx}{N C:Nat}(h:Dim Z N C){i c:Nat}(hi:i<N)(v:Bs):Dim (qEH Z i c v) N C:=by
 refine⟨by unfold qEH;rw[qPb,h.n],fun r hr=>?_⟩;rcases qQe hr with hr|rfl
 ·exact h.c r hr
 ·rw[qPb,h.row hi]
theorem Dim.swap{Z:Mx}{N C:Nat}(h:Dim Z N C){i j:Nat}(hi:i<N)(hj:j<N):Dim (qbs Z i j) N C:=by
 refine⟨by unfold qbs;rw[qPb,qPb,h.n],fun r hr=>?_⟩;rcases qQe hr with hr|rfl
 ·rcases qQe hr with hr|rfl
  ·exact h.c r hr
  ·exact h.row hj
 ·exact h.row hi
def quD(dv:Op2)(p:Nat)(f:Bs)(C:Nat):Nat->Mx->Option Mx
 | 0,Z=>some Z
 | g+1,Z=>(dv (q7t Z p (C-(g+1))) f).bind fun v=>quD dv p f C g (qEH Z p (C-(g+1)) v)
def qeT(ml sb:Op2)(i p:Nat)(t:Bs)(C:Nat):Nat->Mx->Option Mx
 | 0,Z=>some Z
 | g+1,Z=>(ml t (q7t Z p (C-(g+1)))).bind fun y=>(sb (q7t Z i (C-(g+1))) y).bind fun v=>qeT ml sb i p t C g (qEH Z i (C-(g+1)) v)
def qqI(ml sb:Op2)(p k N C:Nat):Nat->Mx->Option Mx
 | 0,Z=>some Z
 | g+1,Z=>if N-(g+1)=p\/q7t Z (N-(g+1)) k=[48] then qqI ml sb p k N C g Z
  else (qeT ml sb (N-(g+1)) p (q7t Z (N-(g+1)) k) C C Z).bind (qqI ml sb p k N C g)
def qeL(Z:Mx)(k N:Nat):Nat->Nat
 | 0=>N
 | g+1=>if q7t Z (N-(g+1)) k=[48] then qeL Z k N g else N-(g+1)
structure RS where
 Z:Mx
 det:Bs
 lead:List Nat
 p:Nat
def qlh(ml dv sb:Op2)(k N C:Nat)(s:RS):Option RS:=
 if qeL s.Z k N (N-s.p)=N then some s
 else (if qeL s.Z k N (N-s.p)=s.p then some s.det else sb [48] s.det).bind fun d=>
  (ml d (q7t (qbs s.Z (qeL s.Z k N (N-s.p)) s.p) s.p k)).bind fun d'=>
  (quD dv s.p (q7t (qbs s.Z (qeL s.Z k N (N-s.p)) s.p) s.p k) C C (qbs s.Z (qeL s.Z k N (N-s.p)) s.p)).bind fun Z'=>
  (qqI ml sb s.p k N C N Z').bind fun Z''=>some ⟨Z'',d',s.lead++[k],s.p+1⟩
def qyF(ml dv sb:Op2)(K N C:Nat):Nat->RS->Option RS
 | 0,s=>some s
 | g+1,s=>(qlh ml dv sb (K-(g+1)) N C s).bind (qyF ml dv sb K N C g)
theorem qEU(Z:Mx)(i:Nat):qbs Z i i=Z:=by
 unfold qbs;rw[List.set_set];by_cases h:i<Z.length
 ·rw[qNZ,qO5 h];exact List.set_getElem_self h
 ·exact List.set_eq_of_length_le (by omega)
theorem qFA{ml dv sb:Op2}{K N C k:Nat}{s fin:RS}(hk:k<K)(h:qyF ml dv sb K N C (K-k) s=some fin)(hf:qeL s.Z k N (N-s.p)=N):qyF ml dv sb K N C (K-(k+1)) s=some fin:=by rw[show K-k=(K-(k+1))+1 by omega] at h;unfold qyF at h;rw[show K-(K-(k+1)+1)=k by omega] at h;unfold qlh at h;rw[if_pos hf] at h;exact h
theorem qHV{ml dv sb:Op2}{K N C k i:Nat}{s fin:RS}(hk:k<K)(h:qyF ml dv sb K N C (K-k) s=some fin)(hf:qeL s.Z k N (N-s.p)=i)(hi:i<N) :∃d d' Z' Z'',(if i=s.p then some s.det else sb [48] s.det)=some d/\ml d (q7t (qbs s.Z i s.p) s.p k)=some d'/\quD dv s.p (q7t (qbs s.Z i s.p) s.p k) C C (qbs s.Z i s.p)=some Z' /\qqI ml sb s.p k N C N Z'=some Z''/\qyF ml dv sb K N C (K-(k+1)) ⟨Z'',d',s.lead++[k],s.p+1⟩=some fin:=by rw[show K-k=(K-(k+1))+1 by omega] at h;unfold qyF at h;rw[show K-(K-(k+1)+1)=k by omega] at h;unfold qlh at h;rw[hf,if_neg (by omega)] at h;obtain⟨s1,h1,h⟩:=qPq.1 h;obtain⟨d,e1,h1⟩:=qPq.1 h1;obtain⟨d',e2,h1⟩:=qPq.1 h1;obtain⟨Z',e3,h1⟩:=qPq.1 h1;obtain⟨Z'',e4,h1⟩:=qPq.1 h1;cases h1;exact⟨d,d',Z',Z'',e1,e2,e3,e4,h⟩
theorem qEa{dv:Op2}{p C n:Nat}{f:Bs}{Z Z':Mx}(hn:n<C)(h:quD dv p f C (C-n) Z=some Z'):∃v,dv (q7t Z p n) f=some v/\quD dv p f C (C-(n+1)) (qEH Z p n v)=some Z':=by rw[show C-n=(C-(n+1))+1 by omega] at h;unfold quD at h;rw[show C-(C-(n+1)+1)=n by omega] at h;exact qPq.1 h
theorem qzL{ml sb:Op2}{i p C n:Nat}{t:Bs}{Z Z':Mx}(hn:n<C)(h:qeT ml sb i p t C (C-n) Z=some Z') :∃y v,ml t (q7t Z p n)=some y/\sb (q7t Z i n) y=some v/\qeT ml sb i p t C (C-(n+1)) (qEH Z i n v)=some Z':=by rw[show C-n=(C-(n+1))+1 by omega] at h;unfold qeT at h;rw[show C-(C-(n+1)+1)=n by omega] at h;obtain⟨y,e1,h⟩:=qPq.1 h;obtain⟨v,e2,h⟩:=qPq.1 h;exact⟨y,v,e1,e2,h⟩
theorem qES{ml sb:Op2}{p k N C i:Nat}{Z Z':Mx}(hi:i<N)(h:qqI ml sb p k N C (N-i) Z=some Z') :((i=p\/q7t Z i k=[48])/\qqI ml sb p k N C (N-(i+1)) Z=some Z')\/(i≠p/\q7t Z i k≠[48]/\∃Z1,qeT ml sb i p (q7t Z i k) C C Z=some Z1/\qqI ml sb p k N C (N-(i+1)) Z1=some Z'):=by
 rw[show N-i=(N-(i+1))+1 by omega] at h;unfold qqI at h;rw[show N-(N-(i+1)+1)=i by omega] at h;split at h
 ·rename_i hc;exact .inl ⟨hc,h⟩
 ·rename_i hc;rw[not_or] at hc;obtain⟨Z1,e1,h⟩:=qPq.1 h;exact .inr ⟨hc.1,hc.2,Z1,e1,h⟩
theorem qw7{Z:Mx}{k N i:Nat}(hi:i<N):qeL Z k N (N-i)=if q7t Z i k=[48] then qeL Z k N (N-(i+1)) else i:=by rw[show N-i=(N-(i+1))+1 by omega];show (if q7t Z (N-(N-(i+1)+1)) k=[48] then qeL Z k N (N-(i+1)) else N-(N-(i+1)+1))=_;rw[show N-(N-(i+1)+1)=i by omega]
open Go.RowKit
variable {e:TypeId}{v:Value}{w:World}{w':World}
def kD(b:Bs):Value:=.string ⟨b.toArray⟩
def qnZ(n:Nat):Value:=.int .i64 (n:Int)
theorem q0p {w w':World}{B z n:Nat}{xs:List Value}(h:w.ownsRow B e z v n xs)(hb:Below w.heap.size w w'):w'.ownsRow B e z v n xs:=h.kept (row:=none) ⟨hb.os,hb.tape,hb.output,hb.size,fun k hk _=>hb.block k hk⟩ (by cases v.ownBlock<;>simp)
theorem qz {B z n:Nat}{xs:List Value}(h:w.ownsRow B e z v n xs){a:Addr}(ha:v.ownBlock≠some a.block)(u:Value):(w.setCell a u).ownsRow B e z v n xs:=h.kept (row:=some a.block) ⟨rfl,rfl,rfl,by simp[World.setCell],fun k _ hk=>heap_setCell_other w a k u (fun e=>hk (by rw[e]))⟩ (.inr ha)
theorem qeZ {B z n:Nat}{xs:List Value}(h:w.ownsRow B e z v n xs)(hn:0<n):∃g c,v=.slice (some ⟨g,0,none⟩) n c/\B<=g/\g<w.heap.size/\(∃cur,w.heap[g]?=some (.cells cur e (0,0))):=by
 rcases h.2 with⟨_,h0⟩|⟨g,c,cur,rfl,hb,hg,_⟩
 ·omega
 ·exact⟨g,c,rfl,hb,(qO4.1 hg).1,cur,hg⟩
theorem zd {B z n:Nat}{xs:List Value}(h:w.ownsRow B e z v n xs){b:Nat}(hv:v.ownBlock=some b):∃cur,w.heap[b]?=some (.cells cur e (0,0)):=by
 rcases h.2 with⟨rfl,_⟩|⟨g,c,cur,rfl,_,hg,_⟩
 ·simp[Value.ownBlock] at hv
 ·simp[Value.ownBlock] at hv;subst hv;exact⟨cur,hg⟩
theorem qbo {a b:Nat}{c c':Array Value}{e e':TypeId}{f f':Nat×Nat}(ha:w.heap[a]?=some (.cells c e f))(hb:w.heap[b]?=some (.cells c' e' f'))(h:e≠e'):a≠b:=by rintro rfl;rw[ha] at hb;cases hb;exact h rfl
structure Sch (B S:Nat) (tS tR tE tI:TypeId) (N C:Nat) (ek K:Value) (w:World) (vR vL:Value) (H:List Value) (Z:Mx) (det:Bs) (lead:List Nat):Prop where
 bs:B<=S
 st:w.heap[S]?=some (.cells #[ek,vR,K,vL,kD det] tS (0,0))
 dim:Dim Z N C
 outer:w.ownsRow B tR 1 vR N H
 inner:∀(j:Nat) h r,H[j]?=some h->Z[j]?=some r->w.ownsRow B tE 1 h C (r.map kD)
 own:w.ownsRow B tI 1 vL lead.length (lead.map qnZ)
 ap:∀(i j:Nat) h h' b,i≠j->H[i]?=some h->H[j]?=some h'->h.ownBlock=some b->h'.ownBlock≠some b
 ne:tS≠tR/\tS≠tE/\tS≠tI/\tR≠tE/\tR≠tI/\tE≠tI
section
variable {B S:Nat} {tS tR tE tI:TypeId} {N C:Nat} {ek K:Value} {w:World} {vR vL:Value} {H:List Value} {Z:Mx} {det:Bs} {lead:List Nat}
theorem Sch.hlen (h:Sch B S tS tR tE tI N C ek K w vR vL H Z det lead):H.length=N:=by have:=h.outer.1;omega
theorem Sch.hrow (h:Sch B S tS tR tE tI N C ek K w vR vL H Z det lead){j:Nat}(hj:j<N):∃hd r,H[j]?=some hd/\Z[j]?=some r/\w.ownsRow B tE 1 hd C (r.map kD):=by
 have h1:j<H.length:=by rw[h.hlen];exact hj
 have h2:j<Z.length:=by rw[h.dim.n];exact hj
 exact⟨H[j],Z[j],qO5 h1,qO5 h2,h.inner j _ _ (qO5 h1) (qO5 h2)⟩
theorem Sch.grow (h:Sch B S tS tR tE tI N C ek K w vR vL H Z det lead)(hb:Below w.heap.size w w'):Sch B S tS tR tE tI N C ek K w' vR vL H Z det lead:=⟨h.bs,by rw[hb.block S (qO4.1 h.st).1];exact h.st,h.dim,q0p h.outer hb,fun j a r e1 e2=>q0p (h.inner j a r e1 e2) hb,q0p h.own hb,h.ap,h.ne⟩
theorem Sch.cell (h:Sch B S tS tR tE tI N C ek K w vR vL H Z det lead):w.cell? ⟨S,0,none⟩=some ek/\w.cell? ⟨S,1,none⟩=some vR/\w.cell? ⟨S,2,none⟩=some K/\w.cell? ⟨S,3,none⟩=some vL/\w.cell? ⟨S,4,none⟩=some (kD det):=by refine⟨?_,?_,?_,?_,?_⟩<;>rw[cell_of_row w S _ _ tS (0,0) h.st]<;>rfl
theorem Sch.free (h:Sch B S tS tR tE tI N C ek K w vR vL H Z det lead)(o:Nat):w.frozen? ⟨S,o,none⟩=false:=frozen_of_row w S o _ tS h.st
theorem Sch.lt (h:Sch B S tS tR tE tI N C ek K w vR vL H Z det lead):S<w.heap.size:=(qO4.1 h.st).1
theorem Sch.setS (h:Sch B S tS tR tE tI N C ek K w vR vL H Z det lead)(o:Nat)(u:Value){det':Bs}(hu:(#[ek,vR,K,vL,kD det].setIfInBounds o u)=#[ek,vR,K,vL,kD det']) :Sch B S tS tR tE tI N C ek K (w.setCell ⟨S,o,none⟩ u) vR vL H Z det' lead:=by
 have hn:∀{e:TypeId} {n:Nat} {v:Value} {xs:List Value},tS≠e->w.ownsRow B e 1 v n xs->v.ownBlock≠some S:=fun hne hr hv=>by obtain⟨cur,hc⟩:=zd hr hv;exact qbo h.st hc hne rfl
 exact⟨h.bs,by rw[heap_setCell_same w S o _ tS u h.st,hu],h.dim,qz h.outer (hn h.ne.1 h.outer) u,fun j a r e1 e2=>qz (h.inner j a r e1 e2) (hn h.ne.2.1 (h.inner j a r e1 e2)) u,
  qz h.own (hn h.ne.2.2.1 h.own) u,h.ap,h.ne⟩
theorem Sch.setDet (h:Sch B S tS tR tE tI N C ek K w vR vL H Z det lead)(d:Bs):Sch B S tS tR tE tI N C ek K (w.setCell ⟨S,4,none⟩ (kD d)) vR vL H Z d lead:=h.setS 4 _ rfl
theorem Sch.head (h:Sch B S tS tR tE tI N C ek K w vR vL H Z det lead){j:Nat}(hj:j<N)(hC:0<C):∃g c,H[j]?=some (.slice (some ⟨g,0,none⟩) C c)/\B<=g/\g<w.heap.size /\(∀o,o<C->w.cell? ⟨g,o,none⟩=some (kD (q7t Z j o)))/\(∀o,w.frozen? ⟨g,o,none⟩=false)/\(∃cur,w.heap[g]?=some (.cells cur tE (0,0))):=by
 obtain⟨hd,r,e1,e2,ho⟩:=h.hrow hj;obtain⟨g,c,rfl,hb,hlt,hc⟩:=qeZ ho hC;refine⟨g,c,e1,hb,hlt,fun o hoC=>?_,fun o=>ho.frozenAt o,hc⟩;have hr:r.length=C:=by have:=ho.1;rw[qO7] at this;omega
 rw[ho.cellAt o (by omega),qO8,qO5 (by omega)];unfold q7t;rw[qNZ,qNZ,e2,qOW,qO5 (by omega)];rfl
theorem Sch.rows (h:Sch B S tS tR tE tI N C ek K w vR vL H Z det lead)(hN:0<N):∃g c,vR=.slice (some ⟨g,0,none⟩) N c/\B<=g/\g<w.heap.size /\(∀(j:Nat) v,H[j]?=some v->w.cell? ⟨g,j,none⟩=some v)/\(∀o,w.frozen? ⟨g,o,none⟩=false)/\(∃cur,w.heap[g]?=some (.cells cur tR (0,0))):=by have ho:=h.outer;obtain⟨g,c,rfl,hb,hlt,hc⟩:=qeZ ho hN;refine⟨g,c,rfl,hb,hlt,fun j v hv=>?_,fun o=>ho.frozenAt o,hc⟩;have hj:=(qPB.1 hv).1;rw[h.hlen] at hj;rw[ho.cellAt j (by omega)];exact hv
theorem Sch.put (h:Sch B S tS tR tE tI N C ek K w vR vL H Z det lead){j g c o:Nat}(hH:H[j]?=some (.slice (some ⟨g,0,none⟩) C c))(x:Bs) :Sch B S tS tR tE tI N C ek K (w.setCell ⟨g,o,none⟩ (kD x)) vR vL H (qEH Z j o x) det lead:=by
 have hj:j<N:=by have:=(qPB.1 hH).1;rw[h.hlen] at this;exact this
 obtain⟨hd,r,e1,e2,ho⟩:=h.hrow hj;rw[hH] at e1;cases e1;obtain⟨cur,hcur⟩:=zd ho rfl;have hz:Z.getD j []=r:=by rw[qNZ,e2];rfl
 refine⟨h.bs,?_,h.dim.set hj x,qz h.outer (fun hv=>?_) _,fun i a r' q1 q2=>?_,qz h.own (fun hv=>?_) _,h.ap,h.ne⟩
 ·rw[heap_setCell_other w ⟨g,o,none⟩ S _ (qbo h.st hcur h.ne.2.1)];exact h.st
 ·obtain⟨c2,hc2⟩:=zd h.outer hv;exact qbo hc2 hcur h.ne.2.2.2.1 rfl
 ·unfold qEH at q2;rw[hz] at q2;by_cases hij:i=j
  ·subst hij;rw[hH] at q1;cases q1;rw[qOc (by rw[h.dim.n];exact hj)] at q2;cases q2;have:=(ho.stored o (kD x)).1;rw[List.map_set];exact this
  ·rw[qO1 (fun e=>hij e.symm)] at q2;exact qz (h.inner i a r' q1 q2) (h.ap j i _ a g (fun e=>hij e.symm) hH q1 rfl) _
 ·obtain⟨c2,hc2⟩:=zd h.own hv;exact qbo hcur hc2 h.ne.2.2.2.2.2 rfl
theorem qFb {i j m m':Nat}(hij:i≠j)(h:m≠m'):(if m=i then j else if m=j then i else m)≠(if m'=i then j else if m'=j then i else m'):=by split<;>split<;>(try split)<;>(try split)<;>omega
theorem Sch.swap (h:Sch B S tS tR tE tI N C ek K w vR vL H Z det lead){i j:Nat}(hi:i<N)(hj:j<N)(hij:i≠j){g c:Nat}(hR:vR=.slice (some ⟨g,0,none⟩) N c){u v:Value}(hu:H[i]?=some u)(hv:H[j]?=some v) :Sch B S tS tR tE tI N C ek K ((w.setCell ⟨g,i,none⟩ v).setCell ⟨g,j,none⟩ u) vR vL ((H.set i v).set j u) (qbs Z i j) det lead:=by
 subst hR;obtain⟨cur,hcur⟩:=zd h.outer rfl;have o1:=(h.outer.stored i v).1;have o2:=(o1.stored j u).1;have hn:∀{e:TypeId} {n:Nat} {a:Value} {xs:List Value},tR≠e->w.ownsRow B e 1 a n xs->a.ownBlock≠some g:=fun hne hr hv=>by obtain⟨c2,hc2⟩:=zd hr hv;exact qbo hcur hc2 hne rfl
 have hSg:S≠g:=qbo h.st hcur h.ne.1;have hl:=h.hlen;have hzl:=h.dim.n;have z1:∀k,k<N->Z[k]?=some (Z.getD k []):=fun k hk=>by rw[qNZ,qO5 (by omega)];rfl
 have key:∀(m:Nat) a,((H.set i v).set j u)[m]?=some a->∃m',H[m']?=some a/\(qbs Z i j)[m]?=Z[m']?/\(m'=if m=i then j else if m=j then i else m):=by
  intro m a hm;unfold qbs;by_cases h1:m=j
  ·subst h1;rw[qOc (by rw[qPb];omega)] at hm;cases hm;refine⟨i,hu,?_,by rw[if_neg (fun e=>hij e.symm),if_pos rfl]⟩;rw[qOc (by rw[qPb];omega),z1 i hi]
  ·rw[qO1 (fun e=>h1 e.symm)] at hm;rw[qO1 (fun e=>h1 e.symm)];by_cases h2:m=i
   ·subst h2;rw[qOc (by omega)] at hm;cases hm;refine⟨j,hv,?_,by rw[if_pos rfl]⟩;rw[qOc (by omega),z1 j hj]
   ·rw[qO1 (fun e=>h2 e.symm)] at hm;rw[qO1 (fun e=>h2 e.symm)];exact⟨m,hm,rfl,by rw[if_neg h2,if_neg h1]⟩
 refine⟨h.bs,?_,h.dim.swap hi hj,o2,fun m a r q1 q2=>?_,qz (qz h.own (hn h.ne.2.2.2.2.1 h.own) _) (hn h.ne.2.2.2.2.1 h.own) _,fun m m' a a' b hmm q1 q2 q3=>?_,h.ne⟩
 ·rw[heap_setCell_other _ ⟨g,j,none⟩ S _ hSg,heap_setCell_other _ ⟨g,i,none⟩ S _ hSg];exact h.st
 ·obtain⟨m',k1,k2,_⟩:=key m a q1;rw[k2] at q2;have:=h.inner m' a r k1 q2;exact qz (qz this (hn h.ne.2.2.2.1 this) _) (hn h.ne.2.2.2.1 this) _
 ·obtain⟨x,k1,_,k3⟩:=key m a q1;obtain⟨y,l1,_,l3⟩:=key m' a' q2;refine h.ap x y a a' b ?_ k1 l1 q3;rw[k3,l3];exact qFb hij hmm
theorem Sch.setLead (h:Sch B S tS tR tE tI N C ek K w vR vL H Z det lead){vL':Value}{lead':List Nat}(hg:w.grownBy w' vL.ownBlock)(ho:w'.ownsRow B tI 1 vL' lead'.length (lead'.map qnZ)) :Sch B S tS tR tE tI N C ek K (w'.setCell ⟨S,3,none⟩ vL') vR vL' H Z det lead':=by
 have hb:∀b,(∃(cur:Array Value) (e:TypeId),w.heap[b]?=some (Obj.cells cur e (0,0))/\e≠tI)->w'.heap[b]?=w.heap[b]?:=fun b ⟨cur,e,hc,hne⟩=>hg.block b (qO4.1 hc).1 (fun hv=>by obtain⟨c2,hc2⟩:=zd h.own hv.symm;exact qbo hc hc2 hne rfl);have hS:w'.heap[S]?=some (.cells #[ek,vR,K,vL,kD det] tS (0,0)):=by rw[hb S ⟨_,_,h.st,h.ne.2.2.1⟩];exact h.st
 have keep:∀{e:TypeId} {n:Nat} {a:Value} {xs:List Value},e≠tI->tS≠e->w.ownsRow B e 1 a n xs->(w'.setCell ⟨S,3,none⟩ vL').ownsRow B e 1 a n xs:=by
  intro e n a xs hne hSe hr;have h1:w'.ownsRow B e 1 a n xs:=hr.kept hg (by
   cases hv:a.ownBlock with
   | none=>exact .inl rfl
   | some b=>
    right;intro he;obtain⟨c1,hc1⟩:=zd hr hv;obtain⟨c2,hc2⟩:=zd h.own he.symm;exact qbo hc1 hc2 hne rfl)
  refine qz h1 (fun hv=>?_) _;obtain⟨c1,hc1⟩:=zd h1 hv;exact qbo hS hc1 hSe rfl
 refine⟨h.bs,by rw[heap_setCell_same w' S 3 _ tS _ hS];rfl,h.dim,keep h.ne.2.2.2.2.1 h.ne.1 h.outer,fun j a r e1 e2=>keep h.ne.2.2.2.2.2 h.ne.2.1 (h.inner j a r e1 e2),qz ho (fun hv=>?_) _,h.ap,h.ne⟩;obtain⟨c1,hc1⟩:=zd ho hv;exact qbo hS hc1 h.ne.2.2.1 rfl
theorem Sch.reads {O cO:Nat}(h:Sch B S tS tR tE tI N C ek K w (.slice (some ⟨O,0,none⟩) N cO) vL H Z det lead){j g c:Nat}(hH:H[j]?=some (.slice (some ⟨g,0,none⟩) C c)) :w.cell? ⟨S,1,none⟩=some (.slice (some ⟨O,0,none⟩) N cO)/\w.cell? ⟨O,j,none⟩=some (.slice (some ⟨g,0,none⟩) C c)/\(∀o,o<C->w.cell? ⟨g,o,none⟩=some (kD (q7t Z j o)))/\(∀o,w.frozen? ⟨g,o,none⟩=false)/\(0<C->B<=g):=by
 have hj:j<N:=by have:=(qPB.1 hH).1;rw[h.hlen] at this;exact this
 obtain⟨O',c',e,_,_,r,_,_⟩:=h.rows (by omega);cases e;obtain⟨hd,rw_,e1,e2,ho⟩:=h.hrow hj;rw[hH] at e1;cases e1;refine⟨h.cell.2.1,r j _ hH,fun o hoC=>?_,fun o=>ho.frozenAt o,fun hC=>?_⟩
 ·obtain⟨g',c'',q1,_,_,q2,_⟩:=h.head hj (by omega);rw[hH] at q1;cases q1;exact q2 o hoC
 ·obtain⟨g',c'',q1,q2,_⟩:=h.head hj hC;rw[hH] at q1;cases q1;exact q2
theorem Sch.leadCell (h:Sch B S tS tR tE tI N C ek K w vR vL H Z det lead)(hg:w.grownBy w' vL.ownBlock):w'.cell? ⟨S,3,none⟩=some vL/\w'.frozen? ⟨S,3,none⟩=false:=by
 have hS:w'.heap[S]?=some (.cells #[ek,vR,K,vL,kD det] tS (0,0)):=by rw[hg.block S h.lt (fun hv=>by obtain⟨c2,hc2⟩:=zd h.own hv.symm;exact qbo h.st hc2 h.ne.2.2.1 rfl)];exact h.st
 exact⟨by rw[cell_of_row w' S 3 _ tS (0,0) hS];rfl,frozen_of_row w' S 3 _ tS hS⟩
end
end Go.Eng

namespace Go.Eng
open Go.RowKit
variable {B:Base}{P:Program}{X:Ctx}{f:FuncId}{gl:List (Nat×AV)}{w:World}
def qJ2(W:World)(y:Nat):Ctx:={ qtQ W with y:=y }
theorem qNj (W:World)(y:Nat):HSim (qqH W) (qJ2 W y):=
 have h:=qMF W
 ⟨fun b k hk=>by have:([]:List Blk)[b]?=some k:=hk;simp at this,fun b b' n ⟨_,k,hk,_⟩=>by have:([]:List Blk)[b]?=some k:=hk;simp at this,
  fun b n ⟨_,k,hk,_⟩=>by have:([]:List Blk)[b]?=some k:=hk;simp at this,h.ltM,h.M0,h.newM,rfl,rfl,rfl,h.size,h.frame,h.imps,h.impc,
  fun b n ⟨_,k,hk,_⟩=>by have:([]:List Blk)[b]?=some k:=hk;simp at this,fun p hp=>by cases hp⟩
theorem qMs (W:World)(y:Nat):Entry (qqH W) (qJ2 W y):=⟨rfl,rfl,fun _ h=>h⟩
theorem qLV (hs:HSim B X)(hX:X.h=[])(hb:Below X.w.heap.size X.w w):Move0 X (qJ2 w X.y) some:=⟨fun n hn=>qOG (hs.ltM n hn) hb.size,fun a ha=>qP2 (hb.block _ (hs.ltM _ ha)),fun b b' hb' _=>by rw[hX] at hb';exact absurd hb' (qPO _),rfl⟩
theorem qNI (hs:HSim B X)(hX:X.h=[])(hg:q3b gl X)(hb:Below X.w.heap.size X.w w):q3b gl (qJ2 w X.y):=fun x hx=>
 have m:=qLV hs hX hb
 ⟨(hg x hx).1,(hg x hx).2.move m.M m.w ((hg x hx).2.1.ext0 m)⟩
theorem qAZ {X':Ctx}(hs:HSim (qqH w) X'):Below w.heap.size w X'.w:=⟨hs.os,hs.tape,hs.output,hs.size,fun k hk=>hs.frame k hk (by simp[qqH])⟩
theorem qzj {G:za}(hG:qP P gl f G){y:Nat}(hgl:q3b gl (qJ2 w y)){args:List AV}{vargs:List Value}(ha:RepL (qJ2 w y) args vargs){r:AV×List Blk}(h:(G args []).run=some r):Calls P f vargs.toArray w fun e w'=>∃v X',e=.returned v/\X'.w=w'/\Rep X' r.1 v/\X'.h=r.2/\HSim (qqH w) X'/\Below w.heap.size w w':=
 (hG.2 (qqH w) (qJ2 w y) args vargs r (qNj w y) (qMs w y) hgl ha h).mono fun e w' ⟨v,X',e1,e2,e3,e4,e5,_⟩=>by subst e2;exact⟨v,X',e1,rfl,e3,e4,e5,qAZ e5⟩
theorem qGk {T:List PV->TR}{a b r:Bs}(h:opF T a b=some r):(q8 ⟨[.str,.str],[]⟩ [⟨.tuple [.str,.int .i64],[],none⟩] T [.str a,.str b] []).run=some (.tuple [.str r,.int .i64 0],[]):=by have hT:=qIs h;unfold q8;have ht:(FIn.mk [.str,.str] []).take [.str a,.str b] []=some [.s a,.s b]:=rfl;rw[ht];simp only[Tree.run,okR,hT,qQc];simp[qHl,FOut.kinds,AP.kinds,AP.kindsL,BP.kindsL,qmq,gS,gI,pR,hT,PV.toS,PV.toI,FOut.make,AP.make,AP.makeL,BP.makeL,Tree.run]
theorem qHs {T:List PV->TR}(hG:qP P gl f (q8 ⟨[.str,.str],[]⟩ [⟨.tuple [.str,.int .i64],[],none⟩] T)){y:Nat}(hgl:q3b gl (qJ2 w y)){a b r:Bs}(h:opF T a b=some r) :Calls P f #[kD a,kD b] w fun e w'=>e=.returned (.tuple #[kD r,.int .i64 0])/\Below w.heap.size w w':=by
 refine(qzj hG hgl (args:=[.str a,.str b]) (vargs:=[kD a,kD b]) (.cons (.str a) (.cons (.str b) .nil)) (qGk h)).mono ?_;rintro e w' ⟨v,X',rfl,rfl,hr,_,_,hb⟩;refine⟨?_,hb⟩;cases hr with
 | tuple _ vs h=>
  cases h with
  | cons h1 t=>
   cases h1;cases t with
   | cons h2 t2=>
    cases h2;cases t2;rfl
theorem HSim.growM (hs:HSim B X){w':World}(hb:Below X.w.heap.size X.w w'){M':Nat->Prop}(h1:∀n,X.M n->M' n)(h2:∀n,M' n->X.M n\/(X.w.heap.size<=n/\n<w'.heap.size)) :HSim B { X with w:=w',M:=M' }/\Ext X { X with w:=w',M:=M' }:=by
 have hold:∀n (o:Obj),X.w.heap[n]?=some o->w'.heap[n]?=some o:=fun n o h=>(hb.block n (qO4.1 h).1).trans h;have hx:Ext X { X with w:=w',M:=M' }:=Move.of (fun n h=>h1 n h) (fun a ha=>qP2 (hb.block _ (hs.ltM _ ha))) (fun b b' hb' h=>by cases h;exact⟨hb',rfl,fun _ _ h=>h,fun _ _ _ n _ c T fr h=>⟨c,T,fr,hold n _ h,rfl⟩⟩);refine⟨⟨fun b k hk=>?_,hs.inj,fun b n ho hm=>?_,fun n hn=>?_,fun n hn=>h1 n (hs.M0 n hn),fun n hn=>?_,hb.os.trans hs.os,hb.tape.trans hs.tape,hb.output.trans hs.output,qO2 hs.size hb.size,
  fun n hn hni=>?_,hs.imps,hs.impc,hs.fresh,fun p hp=>?_⟩,hx⟩
 ·by_cases hd:k=.dead
  ·subst hd;trivial
  ·exact jf.ext hx rfl (fun n hn=>hb.block n (hs.lt hk hd hn)) (hs.blk b k hk)
 ·have ho':X.own b n:=ho;rcases h2 n hm with h|h
  ·exact hs.notM b n ho' h
  ·have:=Ctx.own.lt hs ho';omega
 ·rcases h2 n hn with h|h
  ·exact qOG (hs.ltM n h) hb.size
  ·exact h.2
 ·rcases h2 n hn with h|h
  ·exact hs.newM n h
  ·exact .inr (qO2 hs.size h.1)
 ·show w'.heap[n]?=_;rw[hb.block n (qOG hn hs.size)];exact hs.frame n hn hni
 ·obtain⟨q1,q2,q3⟩:=hs.kept p hp;exact⟨hold _ _ q1,q2,q3⟩
theorem qFQ {ap:List AP}{o:FOut}{T:List PV->TR}(he:qbJ P f)(ho:o.h=[])(h:∀(B:Base) (X:Ctx) (ps:List PV) (j:Nat) (qs:List PV) (vargs:List Value),HSim B X->q3b gl X->X.h=[]->RepL X ((FIn.mk ap []).make ps).1 vargs->ps.map PV.kind=(FIn.mk ap []).kinds->(T ps).run=some (j,qs) ->j=0/\qs.map PV.kind=o.kinds/\Calls P f vargs.toArray X.w fun e w'=>∃v M',e=.returned v/\Below X.w.heap.size X.w w'/\(∀n,X.M n->M' n)/\(∀n,M' n->X.M n\/(X.w.heap.size<=n/\n<w'.heap.size))/\Rep { X with w:=w',M:=M' } (o.make qs).1 v) :qP P gl f (q8 ⟨ap,[]⟩ [o] T):=by
 refine⟨he,fun B X args vargs r hs hen hgl ha hr=>?_⟩;obtain⟨ps,j,qs,h1,h2,h3⟩:=qmG hr;unfold FIn.take at h1;obtain⟨x,y,g1,g2,rfl⟩:=q08 h1;obtain⟨a1,a2,a3⟩:=AP.takeL_ok (X:=X) _ _ x y g1;obtain⟨b1,b2,b3,b4,b5⟩:=BP.takeL_ok (X:=X) _ _ y [] g2;rw[qOZ] at b3 b5;have himp:B.imps.length=X.h.length:=by rw[hen.imps];simp
 obtain⟨d1,d2⟩:=qbi hs (h':=(BP.makeL (FIn.mk ap []).h y).1) b3 (fun b k' hb=>by obtain⟨k0,e1,e2,_⟩:=b5 b k' hb;exact⟨k0,e1,e2⟩)
  (fun b hb k' hk'=>by
   obtain⟨k0,_,_,e3⟩:=b5 b k' hk';have hlt:b<(FIn.mk ap []).h.length:=by omega
   exact absurd hlt (qPO _))
 have hkd:(x++y).map PV.kind=(FIn.mk ap []).kinds:=by simp[FIn.kinds,a2,b2]
 have hgl1:q3b gl ({ X with h:=(BP.makeL (FIn.mk ap []).h y).1 }:Ctx):=fun z hz=>⟨(hgl z hz).1,(hgl z hz).2.move d2.M d2.w ((hgl z hz).2.1.ext d2)⟩;have hmk:(FIn.mk ap []).make (x++y)=((AP.makeL ap (x++y)).1,(BP.makeL (FIn.mk ap []).h y).1):=by simp only[FIn.make,a1]
 have hh:(BP.makeL (FIn.mk ap []).h y).1=[]:=rfl;obtain⟨k1,k2,k4⟩:=h B _ (x++y) j qs vargs d1 hgl1 hh (by rw[hmk];exact(a3 _ ha).ext d2) hkd h2;subst k1;refine k4.mono fun e w' ⟨v,M',e1,e2,e3,e4,e5⟩=>?_;obtain⟨m1,m2⟩:=d1.growM e2 e3 e4;have hre:=qr1 h2 [o] 0 o r (qPl _) rfl k2 h3;subst hre;have ho2:(o.make qs).2=[]:=by unfold FOut.make;rw[ho];rfl
 exact⟨v,_,e1,rfl,e5,hh.trans ho2.symm,m1,rfl⟩
end Go.Eng

namespace Go.Eng
open Go.RowKit
variable {P:Program}{a:Act}{o:Oper}{v:Value}{w:World}{w':World}
theorem qFh {K:Act->World->Prop}{Q:Exit->Act->World->Prop}{E:Prop}(hg:o.guard=none){y:Nat->Option Bool}(h:Oper.wp P o a w K Q) :if Region.wanted o y=true then Oper.wp P o a w K Q else E:=by
 have hw:Region.wanted o y=true:=by simp[Region.wanted,hg]
 rw[if_pos hw];exact h
theorem qrw {ops:Array Oper}{K:Act->World->Prop}{Q:Exit->Act->World->Prop}{E:Prop}(hg:o.guard=none) (s x:Operand) (t:TypeId) (ho:o.op=.call { callee:=.builtin .append,args:=#[s,x],argTypes:=#[t,t] })(base:Nat) (e:TypeId) (i:TypeInfo) (z:Value) (size bytes:Nat) (ht:P.underlying t=some (.slice e)) (hi:P.info? e=some i) (hz:i.zero=some z)(hsize:i.size=size) (hby:i.bytes=bytes) (hzs:z.cells.size=size) (hsz:0<size)(v:Value) (n:Nat) (xs:List Value) (hs:a.eval s=v) (hown:w.ownsRow base e size v n xs)(ad:Addr) (m c:Nat) (news:List Value) (hx:a.eval x=.slice (some ad) m c) (hl:news.length=m*size) (hnews:∀j u,news[j]?=some u->w.cell? (ad.add j)=some u) (h1:∀u∈news,u.oneCell'=true)(h63:n+m<=maxLen) (hbytes:(n+m)*bytes<=140737488355328) (hbase:base<=w.heap.size)(h:∀v' w',w'.ownsRow base e size v' (n+m) (xs++news)->w.grownBy w' v.ownBlock->(v'=.slice none 0 0↔v=.slice none 0 0/\m=0)->K (a.put o.dst v') w') :if Region.wanted o (yielded ops a.tmps)=true then Oper.wp P o a w K Q else E:=by
 have hw:Region.wanted o (yielded ops a.tmps)=true:=by simp[Region.wanted,hg]
 rw[if_pos hw];exact wp_append_own w s x t ho base e i z size bytes ht hi hz hsize hby hzs hsz v n xs hs hown ad m c news hx hl hnews h1 h63 hbytes hbase h
theorem qCO {K:Act->World->Prop}{Q:Exit->Act->World->Prop}(f:FuncId)(caps:Array Value)(hen:qbJ P f)(x:Operand)(az:Array Operand)(ts:Array TypeId)(ho:o.op=.call { callee:=.value x,args:=az,argTypes:=ts }) (hx:a.eval x=.func (.func f) #[] caps) (args:Array Value) (has:az.map a.eval++caps=args) {R:Ending->World->Prop} (hc:Calls P f args w R)(h:∀e w',R e w'->∃v,e=.returned v/\K (a.put o.dst v) w'):Oper.wp P o a w K Q:=by
 have hr:(execOp a.eval o).run P w=.ok (.enter f args) w:=by subst has;unfold execOp;simp only[ho,resolve,Deferred.ofValue,invoke,qO3,qOw,qOa,hx,Array.empty_append];exact hen _ _
 unfold Oper.wp;rw[hr,Oper.upon_enter];exact hc.mono fun e w' hR=>by obtain⟨v,rfl,hK⟩:=h e w' hR;exact hK
theorem qG3 {ops:Array Oper}{K:Act->World->Prop}{Q:Exit->Act->World->Prop}{E:Prop}(hg:o.guard=none)(f:FuncId)(caps:Array Value)(hen:qbJ P f)(x:Operand)(az:Array Operand)(ts:Array TypeId)(ho:o.op=.call { callee:=.value x,args:=az,argTypes:=ts }) (hx:a.eval x=.func (.func f) #[] caps) (args:Array Value) (has:az.map a.eval++caps=args) {R:Ending->World->Prop} (hc:Calls P f args w R)(h:∀e w',R e w'->∃v,e=.returned v/\K (a.put o.dst v) w'):if Region.wanted o (yielded ops a.tmps)=true then Oper.wp P o a w K Q else E:=by
 have hw:Region.wanted o (yielded ops a.tmps)=true:=by simp[Region.wanted,hg]
 rw[if_pos hw];exact qCO f caps hen x az ts ho hx args has hc h
theorem qGy {ad:Addr}{u:Value}(h:w'.cell? ad=some u):∀(j:Nat) (v:Value),[u][j]?=some v->w'.cell? (ad.add j)=some v:=by
 intro j v hj
 match j,hj with
 | 0,hj=>simp at hj;subst hj;simpa[Addr.add] using h
theorem qxp (w:World)(u:Value)(e:TypeId):(w.alloc (.cells #[u] e)).cell? ⟨w.heap.size,0,none⟩=some u:=by rw[cell_of_row (w.alloc (.cells #[u] e)) w.heap.size 0 #[u] e (0,0) (heap_alloc_new w _)];rfl
theorem q5N {B:Nat}{e:TypeId}{z n:Nat}{xs:List Value}(h:w.ownsRow B e z v n xs):∃ao n' cap,v=.slice ao n' cap:=by
 rcases h.2 with⟨hv,_⟩|⟨g,cap,cur,hv,_⟩
 ·exact⟨_,_,_,hv⟩
 ·exact⟨_,_,_,hv⟩
theorem qCv {l:List Bs}:∀u∈l.map kD,u.oneCell'=true:=fun u hu=>by obtain⟨x,_,rfl⟩:=qOP.1 hu;rfl
structure MSt (B m q:Nat) (tM tE:TypeId) (w0 w:World) (r c:Nat) (v:Value) (xs:List Bs):Prop where
 bm:B<=m
 st:w.heap[m]?=some (.cells #[qnZ r,qnZ c,v] tM (0,0))
 res:w.heap[q]?=some (.cells #[qnZ 0,qnZ 0,.slice none 0 0] tM (0,0))
 mq:m≠q
 own:w.ownsRow B tE 1 v xs.length (xs.map kD)
 ne:tM≠tE
 below:Below B w0 w
section
variable {B m q:Nat} {tM tE:TypeId} {w0 w:World} {r c:Nat} {v:Value} {xs:List Bs}
theorem MSt.lt (h:MSt B m q tM tE w0 w r c v xs):m<w.heap.size:=(qO4.1 h.st).1
theorem MSt.cell (h:MSt B m q tM tE w0 w r c v xs):w.cell? ⟨m,0,none⟩=some (qnZ r)/\w.cell? ⟨m,1,none⟩=some (qnZ c)/\w.cell? ⟨m,2,none⟩=some v:=by refine⟨?_,?_,?_⟩<;>rw[cell_of_row w m _ _ tM (0,0) h.st]<;>rfl
theorem MSt.cellq (h:MSt B m q tM tE w0 w r c v xs):w.cell? ⟨q,0,none⟩=some (qnZ 0)/\w.cell? ⟨q,1,none⟩=some (qnZ 0)/\w.cell? ⟨q,2,none⟩=some (.slice none 0 0):=by refine⟨?_,?_,?_⟩<;>rw[cell_of_row w q _ _ tM (0,0) h.res]<;>rfl
theorem MSt.free (h:MSt B m q tM tE w0 w r c v xs)(o:Nat):w.frozen? ⟨m,o,none⟩=false:=frozen_of_row w m o _ tM h.st
theorem MSt.freeq (h:MSt B m q tM tE w0 w r c v xs)(o:Nat):w.frozen? ⟨q,o,none⟩=false:=frozen_of_row w q o _ tM h.res
theorem MSt.grow (h:MSt B m q tM tE w0 w r c v xs)(hb:Below w.heap.size w w')(hB:B<=w.heap.size):MSt B m q tM tE w0 w' r c v xs:=⟨h.bm,by rw[hb.block m h.lt];exact h.st,by rw[hb.block q (qO4.1 h.res).1];exact h.res,h.mq,q0p h.own hb,h.ne,h.below.trans (hb.mono hB)⟩
theorem MSt.hB (h:MSt B m q tM tE w0 w r c v xs)(h0:B<=w0.heap.size):B<=w.heap.size:=qO2 h0 h.below.size
theorem MSt.keep (h:MSt B m q tM tE w0 w r c v xs)(hg:w.grownBy w' v.ownBlock):w'.heap[m]?=some (.cells #[qnZ r,qnZ c,v] tM (0,0))/\w'.heap[q]?=some (.cells #[qnZ 0,qnZ 0,.slice none 0 0] tM (0,0)):=by
 have key:∀(b:Nat) (cs:Array Value),w.heap[b]?=some (Obj.cells cs tM (0,0))->w'.heap[b]?=some (Obj.cells cs tM (0,0)):=fun b cs hb=>by rw[hg.block b (qO4.1 hb).1 (fun hv=>by obtain⟨c2,hc2⟩:=zd h.own hv.symm;exact qbo hb hc2 h.ne rfl)];exact hb
 exact⟨key _ _ h.st,key _ _ h.res⟩
theorem MSt.keepCell (h:MSt B m q tM tE w0 w r c v xs)(hg:w.grownBy w' v.ownBlock):w'.cell? ⟨m,2,none⟩=some v/\w'.frozen? ⟨m,2,none⟩=false:=⟨by rw[cell_of_row w' m _ _ tM (0,0) (h.keep hg).1];rfl,frozen_of_row w' m _ _ tM (h.keep hg).1⟩
theorem MSt.app (h:MSt B m q tM tE w0 w r c v xs){v':Value}{ys:List Bs}(hg:w.grownBy w' v.ownBlock)(hB:B<=w.heap.size)(ho:w'.ownsRow B tE 1 v' ys.length (ys.map kD)) :MSt B m q tM tE w0 (w'.setCell ⟨m,2,none⟩ v') r c v' ys:=by obtain⟨hm,hq⟩:=h.keep hg;refine⟨h.bm,by rw[heap_setCell_same w' m 2 _ tM _ hm];rfl,by rw[heap_setCell_other w' ⟨m,2,none⟩ q _ h.mq.symm];exact hq,h.mq,qz ho (fun hv=>?_) _,h.ne,(h.below.grown hg hB (fun k hk=>(h.own.lt k hk).1)).setCell h.bm v'⟩;obtain⟨c1,hc1⟩:=zd ho hv;exact qbo hm hc1 h.ne rfl
end
theorem MSt.fin {B m q:Nat}{tM tE:TypeId}{w0 w:World}{r c:Nat}{xs:List Bs}(h:MSt B m q tM tE w0 w r c v xs)(hq:B<=q)(x y z:Value) :Below B w0 (((w.setCell ⟨q,0,none⟩ x).setCell ⟨q,1,none⟩ y).setCell ⟨q,2,none⟩ z)/\(((w.setCell ⟨q,0,none⟩ x).setCell ⟨q,1,none⟩ y).setCell ⟨q,2,none⟩ z).ownsRow B tE 1 v xs.length (xs.map kD):=by
 have hn:v.ownBlock≠some q:=fun hv=>by obtain⟨c1,hc1⟩:=zd h.own hv;exact qbo h.res hc1 h.ne rfl
 exact⟨((h.below.setCell hq x).setCell hq y).setCell hq z,qz (qz (qz h.own hn x) hn y) hn z⟩
theorem jb (w:World)(o:Obj):(w.alloc o).heap.size=w.heap.size+1:=by show (w.heap.push o).size=_;rw[Array.size_push]
theorem qkT (w:World)(o o':Obj):((w.alloc o).alloc o').heap[w.heap.size]?=some o:=by show ((w.alloc o).heap.push o')[w.heap.size]?=_;rw[Array.getElem?_push_lt (by rw[jb];omega)];have:=heap_alloc_new w o;rw[qPE (by rw[jb];omega)] at this;exact this
theorem MSt.start (w:World)(tM tE:TypeId)(hne:tM≠tE)(r c:Nat)(o:Obj)(ho:o=.cells #[qnZ 0,qnZ 0,.slice none 0 0] tM)(o':Obj)(ho':o'=.cells #[qnZ r,qnZ c,.slice none 0 0] tM) :MSt w.heap.size (w.heap.size+1) w.heap.size tM tE w ((w.alloc o).alloc o') r c (.slice none 0 0) []:=by
 subst ho;subst ho';have h1:(w.alloc (.cells #[qnZ 0,qnZ 0,.slice none 0 0] tM)).heap.size=w.heap.size+1:=jb _ _;refine⟨by omega,?_,?_,by omega,World.ownsRow_nil _ _ _ _,hne,((Below.refl w.heap.size w).alloc (qO0 _) _).alloc (by omega) _⟩
 ·rw[<-h1];exact heap_alloc_new _ _
 ·show ((w.alloc _).heap.push _)[w.heap.size]?=_;rw[Array.getElem?_push_lt (by omega)];have:=heap_alloc_new w (.cells #[qnZ 0,qnZ 0,.slice none 0 0] tM);rw[qPE (by omega)] at this;exact this
def mkL(F:Nat->Nat->Bs)(c:Nat):Nat->List Bs
 | 0=>[]
 | i+1=>mkL F c i++(List.range c).map (F i)
theorem qjf(F:Nat->Nat->Bs)(c:Nat):∀i,(mkL F c i).length=i*c
 | 0=>by simp[mkL]
 | i+1=>by rw[mkL,qOh,qjf F c i];simp[qOf]
theorem qBM(F:Nat->Nat->Bs)(c:Nat):∀(n i k:Nat),i<n->k<c->(mkL F c n)[i*c+k]?=some (F i k)
 | 0,i,k,h,_=>by omega
 | n+1,i,k,h,hk=>by
  rw[mkL];by_cases hi:i<n
  ·have:i*c+k<n*c:=by have:=qOq c (show i+1<=n by omega);rw[qOf] at this;omega
   rw[qOb (by rw[qjf];exact this)];exact qBM F c n i k hi hk
  ·have:i=n:=by omega
   subst this;rw[qOi (by rw[qjf];omega),qjf,show i*c+k-i*c=k by omega];simp[hk]
theorem Sch.addRow {B S:Nat}{tS tR tE tI:TypeId}{N C:Nat}{ek K vR vL:Value}{H:List Value}{Z:Mx}{det:Bs}{lead:List Nat}(h:Sch B S tS tR tE tI N C ek K w vR vL H Z det lead){w':World} {vR' hd:Value} {row:List Bs} (hr:w.ownsRow B tE 1 hd C (row.map kD)) (hnew:∀(j:Nat) (a:Value) (b:Nat),H[j]?=some a->a.ownBlock=some b->hd.ownBlock≠some b) (hg:w.grownBy w' vR.ownBlock) (ho:w'.ownsRow B tR 1 vR' (N+1) (H++[hd])) :Sch B S tS tR tE tI (N+1) C ek K (w'.setCell ⟨S,1,none⟩ vR') vR' vL (H++[hd]) (Z++[row]) det lead:=by
 have hrl:row.length=C:=by have:=hr.1;rw[qO7] at this;omega
 have hb:∀b,(∃(cur:Array Value) (e:TypeId),w.heap[b]?=some (Obj.cells cur e (0,0))/\e≠tR)->w'.heap[b]?=w.heap[b]?:=fun b ⟨cur,e,hc,hne⟩=>hg.block b (qO4.1 hc).1 (fun hv=>by obtain⟨c2,hc2⟩:=zd h.outer hv.symm;exact qbo hc hc2 hne rfl);have hS:w'.heap[S]?=some (.cells #[ek,vR,K,vL,kD det] tS (0,0)):=by rw[hb S ⟨_,_,h.st,h.ne.1⟩];exact h.st
 have keep:∀{e:TypeId} {n:Nat} {a:Value} {xs:List Value},e≠tR->tS≠e->w.ownsRow B e 1 a n xs->(w'.setCell ⟨S,1,none⟩ vR').ownsRow B e 1 a n xs:=by
  intro e n a xs hne hSe hr;have h1:w'.ownsRow B e 1 a n xs:=hr.kept hg (by
   cases hv:a.ownBlock with
   | none=>exact .inl rfl
   | some b=>
    right;intro he;obtain⟨c1,hc1⟩:=zd hr hv;obtain⟨c2,hc2⟩:=zd h.outer he.symm;exact qbo hc1 hc2 hne rfl)
  refine qz h1 (fun hv=>?_) _;obtain⟨c1,hc1⟩:=zd h1 hv;exact qbo hS hc1 hSe rfl
 have hl:=h.hlen;have hz:=h.dim.n;have key:∀j a,(H++[hd])[j]?=some a->(j<N/\H[j]?=some a/\(Z++[row])[j]?=Z[j]?)\/(j=N/\a=hd/\(Z++[row])[j]?=some row):=by
  intro j a hj;by_cases hjn:j<N
  ·rw[qOb (by omega)] at hj;exact .inl ⟨hjn,hj,qOb (by omega)⟩
  ·have:j<(H++[hd]).length:=(qPB.1 hj).1;rw[qOh,List.length_singleton] at this;have:j=N:=by omega
   subst this;rw[qOi (by omega),show j-H.length=0 by omega] at hj;simp at hj;exact .inr ⟨rfl,hj.symm,by rw[qOi (by omega),show j-Z.length=0 by omega];rfl⟩
 refine⟨h.bs,by rw[heap_setCell_same w' S 1 _ tS _ hS];rfl,⟨by simp[hz],fun r hr'=>?_⟩,qz ho (fun hv=>?_) _,fun j a r e1 e2=>?_,keep h.ne.2.2.2.2.1.symm h.ne.2.2.1 h.own,fun i j a a' b hij e1 e2 e3=>?_,h.ne⟩
 ·rcases qOn.1 hr' with hr'|hr'
  ·exact h.dim.c r hr'
  ·rw[qOs.1 hr'];exact hrl
 ·obtain⟨c1,hc1⟩:=zd ho hv;exact qbo hS hc1 h.ne.1 rfl
 ·rcases key j a e1 with⟨q1,q2,q3⟩|⟨_,q2,q3⟩
  ·rw[q3] at e2;exact keep h.ne.2.2.2.1.symm h.ne.2.1 (h.inner j a r q2 e2)
  ·rw[q3] at e2;cases e2;subst q2;exact keep h.ne.2.2.2.1.symm h.ne.2.1 hr
 ·rcases key i a e1 with⟨q1,q2,_⟩|⟨q1,q2,_⟩
  ·rcases key j a' e2 with⟨p1,p2,_⟩|⟨p1,p2,_⟩
   ·exact h.ap i j a a' b hij q2 p2 e3
   ·subst p2;exact hnew i a b q2 e3
  ·rcases key j a' e2 with⟨p1,p2,_⟩|⟨p1,p2,_⟩
   ·subst q2;intro hb';exact hnew j a' b p2 hb' e3
   ·omega
theorem q4O {B B':Nat}{e:TypeId}{z n:Nat}{xs:List Value}(h:w.ownsRow B e z v n xs)(hB:B'<=B):w.ownsRow B' e z v n xs:=by
 refine⟨h.1,?_⟩;rcases h.2 with h|⟨g,c,cur,a1,a2,a3⟩
 ·exact .inl h
 ·exact .inr ⟨g,c,cur,a1,by omega,a3⟩
theorem Sch.start {B S:Nat}{tS tR tE tI:TypeId}{C:Nat}{ek K:Value}{det:Bs}(bs:B<=S)(st:w.heap[S]?=some (.cells #[ek,.slice none 0 0,K,.slice none 0 0,kD det] tS (0,0)))(ne:tS≠tR/\tS≠tE/\tS≠tI/\tR≠tE/\tR≠tI/\tE≠tI):Sch B S tS tR tE tI 0 C ek K w (.slice none 0 0) (.slice none 0 0) [] [] det []:=⟨bs,st,⟨rfl,fun r hr=>(by cases hr)⟩,World.ownsRow_nil _ _ _ _,fun j h r e1 _=>(by simp at e1),World.ownsRow_nil _ _ _ _,fun i j h h' b _ e1 _ _=>(by simp at e1),ne⟩
theorem Sch.heads {B S:Nat}{tS tR tE tI:TypeId}{N C:Nat}{ek K vR vL:Value}{H:List Value}{Z:Mx}{det:Bs}{lead:List Nat}(h:Sch B S tS tR tE tI N C ek K w vR vL H Z det lead){w':World} {e:TypeId} {z n:Nat} {hd:Value} {xs:List Value} (ho:w'.ownsRow w.heap.size e z hd n xs):∀(j:Nat) (a:Value) (b:Nat),H[j]?=some a->a.ownBlock=some b->hd.ownBlock≠some b:=by
 intro j a b hj ha hb;have hjN:j<N:=by have:=(qPB.1 hj).1;rw[h.hlen] at this;exact this
 obtain⟨hd',r,e1,_,e3⟩:=h.hrow hjN;rw[hj] at e1;cases e1;have:=e3.lt b ha;have:=ho.lt b hb;omega
theorem qCP {w w':World}{B:Nat}{t tR:TypeId}{z n b:Nat}{xs:List Value}{cs:Array Value}(ho:w.ownsRow B tR z v n xs)(hb:w.heap[b]?=some (.cells cs t (0,0)))(hne:t≠tR)(hg:w.grownBy w' v.ownBlock):w'.heap[b]?=some (.cells cs t (0,0)):=by rw[hg.block b (qO4.1 hb).1 (fun hv=>by obtain⟨c2,hc2⟩:=zd ho hv.symm;exact qbo hb hc2 hne rfl)];exact hb
theorem q5V {b:Nat}{x y z:Value}{t:TypeId}(h:w.heap[b]?=some (.cells #[x,y,z] t (0,0))):w.cell? ⟨b,0,none⟩=some x/\w.cell? ⟨b,1,none⟩=some y/\w.cell? ⟨b,2,none⟩=some z:=by refine⟨?_,?_,?_⟩<;>rw[cell_of_row w b _ _ t (0,0) h]<;>rfl
theorem Sch.rowCell {B S:Nat}{tS tR tE tI:TypeId}{N C:Nat}{ek K vR vL:Value}{H:List Value}{Z:Mx}{det:Bs}{lead:List Nat}(h:Sch B S tS tR tE tI N C ek K w vR vL H Z det lead)(hg:w.grownBy w' vR.ownBlock) :w'.cell? ⟨S,1,none⟩=some vR/\w'.frozen? ⟨S,1,none⟩=false:=by have hS:=qCP h.outer h.st h.ne.1 hg;exact⟨by rw[cell_of_row w' S 1 _ tS (0,0) hS];rfl,frozen_of_row w' S 1 _ tS hS⟩
end Go.Eng

namespace Go.Eng
open Go.RowKit Go.Proofs
open Tryz
set_option maxHeartbeats 2000000 in
set_option maxRecDepth 100000 in
theorem qBg(S:Nat)(x:Bs)(w:World)(h0:w.cell? ⟨S,0,none⟩=some (.int .i64 0)) :Calls prog 380 #[.pointer (some ⟨S,0,none⟩),kD x,.int .i64 0] w fun e w'=>e=.returned (kD x)/\w'=w:=by
 unfold kD
 go_enter func380,ntmps380
 go_wp2
 go_ret
 exact⟨rfl,rfl⟩
def qEM(P:Program)(gl:World->Prop)(f:FuncId)(F:Op2):Prop:=∀w,gl w->∀a b r,F a b=some r ->
 Calls P f #[kD a,kD b] w fun e w'=>e=.returned (.tuple #[kD r,.int .i64 0])/\Below w.heap.size w w'
set_option maxHeartbeats 2000000 in
set_option maxRecDepth 100000 in
theorem qJY(gl:World->Prop)(F:Op2)(hF:qEM prog gl 210 F)(S:Nat)(a b r:Bs)(w:World)(hw:gl w)(hr:F a b=some r)(hS:S<w.heap.size)(h0:w.cell? ⟨S,0,none⟩=some (.int .i64 0)) :Calls prog 401 #[.pointer (some ⟨S,0,none⟩),kD a,kD b] w fun e w'=>e=.returned (kD r)/\Below w.heap.size w w':=by
 have key:=hF w hw a b r hr;have kept:=qBg S r;unfold kD at key kept ⊢
 go_enter func401,ntmps401
 go_wp2_with (go_at_call 210;refine key.mono ?_)
 rintro e w1 ⟨rfl,hb⟩;have c1:w1.cell? ⟨S,0,none⟩=some (.int .i64 0):=by rw[hb.cell (p:=⟨S,0,none⟩) hS];exact h0
 go_wp2_with (go_at_call 380;refine(kept _ c1).mono ?_;rintro e w' ⟨rfl,rfl⟩)
 go_ret
 exact⟨rfl,hb⟩
set_option maxHeartbeats 2000000 in
set_option maxRecDepth 100000 in
theorem qJM(gl:World->Prop)(F:Op2)(hF:qEM prog gl 77 F)(S:Nat)(a b r:Bs)(w:World)(hw:gl w)(hr:F a b=some r)(hS:S<w.heap.size)(h0:w.cell? ⟨S,0,none⟩=some (.int .i64 0)) :Calls prog 335 #[.pointer (some ⟨S,0,none⟩),kD a,kD b] w fun e w'=>e=.returned (kD r)/\Below w.heap.size w w':=by
 have key:=hF w hw a b r hr;have kept:=qBg S r;unfold kD at key kept ⊢
 go_enter func335,ntmps335
 go_wp2_with (go_at_call 77;refine key.mono ?_)
 rintro e w1 ⟨rfl,hb⟩;have c1:w1.cell? ⟨S,0,none⟩=some (.int .i64 0):=by rw[hb.cell (p:=⟨S,0,none⟩) hS];exact h0
 go_wp2_with (go_at_call 380;refine(kept _ c1).mono ?_;rintro e w' ⟨rfl,rfl⟩)
 go_ret
 exact⟨rfl,hb⟩
set_option maxHeartbeats 2000000 in
set_option maxRecDepth 100000 in
theorem qMH(gl:World->Prop)(F:Op2)(hF:qEM prog gl 315 F)(S:Nat)(a b r:Bs)(w:World)(hw:gl w)(hr:F a b=some r)(hS:S<w.heap.size)(h0:w.cell? ⟨S,0,none⟩=some (.int .i64 0)) :Calls prog 402 #[.pointer (some ⟨S,0,none⟩),kD a,kD b] w fun e w'=>e=.returned (kD r)/\Below w.heap.size w w':=by
 have key:=hF w hw a b r hr;have kept:=qBg S r;unfold kD at key kept ⊢
 go_enter func402,ntmps402
 go_wp2_with (go_at_call 315;refine key.mono ?_)
 rintro e w1 ⟨rfl,hb⟩;have c1:w1.cell? ⟨S,0,none⟩=some (.int .i64 0):=by rw[hb.cell (p:=⟨S,0,none⟩) hS];exact h0
 go_wp2_with (go_at_call 380;refine(kept _ c1).mono ?_;rintro e w' ⟨rfl,rfl⟩)
 go_ret
 exact⟨rfl,hb⟩
end Go.Eng

