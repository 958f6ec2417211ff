/- Texts of the proof, merged: what the code computes, and plain laws. No statement stands here. -/
import Derived.Orders
import Derived.RangeFuncRecord
import Derived.KernelRfl
import Derived.Test.YtehgceikghodkaaGreatDoorU1
namespace Go.Eng
structure Entry (B:Base) (X:Ctx):Prop where
 w0:B.w0=X.w
 imps:B.imps=(List.range X.h.length).map X.σ
 M0:∀n,X.M n→B.M0 n
def qju(P:Program)(f:FuncId):Prop:=∀(args:Array Value) (w:World),(callFunc f args).run P w=.ok (.enter f args) w
def zb(P:Program)(gl:List (Nat×AV))(f:FuncId)(G:q0A):Prop:=
 qju P f∧∀(B:Base) (X:Ctx) (args:List AV) (vargs:List Value) (r:AV×List Blk),HSim B X→Entry B X→qbK gl X→RepL X args vargs→(G args X.h).run=some r →
  Calls P f vargs.toArray X.w fun e w'=>∃v X',e=.returned v∧X'.w=w'∧Rep X' r.1 v∧X'.h=r.2∧HSim B X'∧X'.y=X.y
mutual
theorem qwZ{B:Base}{X:Ctx}(hs:HSim B X):∀{av:AV} {v:Value},Rep X av v→Rep X (av.lend X.h) v
 | .vec b,v,h=>by
  unfold AV.lend
  split
  ·rename_i e sh l hb;exact .imm _ _ _ (qgg hs hb h)
  ·exact .undef v
 | .agg cs,_,.agg _ vs h=>.agg _ vs (qcx hs h)
 | .tuple cs,_,.tuple _ vs h=>.tuple _ vs (qcx hs h)
 | .undef,_,h|.skip,_,h|.yld,_,h|.blit _,_,h|.bool _,_,h|.ilit _ _,_,h|.int _ _,_,h|.str _,_,h|.nilp,_,h|.ptr _ _,_,h|.eptr _ _ _ _,_,h|.mptr _ _ _ _ _,_,h|.vptr _ _ _,_,h|.vsub _ _,_,h|.aptr _ _ _,_,h|.asub _ _ _ _ _,_,h|.bagg _ _ _ _,_,h
 | .nils,_,h|.imm _ _,_,h|.full _ _,_,h|.nilf,_,h|.fn _ _ _,_,h=>h
theorem qcx{B:Base}{X:Ctx}(hs:HSim B X):∀{azz:List AV} {vs:List Value},RepL X azz vs→RepL X (AV.lendL X.h azz) vs
 | _,_,.nil=>.nil
 | _,_,.cons h t=>.cons (qwZ hs h) (qcx hs t)
end
def Wk(X:Ctx)(k k':Blk):Prop:=k'=.dead∨k'=k∨(∃cs cs',k=.cells cs∧k'=.cells cs'∧∀vs,RepL X cs vs→RepL X cs' vs)∨∃cs cs' kk n l,k=.big cs kk n l∧k'=.big cs' kk n l∧∀vs,RepL X cs vs→RepL X cs' vs
theorem qc0{B:Base}{X:Ctx}(hs:HSim B X){h':List Blk}(hl:h'.length=X.h.length)(hw:∀(b:Nat) (k':Blk),h'[b]?=some k'→∃k0,X.h[b]?=some k0∧Wk X k0 k')
  (hc:∀b:Nat,b<B.imps.length→∀k':Blk,h'[b]?=some k'→k'.solid=true):HSim B { X with h:=h' }∧Ext X { X with h:=h' }:=by
 have hvec:∀b sh m,({ X with h:=h' }:Ctx).isVec b sh m→X.isVec b sh m:=by
  intro b sh m ⟨e,l,h1,h2⟩
  refine⟨e,l,?_,h2⟩
  rcases h1 with h1|h1
  ·obtain⟨k0,h3,h4⟩:=hw b _ h1
   rcases h4 with h4|h4|⟨_,_,_,h4,_⟩|⟨_,_,_,_,_,_,h4,_⟩
   ·cases h4
   ·exact .inl (h4▸h3)
   ·cases h4
   ·cases h4
  ·obtain⟨k0,h3,h4⟩:=hw b _ h1
   rcases h4 with h4|h4|⟨_,_,_,h4,_⟩|⟨_,_,_,_,_,_,h4,_⟩
   ·cases h4
   ·exact .inr (h4▸h3)
   ·cases h4
   ·cases h4
 have hx:Ext X { X with h:=h' }:=by
  refine Move.of (fun _ h=>h) (fun _ _=>rfl) (fun b b' hb hf=>?_)
  cases hf
  exact⟨by show b<h'.length;omega,rfl,hvec b,fun sh m _ k hk c T fr hc=>⟨c,T,fr,hc,rfl⟩⟩
 have hown:∀b m,({ X with h:=h' }:Ctx).own b m→X.own b m:=by
  intro b m ⟨h1,k,h2,h3⟩
  obtain⟨k0,h4,h5⟩:=hw b k h2
  refine⟨h1,k0,h4,?_⟩
  rcases h5 with h5|h5|⟨_,_,h5,_,_⟩|⟨_,_,_,_,_,h5,_,_⟩
  ·subst h5;cases h3
  ·exact h5▸h3
  ·subst h5;rfl
  ·subst h5;rfl
 refine⟨⟨?_,fun b b' m h h'=>hs.inj b b' m (hown _ _ h) (hown _ _ h'),fun b m h=>hs.notM b m (hown _ _ h),hs.ltM,hs.M0,hs.newM,hs.os,hs.tape,hs.output,hs.size,hs.frame,hs.imps,?_,fun b m h=>hs.fresh b m (hown _ _ h),hs.kept⟩,hx⟩
 ·intro b k hk
  obtain⟨k0,h1,h2⟩:=hw b k hk
  have h3:=hs.blk b k0 h1
  rcases h2 with h2|h2|⟨cs,cs',h2,h4,h5⟩|⟨cs,cs',kk,N,l,h2,h4,h5⟩
  ·subst h2;trivial
  ·subst h2;exact yt.ext hx rfl (fun _ _=>rfl) h3
  ·subst h2 h4
   obtain⟨m,c,T,e1,e2,e3⟩:=h3
   exact⟨m,c,T,e1,e2,(h5 _ e3).ext hx⟩
  ·subst h2 h4
   obtain⟨m,c,T,vs,e1,e2,e3,e4,e5⟩:=h3
   exact⟨m,c,T,vs,e1,e2,(h5 _ e3).ext hx,e4,e5⟩
 ·intro b hb
  have hlt:b<h'.length:=by have:=hs.hlen;omega
  exact⟨_,List.getElem?_eq_getElem hlt,hc b hb _ (List.getElem?_eq_getElem hlt)⟩
theorem Frozen.trans{B:Base}{X Y Z:Ctx}{h h':List Blk}(f:Frozen B X Y h)(g:Frozen B Y Z h'):Frozen B X Z h':=
 ⟨g.h,g.w.trans f.w,g.σ.trans f.σ,g.hs,Move.trans f.ext g.ext⟩
theorem qi5{B:Base}:∀(l:List Nat) {X:Ctx} (_:HSim B X),∃X',Frozen B X X' (qgM X.h l)
 | [],X,hs=>⟨X,rfl,rfl,rfl,hs,Ext.refl X⟩
 | b::l,X,hs=>by
  simp only[qgM]
  split
  ·rename_i cs hb
   obtain⟨d1,d2⟩:=qc0 hs (h':=X.h.set b (.cells (AV.lendL X.h cs))) (by simp) (fun b' k' hk=>by
    by_cases hbb:b'=b
    ·subst hbb
     rw[List.getElem?_set_self (qu hb)] at hk
     exact⟨.cells cs,hb,.inr (.inr (.inl ⟨cs,_,rfl,(Option.some.inj hk).symm,fun vs hv=>qcx hs hv⟩))⟩
    ·rw[List.getElem?_set_ne (Ne.symm hbb)] at hk
     exact⟨k',hk,.inr (.inl rfl)⟩) (fun b' hb' k' hk=>by
    by_cases hbb:b'=b
    ·subst hbb
     rw[List.getElem?_set_self (qu hb)] at hk
     rw[←Option.some.inj hk];rfl
    ·rw[List.getElem?_set_ne (Ne.symm hbb)] at hk
     obtain⟨cs',h1,h2⟩:=hs.impc b' hb'
     rw[h1] at hk
     rw[←Option.some.inj hk];exact h2)
   obtain⟨X2,f⟩:=qi5 l d1
   have f0:Frozen B X { X with h:=X.h.set b (.cells (AV.lendL X.h cs)) } (X.h.set b (.cells (AV.lendL X.h cs))):=⟨rfl,rfl,rfl,d1,d2⟩
   exact⟨X2,f0.trans f⟩
  ·exact qi5 l hs
theorem qrW{B:Base}(args:List AV){X:Ctx}(hs:HSim B X):∃X',Frozen B X X' (q4R X.h args):=by
 unfold q4R
 obtain⟨X1,f1⟩:=q7e (args.flatMap jO) hs
 simp only
 rw[←f1.h]
 obtain⟨X2,f2⟩:=q7e (qak X1.h (AV.menL (AV.lendL X1.h args))) f1.hs
 rw[←f2.h]
 obtain⟨X3,f3⟩:=qi5 (AV.menL (AV.lendL X1.h args)) f2.hs
 exact⟨X3,(f1.trans f2).trans f3⟩
mutual
theorem AV.ren_of_men(f:Nat→Option Nat):∀av:AV,av.men=[]→av.ren f=av
 | .undef,_|.skip,_|.yld,_|.blit _,_|.bool _,_|.ilit _ _,_|.int _ _,_|.str _,_|.nilp,_|.eptr _ _ _ _,_|.mptr _ _ _ _ _,_|.nils,_|.imm _ _,_|.full _ _,_|.nilf,_=>rfl
 | .ptr _ _,h=>by simp[AV.men] at h
 | .vptr _ _ _,h=>by simp[AV.men] at h
 | .vsub _ _,h=>by simp[AV.men] at h
 | .aptr _ _ _,h=>by simp[AV.men] at h
 | .asub _ _ _ _ _,h=>by simp[AV.men] at h
 | .bagg cs k n l,h=>by simp only[AV.men] at h;simp only[AV.ren,AV.renL_of_men f cs h]
 | .vec _,h=>by simp[AV.men] at h
 | .fn g a b,h=>by
  simp only[AV.men,List.append_eq_nil_iff] at h
  simp only[AV.ren,AV.renL_of_men f a h.1,AV.renL_of_men f b h.2]
 | .agg cs,h=>by simp only[AV.men] at h;simp only[AV.ren,AV.renL_of_men f cs h]
 | .tuple cs,h=>by simp only[AV.men] at h;simp only[AV.ren,AV.renL_of_men f cs h]
theorem AV.renL_of_men(f:Nat→Option Nat):∀l:List AV,AV.menL l=[]→AV.renL f l=l
 | [],_=>rfl
 | a::l,h=>by
  simp only[AV.menL,List.append_eq_nil_iff] at h
  simp only[AV.renL,AV.ren_of_men f a h.1,AV.renL_of_men f l h.2]
end
theorem RepL.noMen{X X':Ctx}{azz:List AV}{vs:List Value}(h:RepL X azz vs)(hm:AV.menL azz=[])(hM:∀n,X.M n→X'.M n)(hw:∀a:Addr,X.M a.block→X'.w.cell? a=X.w.cell? a)(hy:X'.y=X.y:=by rfl):RepL X' azz vs:=by
 have:=h.ren (X':=X') (f:=fun _=>none) ⟨hM,hw,(fun _ _ _ h=>by cases h),hy⟩
 rwa [AV.renL_of_men _ _ hm] at this
theorem Rep.noMen{X X':Ctx}{a:AV}{v:Value}(h:Rep X a v)(hm:a.men=[])(hM:∀n,X.M n→X'.M n)(hw:∀a:Addr,X.M a.block→X'.w.cell? a=X.w.cell? a)(hy:X'.y=X.y:=by rfl):Rep X' a v:=by
 have:=h.ren (X':=X') (f:=fun _=>none) ⟨hM,hw,(fun _ _ _ h=>by cases h),hy⟩
 rwa [AV.ren_of_men _ _ hm] at this
theorem qhU:∀l:List Nat,(qjB l).Nodup
 | []=>List.nodup_nil
 | a::l=>by
  simp only[qjB]
  split
  ·exact qhU l
  ·rename_i h
   exact List.nodup_cons.2 ⟨by simpa using h,qhU l⟩
theorem qyg{l:List Nat}{b k:Nat}(h:qAl l b=some k):l[k]?=some b:=by
 simp only[qAl] at h
 split at h
 ·rename_i hlt
  cases h
  rw[List.getElem?_eq_getElem hlt]
  have:=List.findIdx_getElem (p:=(·==b)) (w:=hlt)
  simpa using this
 ·cases h
theorem qjE:∀{fp:List Nat} {h:List Blk} {hin:List Blk},q5s h fp=some hin→hin.length=fp.length ∧
  ∀(k:Nat) (b:Nat),fp[k]?=some b→∃cs,h[b]?=some cs∧hin[k]?=some cs∧cs.plain=true
 | [],h,hin,e=>by simp[q5s] at e;subst e;exact⟨rfl,fun k b hk=>by simp at hk⟩
 | b::l,h,hin,e=>by
  simp only[q5s] at e
  split at e
  ·rename_i cs r h1 h2
   split at e
   ·rename_i hm
    cases e
    obtain⟨g1,g2⟩:=qjE h2
    refine⟨by simp[g1],fun k b' hk=>?_⟩
    cases k with
    | zero=>simp at hk;subst hk;exact⟨cs,h1,by simp,hm⟩
    | succ k=>
     obtain⟨cs',q1,q2,q3⟩:=g2 k b' (by simpa using hk)
     exact⟨cs',q1,by simpa using q2,q3⟩
   ·cases e
  ·cases e
theorem qm0:∀{fp:List Nat} {h hout h2:List Blk},yb h fp hout=some h2→fp.Nodup→(∀b∈fp,b<h.length)→h2.length=h.length∧fp.length≤hout.length ∧
  (∀b,b∉fp→h2[b]?=h[b]?)∧∀(k:Nat) (b:Nat),fp[k]?=some b→∃cs,hout[k]?=some cs∧h2[b]?=some cs∧cs.plain=true
 | [],h,hout,h2,e,_,_=>by
  simp[yb] at e;subst e
  exact⟨rfl,by simp,fun _ _=>rfl,fun k b hk=>by simp at hk⟩
 | b::l,h,hout,h2,e,hn,hl=>by
  cases hout with
  | nil=>simp[yb] at e
  | cons cs r=>
    simp only[yb] at e
    by_cases hm:cs.plain=true
    ·rw[if_pos hm] at e
     cases hp:yb h l r with
     | none=>rw[hp] at e;cases e
     | some h'=>
      rw[hp] at e
      simp only[Option.map_some,Option.some.injEq] at e
      subst e
      obtain⟨hn1,hn2⟩:=List.nodup_cons.1 hn
      obtain⟨g1,g2,g3,g4⟩:=qm0 hp hn2 (fun x hx=>hl x (List.mem_cons_of_mem _ hx))
      have hb:=hl b List.mem_cons_self
      refine⟨by simp[g1],by simp;omega,fun x hx=>?_,fun k b' hk=>?_⟩
      ·have:x≠b:=fun e=>hx (e▸List.mem_cons_self)
       rw[List.getElem?_set_ne (Ne.symm this)]
       exact g3 x fun h=>hx (List.mem_cons_of_mem _ h)
      ·cases k with
       | zero=>simp at hk;subst hk;exact⟨cs,by simp,by rw[List.getElem?_set_self (by omega)],hm⟩
       | succ k=>
        have hk':l[k]?=some b':=by simpa using hk
        obtain⟨cs',q1,q2,q3⟩:=g4 k b' hk'
        have:b'≠b:=fun e=>hn1 (e▸List.mem_of_getElem? hk')
        exact⟨cs',by simpa using q1,by rw[List.getElem?_set_ne (Ne.symm this)];exact q2,q3⟩
    ·rw[if_neg hm] at e;cases e
theorem qxv{X:Ctx}{b:Nat}{k:Blk}(hp:k.plain=true)(h:yt X b k):∃n,X.σ b=some n:=by
 cases k with
 | cells cs=>obtain⟨n,_,_,e,_⟩:=h;exact⟨n,e⟩
 | big cs k N l=>obtain⟨n,_,_,_,e,_⟩:=h;exact⟨n,e⟩
 | _=>cases hp
theorem qqV{X X':Ctx}{b b':Nat}{k:Blk}(hp:k.plain=true)(h:yt X b k)(hσ:X'.σ b'=X.σ b)(hw:∀n,X.σ b=some n→X'.w.heap[n]?=X.w.heap[n]?)
  (hM:∀n,X.M n→X'.M n) (hc:∀a:Addr,X.M a.block→X'.w.cell? a=X.w.cell? a) (hy:X'.y=X.y):yt X' b' k:=by
 cases k with
 | cells cs=>
  obtain⟨n,c,T,e1,e2,e3⟩:=h
  exact⟨n,c,T,by rw[hσ];exact e1,by rw[hw n e1];exact e2,e3.noMen (by simpa[Blk.plain] using hp) hM hc hy⟩
 | big cs k N l=>
  obtain⟨n,c,T,vs,e1,e2,e3,e4,e5⟩:=h
  exact⟨n,c,T,vs,by rw[hσ];exact e1,by rw[hw n e1];exact e2,e3.noMen (by simpa[Blk.plain] using hp) hM hc hy,e4,e5⟩
 | _=>cases hp
theorem qhs{k:Blk}(hp:k.plain=true):k.solid=true∧k.mut=true∧(∀e sh l,k≠.vec e sh l∧k≠.frz e sh l):=by
 cases k<;>first|(cases hp;done)|exact⟨rfl,rfl,fun _ _ _=>⟨(nomatch ·),(nomatch ·)⟩⟩
theorem qbp{E:Env}{P:Program}{f:FuncId}{G:q0A}(hG:zb P E.glob f G){args:List AV}{st:St}{r:AV×St}{B:Base}{X:Ctx}{a:Act}{vargs:List Value}
  (hsim:Sim E B X st a) (hargs:RepL X args vargs) (h:(q2E G args st).run=some r) :
  Calls P f vargs.toArray X.w fun e w'=>∃v X',e=.returned v∧X'.w=w'∧Rep X' r.1 v∧Sim E B X' r.2 a:=by
 unfold q2E at h
 obtain⟨X1,fz⟩:=qrW args hsim.hs
 rw[←hsim.h] at h
 rw[←fz.h] at h
 simp only at h
 have hs1:=fz.hs
 generalize hfp:qjB (AV.menL (AV.lendL X1.h args))=fp at h
 have hnd:fp.Nodup:=hfp▸qhU _
 cases htk:q5s X1.h fp with
 | none=>rw[htk] at h;cases h
 | some hin=>
  rw[htk] at h
  obtain⟨r0,h1,h2⟩:=bind_some h
  cases hput:yb X1.h fp r0.2 with
  | none=>rw[hput] at h2;cases h2
  | some hh2=>
   rw[hput] at h2;cases h2
   obtain⟨k1,k2⟩:=qjE htk
   have hfpl:∀b∈fp,b<X1.h.length:=by
    intro b hb
    obtain⟨k,hk⟩:=List.getElem?_of_mem hb
    obtain⟨cs,q1,_⟩:=k2 k b hk
    exact qu q1
   obtain⟨p1,p2,p3,p4⟩:=qm0 hput hnd hfpl
   have hcell:∀(k b:Nat),fp[k]?=some b→∃cs n,X1.h[b]?=some cs∧hin[k]?=some cs∧cs.plain=true∧X1.σ b=some n∧X1.own b n:=by
    intro k b hk
    obtain⟨cs,q1,q2,q3⟩:=k2 k b hk
    obtain⟨n,e1⟩:=qxv q3 (hs1.blk b _ q1)
    exact⟨cs,n,q1,q2,q3,e1,e1,_,q1,(qhs q3).2.1⟩
   let X0:Ctx:={ σ:=fun k=>(fp[k]?).bind X1.σ,h:=hin,w:=X1.w,M:=X1.M,y:=X1.y }
   let B0:Base:={ w0:=X1.w,imps:=(List.range hin.length).map X0.σ,M0:=X1.M,fs:=[] }
   have hget0:∀(k:Nat) (blk:Blk),X0.h[k]?=some blk→∃(b:Nat) (cs:Blk) (n:Nat),fp[k]?=some b∧blk=cs∧X1.h[b]?=some cs∧cs.plain=true∧X1.σ b=some n∧X1.own b n:=by
    intro k blk hk
    have hlt:k<fp.length:=by rw[←k1];exact qu hk
    have hfk:fp[k]?=some fp[k]:=List.getElem?_eq_getElem hlt
    obtain⟨cs,n,q1,q2,q3,q4,q5⟩:=hcell k _ hfk
    have:blk=cs:=by
     have hk':hin[k]?=some blk:=hk
     rw[q2] at hk';exact(Option.some.inj hk').symm
    exact⟨fp[k],cs,n,hfk,this,q1,q3,q4,q5⟩
   have hσ0:∀(k b:Nat),fp[k]?=some b→X0.σ k=X1.σ b:=by intro k b hk;show (fp[k]?).bind X1.σ=_;rw[hk];rfl
   have hown0:∀(k n:Nat),X0.own k n→∃b:Nat,fp[k]?=some b∧X1.own b n:=by
    intro k n ⟨e1,blk,e2,e3⟩
    obtain⟨b,cs,n',q1,q2,q3,q4,q5,q6⟩:=hget0 k blk e2
    rw[hσ0 k b q1,q5] at e1;cases e1
    exact⟨b,q1,q6⟩
   have hs0:HSim B0 X0:=by
    constructor
    ·intro k blk hk
     obtain⟨b,cs,n,q1,q2,q3,q4,q5,q6⟩:=hget0 k blk hk
     subst q2
     exact qqV q4 (hs1.blk b _ q3) (hσ0 k b q1) (fun _ _=>rfl) (fun _ h=>h) (fun _ _=>rfl) rfl
    ·intro k k' n hk hk'
     obtain⟨b,q1,q2⟩:=hown0 k n hk
     obtain⟨b',q3,q4⟩:=hown0 k' n hk'
     have:=hs1.inj b b' n q2 q4
     subst this
     have hlt:=qu q1
     exact(List.getElem?_inj hlt hnd).1 (q1.trans q3.symm)
    ·intro k n hk
     obtain⟨b,_,q2⟩:=hown0 k n hk
     exact hs1.notM b n q2
    ·exact hs1.ltM
    ·exact fun n hn=>hn
    ·exact fun n hn=>.inl hn
    ·rfl
    ·rfl
    ·rfl
    ·exact Nat.le_refl _
    ·intro _ _ _;rfl
    ·intro k hk
     have hk':k<hin.length:=by simpa[B0] using hk
     simp[B0,hk']
    ·intro k hk
     have hk':k<hin.length:=by simpa[B0] using hk
     obtain⟨b,cs,n,q1,q2,q3,q4,q5,q6⟩:=hget0 k _ (List.getElem?_eq_getElem hk')
     exact⟨cs,by rw[←q2];exact List.getElem?_eq_getElem hk',(qhs q4).1⟩
    ·intro k n hk hk2
     obtain⟨b,q1,_⟩:=hown0 k n hk
     have:k<hin.length:=by rw[k1];exact qu q1
     simp[B0] at hk2;omega
    ·intro p hp;cases hp
   have hent:Entry B0 X0:=⟨rfl,rfl,fun _ h=>h⟩
   have hgl:qbK E.glob X0:=by
    intro x hx
    obtain⟨⟨sh,l,i,off,he⟩,hr⟩:=hsim.glob x hx
    refine⟨⟨sh,l,i,off,he⟩,hr.move fz.ext.M fz.ext.w ?_⟩
    have h3:=hr.1.ext fz.ext
    rw[he] at h3 ⊢
    exact h3.noMen rfl (fun _ h=>h) (fun _ _=>rfl)
   have hmove:Move0 X1 X0 (qAl fp):=by
    refine⟨fun _ h=>h,fun _ _=>rfl,fun b k hb hk=>?_,rfl⟩
    have hfk:=qyg hk
    have hnv:∀sh m,¬X0.isVec k sh m:=by
     intro sh m ⟨e,l,q1,_⟩
     rcases q1 with q1|q1<;>obtain⟨_,_,_,_,q2,_,q4,_⟩:=hget0 k _ q1<;>subst q2<;>cases q4
    exact⟨by show k<hin.length;rw[k1];exact qu hfk,hσ0 k b hfk,fun sh m hv=>absurd hv (hnv sh m),fun sh m hv=>absurd hv (hnv sh m)⟩
   have hrep0:RepL X0 (AV.renL (qAl fp) (AV.lendL X1.h args)) vargs:=(qcx hs1 (hargs.ext fz.ext)).ren hmove
   have hcalls:=hG.2 B0 X0 _ vargs r0 hs0 hent hgl hrep0 h1
   have hw1:X0.w=X.w:=fz.w
   rw[hw1] at hcalls
   refine hcalls.mono fun e w' ⟨v,X0',e1,e2,e3,e4,e5,e6⟩=>?_
   have hB0:B0.imps.length=fp.length:=by simp[B0,k1]
   have hσ0':∀(k b:Nat),fp[k]?=some b→X0'.σ k=X1.σ b:=by
    intro k b hk
    have hlt:=qu hk
    have:=e5.imps k (by rw[hB0];exact hlt)
    rw[this,←hσ0 k b hk]
    have hk':k<hin.length:=by omega
    simp[B0,hk']
   let X':Ctx:={ σ:=fun b=>if b<X1.h.length then X1.σ b else X0'.σ (fp.length+(b-X1.h.length)),h:=hh2++(r0.2.drop fp.length).map (Blk.ren (qos fp X1.h.length)),w:=X0'.w,M:=X0'.M,kept:=X1.kept,y:=X1.y }
   have hM01:∀n,X1.M n→X0'.M n:=fun n hn=>e5.M0 n hn
   have himp:∀n,some n∈B0.imps→∃(k b:Nat),fp[k]?=some b∧X1.own b n:=by
    intro n hn
    obtain⟨k,hk,hk2⟩:=List.mem_map.1 hn
    have hk':k<fp.length:=by rw[←k1];simpa using hk
    have hfk:fp[k]?=some fp[k]:=List.getElem?_eq_getElem hk'
    obtain⟨cs,n',q1,q2,q3,q4,q5⟩:=hcell k _ hfk
    rw[hσ0 k _ hfk,q4] at hk2;cases hk2
    exact⟨k,_,hfk,q5⟩
   have hkeep:∀n,n<X1.w.heap.size→(∀(k b:Nat),fp[k]?=some b→¬X1.own b n)→X0'.w.heap[n]?=X1.w.heap[n]?:=by
    intro n hn hno
    refine e5.frame n hn fun hm=>?_
    obtain⟨k,b,q1,q2⟩:=himp n hm
    exact hno k b q1 q2
   have hh2l:hh2.length=X1.h.length:=p1
   have hget':∀(b:Nat) (blk:Blk),X'.h[b]?=some blk →
     (b<X1.h.length∧b∉fp∧X1.h[b]?=some blk)∨(b<X1.h.length∧∃(k:Nat) (cs:Blk),fp[k]?=some b∧blk=cs∧X0'.h[k]?=some cs∧cs.plain=true) ∨
     (X1.h.length≤b∧∃k0,X0'.h[fp.length+(b-X1.h.length)]?=some k0∧blk=k0.ren (qos fp X1.h.length)):=by
    intro b blk hb
    have hb':(hh2++(r0.2.drop fp.length).map (Blk.ren (qos fp X1.h.length)))[b]?=some blk:=hb
    rcases Nat.lt_or_ge b X1.h.length with hlt|hge
    ·rw[List.getElem?_append_left (by omega)] at hb'
     by_cases hbf:b∈fp
     ·obtain⟨k,hk⟩:=List.getElem?_of_mem hbf
      obtain⟨cs,q1,q2,q3⟩:=p4 k b hk
      rw[q2] at hb';cases hb'
      exact .inr (.inl ⟨hlt,k,blk,hk,rfl,by rw[e4];exact q1,q3⟩)
     ·rw[p3 b hbf] at hb'
      exact .inl ⟨hlt,hbf,hb'⟩
    ·rw[List.getElem?_append_right (by omega),List.getElem?_map,List.getElem?_drop] at hb'
     refine .inr (.inr ⟨hge,?_⟩)
     rw[hh2l] at hb'
     cases hq:r0.2[fp.length+(b-X1.h.length)]? with
     | none=>rw[hq] at hb';cases hb'
     | some k0=>
      rw[hq] at hb'
      simp only[Option.map_some,Option.some.injEq] at hb'
      exact⟨k0,by rw[e4];exact hq,hb'.symm⟩
   have hσlt:∀b,b<X1.h.length→X'.σ b=X1.σ b:=fun b hb=>by show (if b<X1.h.length then _ else _)=_;rw[if_pos hb]
   have hσge:∀b,X1.h.length≤b→X'.σ b=X0'.σ (fp.length+(b-X1.h.length)):=fun b hb=>by show (if b<X1.h.length then _ else _)=_;rw[if_neg (by omega)]
   have hnotin:∀b n,b∉fp→X1.own b n→∀(k b':Nat),fp[k]?=some b'→¬X1.own b' n:=by
    intro b n hb ho k b' hk ho'
    exact hb (hs1.inj b b' n ho ho'▸List.mem_of_getElem? hk)
   have hMnot:∀n,X1.M n→∀(k b':Nat),fp[k]?=some b'→¬X1.own b' n:=fun n hn k b' _ ho=>hs1.notM b' n ho hn
   have hsz:=e5.size
   have hback:Move0 X0' X' (qos fp X1.h.length):=by
    refine⟨fun _ h=>h,fun _ _=>rfl,fun k b hk hf=>?_,e6.symm⟩
    simp only[qos] at hf
    by_cases hlt:k<fp.length
    ·rw[if_pos hlt] at hf
     have hbl:=hfpl b (List.mem_of_getElem? hf)
     have hnv:∀sh m,¬X'.isVec b sh m:=by
      intro sh m ⟨e,l,q1,_⟩
      rcases q1 with q1|q1<;>rcases hget' b _ q1 with⟨_,h3,_⟩|⟨_,_,_,_,h3,_,h3p⟩|⟨h3,_⟩ <;>
       first|omega|exact absurd (List.mem_of_getElem? hf) h3|(subst h3;cases h3p)
     exact⟨by show b<List.length (_++_);simp;omega,by rw[hσlt b hbl,hσ0' k b hf],fun sh m hv=>absurd hv (hnv sh m),fun sh m hv=>absurd hv (hnv sh m)⟩
    ·rw[if_neg hlt] at hf;cases hf
     have hk2:k<r0.2.length:=by rw[←e4];exact hk
     have hidx:fp.length+(X1.h.length+(k-fp.length)-X1.h.length)=k:=by omega
     refine⟨?_,?_,fun sh m ⟨e,l,q1,q2⟩=>?_,fun sh m _ n hn c T fr hc=>⟨c,T,fr,hc,rfl⟩⟩
     ·show _<List.length (_++_);simp;omega
     ·rw[hσge _ (by omega),hidx]
     ·rcases q1 with q1|q1<;>rcases hget' _ _ q1 with⟨h3,_⟩|⟨h3,_⟩|⟨_,k0,h3,h4⟩<;>first|omega|skip
      ·rw[hidx] at h3
       rcases ql4 (.inl h4) with rfl|rfl
       ·exact⟨e,l,.inl h3,q2⟩
       ·exact⟨e,l,.inr h3,q2⟩
      ·rw[hidx] at h3
       rcases ql4 (.inr h4) with rfl|rfl
       ·exact⟨e,l,.inl h3,q2⟩
       ·exact⟨e,l,.inr h3,q2⟩
   have hext:Ext X1 X':=by
    refine Move.of hM01 (fun ad had=>World.cell?_of_block (hkeep _ (hs1.ltM _ had) (hMnot _ had))) (fun b b' hb hf=>?_)
    cases hf
    have hvec:∀sh m,X'.isVec b sh m→b∉fp∧X1.isVec b sh m:=by
     intro sh m ⟨e,l,q1,q2⟩
     rcases q1 with q1|q1<;>rcases hget' b _ q1 with⟨_,h3,h4⟩|⟨_,_,_,_,h3,_,h3p⟩|⟨h3,_⟩<;>first|omega|(subst h3;cases h3p;done)|skip
     ·exact⟨h3,e,l,.inl h4,q2⟩
     ·exact⟨h3,e,l,.inr h4,q2⟩
    refine⟨by show _<List.length (_++_);simp;omega,hσlt b hb,fun sh m hv=>(hvec sh m hv).2,fun sh m hv n hn c T fr hc=>⟨c,T,fr,?_,rfl⟩⟩
    obtain⟨h3,e,l,h4,_⟩:=hvec sh m hv
    refine(hkeep n (Array.getElem?_eq_some_iff.1 hc).1 ?_).trans hc
    rcases h4 with h4|h4
    ·exact hnotin b n h3 ⟨hn,_,h4,rfl⟩
    ·rcases hs1.blk b _ h4 with⟨h5,_⟩|⟨n',c',h5,_,_,h6⟩
     ·rw[hn] at h5;cases h5
     ·rw[hn] at h5;cases h5;exact hMnot n h6
   have hown':∀(b n:Nat),X'.own b n→(b<X1.h.length∧X1.own b n)∨(X1.h.length≤b∧X0'.own (fp.length+(b-X1.h.length)) n):=by
    intro b n ⟨q1,blk,q2,q3⟩
    rcases hget' b blk q2 with⟨h3,_,h4⟩|⟨h3,k,cs,h4,h5,_,_⟩|⟨h3,k0,h4,h5⟩
    ·exact .inl ⟨h3,by rw[←hσlt b h3];exact q1,blk,h4,q3⟩
    ·obtain⟨cs',n',w1,_,_,w4,w5⟩:=hcell k b h4
     rw[hσlt b h3,w4] at q1;cases q1
     exact .inl ⟨h3,w5⟩
    ·subst h5
     exact .inr ⟨h3,by rw[←hσge b h3];exact q1,k0,h4,by rwa [Blk.mut_ren] at q3⟩
   have hnewge:∀k n,fp.length≤k→X0'.own k n→X1.w.heap.size≤n:=fun k n hk ho=>e5.fresh k n ho (by rw[hB0];exact hk)
   have hs':HSim B X':=by
    constructor
    ·intro b blk hb
     rcases hget' b blk hb with⟨h3,h4,h5⟩|⟨h3,k,cs,h4,h5,h6,h7⟩|⟨h3,k0,h4,h5⟩
     ·by_cases hd:blk=.dead
      ·subst hd;trivial
      ·refine yt.ext hext (hσlt b h3) (fun n hn=>hkeep n (hs1.lt h5 hd hn) ?_) (hs1.blk b blk h5)
       by_cases hm1:blk.mut=true
       ·exact hnotin b n h4 ⟨hn,blk,h5,hm1⟩
       ·cases blk with
        | cells=>exact absurd rfl hm1
        | big=>exact absurd rfl hm1
        | vec=>exact absurd rfl hm1
        | dead=>exact absurd rfl hd
        | frz e sh l=>
         rcases hs1.blk b _ h5 with⟨h6,_⟩|⟨n',c',h6,_,_,h7⟩
         ·rw[hn] at h6;cases h6
         ·rw[hn] at h6;cases h6;exact hMnot n h7
     ·subst h5
      exact qqV h7 (e5.blk k _ h6) (by rw[hσlt b h3,←hσ0' k b h4]) (fun _ _=>rfl) (fun _ h=>h) (fun _ _=>rfl) e6.symm
     ·subst h5
      exact yt.move hback (hσge b h3) (fun _ _=>rfl) (e5.blk _ k0 h4)
    ·intro b b' n h3 h4
     rcases hown' b n h3 with⟨w1,w2⟩|⟨w1,w2⟩<;>rcases hown' b' n h4 with⟨w3,w4⟩|⟨w3,w4⟩
     ·exact hs1.inj b b' n w2 w4
     ·have:=hnewge _ n (by omega) w4
      have:=Ctx.own.lt hs1 w2
      omega
     ·have:=hnewge _ n (by omega) w2
      have:=Ctx.own.lt hs1 w4
      omega
     ·have:=e5.inj _ _ n w2 w4;omega
    ·intro b n h3 h4
     rcases hown' b n h3 with⟨w1,w2⟩|⟨w1,w2⟩
     ·rcases e5.newM n h4 with h5|h5
      ·exact hs1.notM b n w2 h5
      ·have h6:X1.w.heap.size≤n:=h5
       have:=Ctx.own.lt hs1 w2
       omega
     ·exact e5.notM _ n w2 h4
    ·exact e5.ltM
    ·exact fun n hn=>hM01 n (hs1.M0 n hn)
    ·intro n hn
     rcases e5.newM n hn with h5|h5
     ·exact hs1.newM n h5
     ·have h6:X1.w.heap.size≤n:=h5
      have:=hs1.size
      exact .inr (by omega)
    ·exact e5.os.trans hs1.os
    ·exact e5.tape.trans hs1.tape
    ·exact e5.output.trans hs1.output
    ·have h6:X1.w.heap.size≤X0'.w.heap.size:=hsz
     have:=hs1.size
     show B.w0.heap.size≤X0'.w.heap.size
     omega
    ·intro n hn hni
     have h6:=hs1.size
     have:X0'.w.heap[n]?=X1.w.heap[n]?:=by
      refine hkeep n (by omega) fun k b hk ho=>?_
      rcases Nat.lt_or_ge b B.imps.length with hlt|hge
      ·have h7:=hs1.imps b hlt
       rw[ho.1,List.getElem?_eq_getElem hlt] at h7
       simp at h7
       exact hni (h7▸List.getElem_mem hlt)
      ·have:=hs1.fresh b n ho hge;omega
     exact this.trans (hs1.frame n hn hni)
    ·intro b hb
     have:=hs1.hlen
     rw[hσlt b (by omega)];exact hs1.imps b hb
    ·intro b hb
     have:=hs1.hlen
     obtain⟨cs,h3,h3s⟩:=hs1.impc b hb
     by_cases hbf:b∈fp
     ·obtain⟨k,hk⟩:=List.getElem?_of_mem hbf
      obtain⟨cs',q1,q2,q3⟩:=p4 k b hk
      exact⟨cs',by show (_++_)[b]?=_;rw[List.getElem?_append_left (by omega)];exact q2,(qhs q3).1⟩
     ·exact⟨cs,by show (_++_)[b]?=_;rw[List.getElem?_append_left (by omega),p3 b hbf];exact h3,h3s⟩
    ·intro b n h3 h4
     rcases hown' b n h3 with⟨w1,w2⟩|⟨w1,w2⟩
     ·exact hs1.fresh b n w2 h4
     ·have:=hnewge _ n (by omega) w2
      have:=hs1.size
      omega
    ·intro p hp
     obtain⟨q1,q2,q3⟩:=hs1.kept p hp
     refine⟨(hkeep p.1 (Array.getElem?_eq_some_iff.1 q1).1 fun k b _ ho=>?_).trans q1,q2,q3⟩
     obtain⟨c,T,fr,hc⟩:=ho.cells hs1
     rw[hc] at q1
     exact q2 _ _ _ (Option.some.inj q1).symm
   exact⟨v,X',e1,e2,e3.ren hback,(hsim.ext fz.ext hs1).ext hext hs'⟩
end Go.Eng

namespace Go.Eng
def ul(h:List Blk):Tree Res→Prop
 | .leaf r=>r.2=(h,none)
 | .br _ t e=>ul h t∧ul h e
 | .fail=>True
theorem ul.run{h:List Blk}{t:Tree Res}{r:Res}(ht:ul h t)(hr:t.run=some r):r.2=(h,none):=by
 induction t with
 | leaf x=>cases hr;exact ht
 | br b t e iht ihe=>cases b<;>simp only[Tree.run] at hr<;>first|exact iht ht.1 hr|exact ihe ht.2 hr
 | fail=>cases hr
theorem qjO(h:List Blk)(k:IntKind)(f:Int→Int→Int)(l:Bool)(x y:Int):ul h (q5M h k f l x y):=by unfold q5M;split<;>rfl
theorem qv1(h:List Blk)(f:Int→Int→Bool)(l:Bool)(x y:Int):ul h (qxL h f l x y):=by unfold qxL;split<;>rfl
theorem qxj(E:Env)(h:List Blk)(t:TypeId)(p:AV):ul h (qeh E h t p):=by
 unfold qeh
 dsimp only
 repeat' (first|exact rfl|exact trivial|split)
theorem qwf(E:Env)(h:List Blk)(t:TypeId)(ps:List (Nat×AV)):ul h (qf5 E h t ps):=by
 unfold qf5
 repeat' (first|exact rfl|exact trivial|split)
theorem qvt(E:Env)(h:List Blk)(t:TypeId)(p:AV):ul h (qb4 E h t p):=by
 unfold qb4 qAf
 repeat' (first|exact qxj _ _ _ _|exact rfl|exact trivial|exact⟨rfl,trivial⟩|split)
theorem qtY(E:Env)(h:List Blk)(t:TypeId)(ps:List (Nat×AV)):ul h (qav E h t ps):=by
 unfold qav
 repeat' (first|exact qwf _ _ _ _|exact rfl|exact trivial|split)
theorem qnb(E:Env)(h:List Blk)(s:TypeId)(x:AV)(f:Nat):ul h (q1Z E h s x f):=by
 unfold q1Z
 repeat' (first|exact rfl|exact trivial|split)
theorem qqW(E:Env)(h:List Blk)(t:TypeId)(cs:List AV)(o:Nat):ul h (qh0 E h t cs o):=by
 unfold qh0
 repeat' (first|exact rfl|exact trivial|split)
theorem qw0(E:Env)(h:List Blk)(s:TypeId)(x:AV)(f:Nat):ul h (qfq E h s x f):=by
 unfold qfq
 repeat' (first|exact rfl|exact trivial|exact qqW _ _ _ _ _|split)
theorem qjT(h:List Blk)(i:Int)(f:Nat→AV):∀n,ul h (qeJ h i f n)
 | 0=>trivial
 | n+1=>⟨rfl,qjT h i f n⟩
theorem qoy(E:Env)(h:List Blk)(t:TypeId)(x i:AV):ul h (yQ E h t x i):=by
 unfold yQ
 repeat' (first|exact qjT _ _ _ _|exact rfl|exact trivial|exact⟨rfl,trivial⟩|split)
theorem qmx(E:Env)(h:List Blk)(t:TypeId)(x i:AV):ul h (q0k E h t x i):=by
 unfold q0k
 repeat' (first|exact qoy _ _ _ _ _|exact rfl|exact trivial|exact⟨rfl,trivial⟩|split)
theorem qvF(E:Env)(h:List Blk)(t:TypeId)(x i:AV):ul h (qfH E h t x i):=by
 unfold qfH
 repeat' (first|exact rfl|exact trivial|exact⟨rfl,trivial⟩|exact qqW _ _ _ _ _|split)
theorem qAa(d:TD)(h:List Blk)(op:BinOp)(x y:AV):ul h (quq d h op x y):=by
 unfold quq
 repeat' (first|exact rfl|exact trivial|exact qjO _ _ _ _ _ _|exact qv1 _ _ _ _ _|exact⟨rfl,trivial⟩|exact⟨qjO _ _ _ _ _ _,trivial⟩|split)
theorem quG(E:Env)(h:List Blk)(op:BinOp)(t:TypeId)(x y:AV):ul h (qhI E h op t x y):=by
 unfold qhI
 split
 ·unfold qno
  repeat' (first|exact rfl|exact trivial|split)
 ·exact qAa _ _ _ _ _
theorem qBL(h:List Blk)(op:UnOp)(x:AV):ul h (qCP h op x):=by
 unfold qCP
 repeat' (first|exact rfl|exact trivial|split)
theorem qxo(E:Env)(h:List Blk)(s d:TypeId)(x:AV):ul h (qlD E h s d x):=by
 unfold qlD
 repeat' (first|exact rfl|exact trivial|split)
theorem quU(E:Env)(h:List Blk)(s d:TypeId)(x:AV):ul h (qeQ E h s d x):=by
 unfold qeQ
 split
 ·split
  ·unfold qmY
   repeat' (first|exact rfl|exact trivial|split)
  ·trivial
 ·exact qxo _ _ _ _ _
theorem qAi(E:Env)(h:List Blk)(ts:List TypeId)(azz:List AV):ul h (qnm E h ts azz):=by
 unfold qnm
 split
 ·unfold qzS
  repeat' (first|exact rfl|exact trivial|split)
 ·trivial
theorem qx5(f:Int→Int→Int)(h:List Blk)(azz:List AV):ul h (qrD f h azz):=by
 unfold qrD
 repeat' (first|exact rfl|exact trivial|split)
theorem qvO{E:Env}{t:TypeId}(ht:(E.ty t).d=.str)(h:List Blk)(x:AV)(lo hi mx:Option AV):ul h (qb9 E h t x lo hi mx):=by
 unfold qb9
 rw[ht]
 cases mx with
 | some _=>trivial
 | none=>
  cases x<;>first|trivial|skip
  simp only
  split
  ·exact⟨⟨rfl,trivial⟩,trivial⟩
  ·trivial
theorem qux{E:Env}{t:TypeId}(ht:(E.ty t).d=.str)(h:List Blk)(x:AV)(lo hi mx:Option AV):ul h (yV E h t x lo hi mx):=by
 unfold yV
 rw[ht]
 exact qvO ht _ _ _ _ _
theorem qul{E:Env}{t:TypeId}{n:Nat}{e:TypeId}{es:Nat}(ht:(E.ty t).d=.array n e es)(h:List Blk)(x:AV)(lo hi mx:Option AV):ul h (yV E h t x lo hi mx):=by
 unfold yV
 rw[ht]
 simp only
 unfold qAW
 repeat' (first|exact rfl|exact trivial|exact⟨⟨rfl,trivial⟩,trivial⟩|split)
theorem qt9{E:Env}{t:TypeId}{e:TypeId}{es:Nat}(ht:(E.ty t).d=.slice e es)(h:List Blk)(x:AV)(lo hi:Option AV){mx:Option AV}(hm:mx.isSome=true):ul h (yV E h t x lo hi mx):=by
 unfold yV
 rw[ht]
 simp only
 unfold qb9
 cases mx with
 | none=>cases hm
 | some m=>
  simp only
  rw[ht]
  repeat' (first|exact rfl|exact trivial|exact⟨⟨⟨rfl,trivial⟩,trivial⟩,trivial⟩|split)
theorem qqF{E:Env}{h:List Blk}{ev:Operand→AV}{op:Op}(hs:qbA E op=true){r:Res}(hr:(qlZ E h ev op).run=some r):r.2=(h,none):=by
 have key:ul h (qlZ E h ev op):=by
  unfold qlZ
  cases op<;>simp only[qbA] at hs<;>try (cases hs)
  case move=>rfl
  case assign=>rfl
  case pick=>simp only;split<;>first|rfl|exact⟨rfl,rfl⟩|trivial
  case build=>exact qtY _ _ _ _
  case load=>exact qvt _ _ _ _
  case nilCheck=>simp only;repeat' (first|exact rfl|exact⟨rfl,trivial⟩|exact trivial|split)
  case binOp=>exact quG _ _ _ _ _ _
  case unOp=>exact qBL _ _ _
  case convert=>exact quU _ _ _ _ _
  case makeFunc fn _ _=>cases fn<;>first|rfl|trivial
  case slice t x lo hi mx=>
   split at hs
   ·rename_i ht;exact qux ht _ _ _ _ _
   ·rename_i ht;exact qul ht _ _ _ _ _
   ·rename_i ht;exact qt9 ht _ _ _ _ (by simpa using hs)
   ·cases hs
  case fieldAddr=>exact qnb _ _ _ _ _
  case field=>exact qw0 _ _ _ _ _
  case indexAddr=>exact qmx _ _ _ _ _
  case index=>exact qvF _ _ _ _ _
  case extract=>simp only;repeat' (first|exact rfl|exact trivial|split)
  case call c=>
   obtain⟨callee,args,tys⟩:=c
   cases callee with
   | builtin b=>
    cases b<;>simp only at hs<;>try (cases hs)
    ·exact qAi _ _ _ _
    ·exact qx5 _ _ _
    ·exact qx5 _ _ _
   | value x=>simp only at hs;cases hs
   | invoke x n=>simp only at hs;cases hs
 exact key.run hr
end Go.Eng

namespace Go.Eng
theorem qrC{E:Env}{callS:q8Y}{h:List Blk}{f g:Operand→AV}{op:Op}(hfg:∀x∈op.operands.toList,f x=g x):q8Z E callS h f op=q8Z E callS h g op:=by
 have hmap:∀(l:List Operand),(∀x∈l,x∈op.operands.toList)→l.map f=l.map g:=fun l hl=>List.map_congr_left fun x hx=>hfg x (hl x hx)
 have hop:qbA E op=true→qlZ E h f op=qlZ E h g op:=by
  intro hst
  unfold qlZ
  cases op<;>simp only[qbA] at hst<;>try (cases hst)
  case move x=>simp only;rw[hfg x (by simp[Op.operands])]
  case assign x=>simp only;rw[hfg x (by simp[Op.operands])]
  case pick c a b=>simp only;rw[hfg c (by simp[Op.operands]),hfg a (by simp[Op.operands]),hfg b (by simp[Op.operands])]
  case build t ps=>
   simp only
   have:(ps.toList.map fun p=>(p.1,f p.2))=ps.toList.map fun p=>(p.1,g p.2):=List.map_congr_left fun p hp=>by
    rw[hfg p.2 (by simp only[Op.operands];exact List.mem_map_of_mem hp)]
   rw[this]
  case load t a=>simp only;rw[hfg a (by simp[Op.operands])]
  case nilCheck a=>simp only;rw[hfg a (by simp[Op.operands])]
  case binOp o t x y ty=>simp only;rw[hfg x (by simp[Op.operands]),hfg y (by simp[Op.operands])]
  case unOp o t x=>simp only;rw[hfg x (by simp[Op.operands])]
  case convert s d x=>simp only;rw[hfg x (by simp[Op.operands])]
  case makeFunc fn a b=>
   cases fn<;>simp only
   rw[hmap a.toList (fun x hx=>by simp only[Op.operands,Array.toList_append];exact List.mem_append_left _ hx),hmap b.toList (fun x hx=>by simp only[Op.operands,Array.toList_append];exact List.mem_append_right _ hx)]
  case slice t x lo hi mx=>
   simp only
   have hlo:∀y,lo=some y→f y=g y:=fun y hy=>hfg y (by subst hy;simp[Op.operands])
   have hhi:∀y,hi=some y→f y=g y:=fun y hy=>hfg y (by subst hy;simp[Op.operands])
   have hmx:∀y,mx=some y→f y=g y:=fun y hy=>hfg y (by subst hy;simp[Op.operands])
   have e1:lo.map f=lo.map g:=by
    cases lo with
    | none=>rfl
    | some y=>exact congrArg some (hlo y rfl)
   have e2:hi.map f=hi.map g:=by
    cases hi with
    | none=>rfl
    | some y=>exact congrArg some (hhi y rfl)
   have e3:mx.map f=mx.map g:=by
    cases mx with
    | none=>rfl
    | some y=>exact congrArg some (hmx y rfl)
   rw[e1,e2,e3,hfg x (by simp[Op.operands])]
  case fieldAddr s x i=>simp only;rw[hfg x (by simp[Op.operands])]
  case field s x i=>simp only;rw[hfg x (by simp[Op.operands])]
  case indexAddr t x i=>simp only;rw[hfg x (by simp[Op.operands]),hfg i (by simp[Op.operands])]
  case index t x i=>simp only;rw[hfg x (by simp[Op.operands]),hfg i (by simp[Op.operands])]
  case extract x i=>simp only;rw[hfg x (by simp[Op.operands])]
  case call c=>
   obtain⟨callee,args,tys⟩:=c
   cases callee with
   | builtin b=>
    simp only
    rw[hmap args.toList (fun x hx=>by simpa[Op.operands,Call.operands] using hx)]
   | value x=>simp only at hst;cases hst
   | invoke x n=>simp only at hst;cases hst
 unfold q8Z
 split
 ·rename_i x args tys
  rw[hfg x (by simp[Op.operands,Call.operands]),hmap args.toList (fun y hy=>by simp only[Op.operands,Call.operands,Array.toList_append];exact List.mem_append_right _ hy)]
 ·split
  ·rename_i hst;rw[hop hst]
  ·rfl
def qie(E:Env)(P:Program)(callS:List Blk→q8Y):Prop:=
 ∀(f:FuncId) (args:List AV) (st:St) (v:AV) (B:Base) (X:Ctx) (a:Act) (vargs:List Value),Sim E B X st a→RepL X args vargs→(callS st.h f args).run=some v →
  (∀w,(callFunc f vargs.toArray).run P w=.ok (.enter f vargs.toArray) w) ∧
  Calls P f vargs.toArray X.w fun e w'=>∃u X',e=.returned u∧X'.w=w'∧Rep X' v u∧Sim E B X' st a
def Blk.isFrzB:Blk→Bool
 | .frz _ _ _=>true
 | _=>false
def q9s(E:Env)(callS:List Blk→q8Y):Prop:=∀(h h':List Blk) (f:FuncId) (args:List AV),(qhn E f).isSome=true→(∀b,b∈AV.menL args→h'[b]?=h[b]?)→callS h' f args=callS h f args
def Env.specs(E:Env)(P:Program):Prop:=∀x,x∈E.spec→zb P E.glob x.1 x.2
theorem qgI:∀(l:List Nat) (h:List Blk),l.all (qrO h)=true→zr h l=h
 | [],_,_=>rfl
 | b::l,h,hl=>by
  simp only[List.all_cons,Bool.and_eq_true] at hl
  have:vP h b=h:=by
   unfold vP
   have:=hl.1
   unfold qrO at this
   split at this
   ·rename_i hb;rw[hb]
   ·cases this
  simp only[zr,this]
  exact qgI l h hl.2
theorem qr5{E:Env}{P:Program}(hS:E.specs P):qie E P (q8I E):=by
 intro f args st v B X a vargs hsim hargs h
 unfold q8I at h
 cases hf:E.spec.find? fun x=>x.1==f with
 | none=>rw[hf] at h;cases h
 | some G=>
  rw[hf] at h
  have hG:=hS G (List.mem_of_find?_eq_some hf)
  have hfe:G.1=f:=by simpa using List.find?_some hf
  simp only at h
  split at h
  ·rename_i hc
   obtain⟨r,h1,h2⟩:=bind_some h
   have hr2:r.2=[]∧(r.1.men)=[]∧v=r.1:=by
    split at h2
    ·rename_i he
     split at h2
     ·rename_i hm;cases h2;exact⟨he,by simpa using hm,rfl⟩
     ·cases h2
    ·cases h2
   obtain⟨q1,q2,rfl⟩:=hr2
   have hfz:zr st.h (args.flatMap jO)=st.h:=qgI _ _ hc.1
   have hmen:AV.menL (AV.lendL st.h args)=[]:=by simpa using hc.2
   have hcs:(q2E G.2 args st).run=some (r.1,st):=by
    unfold q2E
    have hpr:q4R st.h args=st.h:=by
     unfold q4R
     simp only[hfz,hmen,qak,zr,qgM]
    simp only[hpr,hmen,qjB,q5s]
    rw[AV.renL_of_men _ _ hmen,Tree.run_bind,h1]
    simp only[Option.bind_some,yb,q1,List.length_nil,List.drop_nil,List.map_nil,List.append_nil]
    rw[AV.ren_of_men _ _ q2]
    rfl
   rw[hfe] at hG
   refine⟨hG.1 _,?_⟩
   exact qbp hG hsim hargs hcs
  ·cases h
theorem qrV{E:Env}{P:Program}(hE:E.tok P){callS:List Blk→q8Y}(hc:qie E P callS){B:Base}{X:Ctx}{st:St}{a:Act}(hs:Sim E B X st a){o:Oper}{av:AV}
  (h:(q8Z E (callS st.h) st.h (E.opd st.t) o.op).run=some av) {next:Act→World→Prop} {Q:Exit→Act→World→Prop}
  (hq:∀X' v,Sim E B X' st a→Rep X' av v→next (a.put o.dst v) X'.w):o.wp P a X.w next Q:=by
 unfold q8Z at h
 split at h
 ·rename_i x args tys hop
  cases hx:E.opd st.t x with
  | fn f first caps=>
   rw[hx] at h
   have hv:=q7t hs x
   rw[hx] at hv
   generalize hev:a.eval x=vx at hv
   cases hv with
   | fn _ _ _ vf vc q1 q2=>
    have hargs:=q74 hs args.toList
    have hall:RepL X (first++args.toList.map (E.opd st.t)++caps) (vf++args.toList.map a.eval++vc):=(q1.append hargs).append q2
    obtain⟨g1,g2⟩:=hc f _ st av B X a _ hs hall h
    unfold Oper.wp
    have hrun:(execOp a.eval o).run P X.w=.ok (.enter f (vf++args.toList.map a.eval++vc).toArray) X.w:=by
     simp only[execOp,hop,resolve,hev,Deferred.ofValue,Sem.run_bind,Sem.run_pure,Result.andThen_ok,invoke]
     have:vf.toArray++args.map a.eval++vc.toArray=(vf++args.toList.map a.eval++vc).toArray:=by
      apply Array.ext';simp
     rw[this]
     exact g1 X.w
    rw[hrun]
    refine g2.mono fun e w' ⟨v,X',e1,e2,e3,e4⟩=>?_
    subst e1 e2
    exact hq X' _ e4 e3
  | _=>rw[hx] at h;cases h
 ·split at h
  ·rename_i hst
   obtain⟨r,h1,h2⟩:=bind_some h
   cases h2
   have hr2:=qqF hst h1
   obtain⟨nx,v,X',g1,g2,g3,g4,g5⟩:=qoD hE hs h1
   have hrn:r.2.2=none:=by rw[hr2]
   rw[hrn] at g5
   have hXh:X'.h=st.h:=by rw[g5.1,hr2]
   have hs':Sim E B X' st a:=by
    have:=hs.ext g5.2 g4
    rw[hXh] at this
    exact this
   unfold Oper.wp
   rw[g1]
   rcases g2 with rfl|⟨rfl,rfl⟩
   ·exact hq X' _ hs' g3
   ·exact hq X' _ hs' g3
  ·cases h
theorem Sim.drawn{E:Env}{B:Base}{X:Ctx}{st:St}{a:Act}(hs:Sim E B X st a)(n:Nat):Sim E B { X with w:={ X.w with drawn:=n } } st a:=by
 have hx:Ext X { X with w:={ X.w with drawn:=n } }:=
  Move.of (fun _ h=>h) (fun _ _=>rfl) (fun b b' hb h=>by cases h;exact⟨hb,rfl,fun _ _ h=>h,fun _ _ _ _ _ c T fr h=>⟨c,T,fr,h,rfl⟩⟩)
 have h0:=hs.hs
 have hs':HSim B { X with w:={ X.w with drawn:=n } }:=
  ⟨fun b k hk=>yt.ext hx rfl (fun _ _=>rfl) (h0.blk b k hk),h0.inj,h0.notM,h0.ltM,h0.M0,h0.newM,h0.os,h0.tape,h0.output,h0.size,h0.frame,h0.imps,h0.impc,h0.fresh,h0.kept⟩
 have:=hs.ext hx hs'
 have e:({ st with h:=X.h }:St)=st:=by rw[hs.h]
 exact e▸this
end Go.Eng

namespace Go.Eng
def qvo(all:Array Oper)(k:Nat)(v:AV):AV:=if qv0 all k then (match v with|.bool b=>.blit b|v=>v) else v
theorem qu7{X:Ctx}{all:Array Oper}{k:Nat}{v:AV}{u:Value}(h:Rep X v u):Rep X (qvo all k v) u:=by
 unfold qvo
 split
 ·cases h with
  | bool b=>exact .blit b
  | undef=>exact .undef _
  | skip=>exact .skip
  | yld=>exact .yld
  | blit b=>exact .blit b
  | ilit k n=>exact .ilit k n
  | int k n=>exact .int k n
  | str s=>exact .str s
  | nilp=>exact .nilp
  | ptr b off n h1 h2=>exact .ptr b off n h1 h2
  | eptr sh l i off a h1 h2 h3 h4=>exact .eptr sh l i off a h1 h2 h3 h4
  | mnil sh l i off=>exact .mnil sh l i off
  | mptr sh l i off a h1 h2 h3 h4=>exact .mptr sh l i off a h1 h2 h3 h4
  | vptr b i off n k h1 h2 h3=>exact .vptr b i off n k h1 h2 h3
  | vsub b i n k m c h1 h2 h3=>exact .vsub b i n k m c h1 h2 h3
  | aptr b o i n h1 h2 h3=>exact .aptr b o i n h1 h2 h3
  | asub b o N i m n k c h1 h2 h3 h4 h5 h6=>exact .asub b o N i m n k c h1 h2 h3 h4 h5 h6
  | nils=>exact .nils
  | imm sh l _ h=>exact .imm sh l _ h
  | full sh l p n h=>exact .full sh l p n h
  | vec b p n c h1 h2=>exact .vec b p n c h1 h2
  | nilf=>exact .nilf
  | fn f a b c d h1 h2=>exact .fn f a b c d h1 h2
  | agg cs vs h=>exact .agg cs vs h
  | tuple cs vs h=>exact .tuple cs vs h
  | bagg cs k n l vs h hl=>exact .bagg cs k n l vs h hl
 ·exact h
theorem qz5{all:Array Oper}{k:Nat}{o:Oper}{st st':St}{v:AV}(h:(qpi all k o { st with t:=qgr st.t o.dst v }).run=some st') :
  st'={ st with t:=qgr st.t o.dst (qvo all k v) }:=by
 unfold qpi at h
 unfold qvo
 by_cases hg:qv0 all k=true
 ·rw[if_pos hg] at h ⊢
  cases hd:o.dst with
  | none=>rw[hd] at h;cases h;rfl
  | some d=>
   rw[hd] at h
   simp only[qgr] at h ⊢
   rcases Nat.lt_or_ge d st.t.length with hlt|hge
   ·rw[List.getElem?_set_self hlt] at h
    cases v<;>simp only at h<;>try (cases h;rfl)
    rename_i b
    cases b<;>(cases h;simp[List.set_set])
   ·rw[List.set_eq_of_length_le hge] at h
    rw[List.getElem?_eq_none hge] at h
    cases h
    rw[List.set_eq_of_length_le hge]
 ·rw[if_neg hg] at h ⊢
  cases h;rfl
def qbI(V:Nat→AV):Nat→List Oper→List AV→List AV
 | _,[],t=>t
 | k,o::rest,t=>qbI V (k+1) rest (qgr t o.dst (V k))
theorem qnS{V W:Nat→AV}:∀(l:List Oper) (k:Nat) (t:List AV),(∀j,k≤j→V j=W j)→qbI V k l t=qbI W k l t
 | [],_,_,_=>rfl
 | o::l,k,t,h=>by
  simp only[qbI]
  rw[h k (Nat.le_refl _)]
  exact qnS l (k+1) _ fun j hj=>h j (by omega)
section
variable (dst:Nat→Option Tmp) (V:Nat→AV) (T0:List AV)
def TLp(L:Nat→Bool):Nat→List AV
 | 0=>T0
 | m+1=>if L m then qgr (TLp L m) (dst m) (V m) else TLp L m
variable {dst V T0}
theorem qwb(t:List AV)(d:Option Tmp)(v:AV):(qgr t d v).length=t.length:=by cases d<;>simp[qgr]
theorem qcr(L:Nat→Bool):∀m,(TLp dst V T0 L m).length=T0.length
 | 0=>rfl
 | m+1=>by simp only[TLp];split<;>simp[qwb,qcr L m]
theorem q7Z{L:Nat→Bool}{t:Tmp}:∀m,(∀j,j<m→L j=true→dst j≠some t)→(TLp dst V T0 L m)[t]?=T0[t]?
 | 0,_=>rfl
 | m+1,h=>by
  simp only[TLp]
  split
  ·rename_i hl
   have:=h m (Nat.lt_succ_self m) hl
   cases hd:dst m with
   | none=>exact q7Z m fun j hj=>h j (by omega)
   | some d=>
    rw[hd] at this
    simp only[qgr]
    rw[List.getElem?_set_ne (fun e=>this (by rw[e]))]
    exact q7Z m fun j hj=>h j (by omega)
  ·exact q7Z m fun j hj=>h j (by omega)
theorem qg9{L:Nat→Bool}{t:Tmp}{j:Nat}(hj:L j=true)(hd:dst j=some t):∀m,j<m→(∀k,k<m→k≠j→dst k≠some t) →
  (TLp dst V T0 L m)[t]?=if t<T0.length then some (V j) else none
 | 0,h,_=>by omega
 | m+1,h,hu=>by
  by_cases hm:j=m
  ·subst hm
   simp only[TLp,hj,if_true,hd,qgr]
   rw[List.getElem?_set]
   simp[qcr]
  ·simp only[TLp]
   split
   ·have:=hu m (Nat.lt_succ_self m) (fun e=>hm e.symm)
    cases hdm:dst m with
    | none=>exact qg9 hj hd m (by omega) fun k hk=>hu k (by omega)
    | some d=>
     rw[hdm] at this
     simp only[qgr]
     rw[List.getElem?_set_ne (fun e=>this (by rw[e]))]
     exact qg9 hj hd m (by omega) fun k hk=>hu k (by omega)
   ·exact qg9 hj hd m (by omega) fun k hk=>hu k (by omega)
theorem qD8{L:Nat→Bool}{i n:Nat}(hi:i<n)(hL:L i=false)(hu:∀k,k<n→k≠i→∀t,dst i=some t→dst k≠some t) :
  TLp dst V T0 (fun j=>if j=i then true else L j) n=qgr (TLp dst V T0 L n) (dst i) (V i):=by
 apply List.ext_getElem?
 intro t
 cases hd:dst i with
 | none=>
  simp only[qgr]
  by_cases hex:∃j,j<n∧L j=true∧dst j=some t
  ·
   clear hex
   have:∀m,m≤n→TLp dst V T0 (fun j=>if j=i then true else L j) m=TLp dst V T0 L m:=by
    intro m
    induction m with
    | zero=>intro _;rfl
    | succ m ih=>
     intro hm
     simp only[TLp]
     by_cases hmi:m=i
     ·subst hmi;rw[ih (by omega)];simp[hL,hd,qgr]
     ·rw[ih (by omega)];simp[hmi]
   rw[this n (Nat.le_refl _)]
  ·have h1:∀j,j<n→L j=true→dst j≠some t:=fun j hj hl he=>hex ⟨j,hj,hl,he⟩
   rw[q7Z n h1]
   refine q7Z n fun j hj hl he=>?_
   by_cases hji:j=i
   ·subst hji;rw[hd] at he;cases he
   ·simp[hji] at hl;exact h1 j hj hl he
 | some d=>
  simp only[qgr]
  by_cases htd:t=d
  ·subst htd
   rw[qg9 (j:=i) (by simp) hd n hi (fun k hk hki=>hu k hk hki t hd),List.getElem?_set]
   simp[qcr]
  ·rw[List.getElem?_set_ne (fun e=>htd e.symm)]
   have:∀m,m≤n→(TLp dst V T0 (fun j=>if j=i then true else L j) m)[t]?=(TLp dst V T0 L m)[t]?:=by
    intro m
    induction m with
    | zero=>intro _;rfl
    | succ m ih=>
     intro hm
     simp only[TLp]
     by_cases hmi:m=i
     ·subst hmi
      simp only[if_true,hL,Bool.false_eq_true,if_false,hd,qgr]
      rw[List.getElem?_set_ne (fun e=>htd e.symm)]
      exact ih (by omega)
     ·simp only[hmi,if_false]
      split
      ·cases hdm:dst m with
       | none=>exact ih (by omega)
       | some d'=>
        simp only[qgr,List.getElem?_set]
        rw[qcr,qcr,ih (by omega)]
      ·exact ih (by omega)
   exact this n (Nat.le_refl _)
end
theorem qBO{V:Nat→AV}{l:List Oper}{T0:List AV}:∀j,j≤l.length→TLp (fun i=>(l[i]?).bind (·.dst)) V T0 (fun _=>true) j=qbI V 0 (l.take j) T0:=by
 have app:∀(l:List Oper) (o:Oper) (k:Nat) (t:List AV),qbI V k (l++[o]) t=qgr (qbI V k l t) o.dst (V (k+l.length)):=by
  intro l
  induction l with
  | nil=>intro o k t;simp[qbI]
  | cons a l ih=>intro o k t;simp only[List.cons_append,qbI,ih];congr 2;simp;omega
 intro j
 induction j with
 | zero=>intro _;simp[TLp,qbI]
 | succ j ih=>
  intro hj
  have hlt:j<l.length:=by omega
  have ht:l.take (j+1)=l.take j++[l[j]]:=by rw[List.take_succ_eq_append_getElem hlt]
  rw[ht,app,←ih (by omega)]
  simp only[TLp,if_true]
  rw[List.getElem?_eq_getElem hlt]
  simp only[Option.bind_some]
  congr 2
  simp;omega
end Go.Eng

namespace Go.Eng
def qvy(acc:List Nat)(o:Oper):Nat:=o.after.toList.foldl (fun s e=>if Region.binds .any e then s ||| 2^e.on ||| acc.getD e.on 0 else s) 0
theorem qnY(acc:List Nat)(x:Nat):∀(es:List Edge) (s:Nat),(es.foldl (fun s e=>if Region.binds .any e then s ||| 2^e.on ||| acc.getD e.on 0 else s) s).testBit x=true →
  s.testBit x=true∨∃e,e∈es∧Region.binds .any e=true∧(x=e.on∨(acc.getD e.on 0).testBit x=true)
 | [],s,h=>.inl h
 | e::es,s,h=>by
  simp only[List.foldl_cons] at h
  rcases qnY acc x es _ h with h1|⟨e',h1,h2,h3⟩
  ·split at h1
   ·rename_i hb
    rw[Nat.testBit_or,Nat.testBit_or,Bool.or_eq_true,Bool.or_eq_true] at h1
    rcases h1 with (h1|h1)|h1
    ·exact .inl h1
    ·rw[Nat.testBit_two_pow] at h1
     have h2:e.on=x:=by simpa using h1
     exact .inr ⟨e,List.mem_cons_self,hb,.inl h2.symm⟩
    ·exact .inr ⟨e,List.mem_cons_self,hb,.inr h1⟩
   ·exact .inl h1
  ·exact .inr ⟨e',List.mem_cons_of_mem _ h1,h2,h3⟩
def qCi(ops:List Oper)(acc:List Nat):Prop:=
 ∀i x,(acc.getD i 0).testBit x=true→∃o e,ops[i]?=some o∧e∈o.after.toList∧Region.binds .any e=true∧(x=e.on∨(acc.getD e.on 0).testBit x=true)
theorem qqS:∀(rest done:List Oper) (acc:List Nat),acc.length=done.length→qCi done acc→qCi (done++rest) (rest.foldl (fun acc o=>acc++[qvy acc o]) acc)
 | [],done,acc,_,h=>by simpa using h
 | o::rest,done,acc,hl,h=>by
  simp only[List.foldl_cons]
  have:=qqS rest (done++[o]) (acc++[qvy acc o]) (by simp[hl]) ?_
  ·simpa using this
  ·intro i x hb
   have grow:∀(j x:Nat),(acc.getD j 0).testBit x=true→((acc++[qvy acc o]).getD j 0).testBit x=true:=by
    intro j x hj
    rcases Nat.lt_or_ge j acc.length with hlt|hge
    ·rw[List.getD_eq_getElem?_getD,List.getElem?_append_left hlt,←List.getD_eq_getElem?_getD];exact hj
    ·rw[List.getD_eq_getElem?_getD,List.getElem?_eq_none hge] at hj;simp at hj
   rcases Nat.lt_or_ge i acc.length with hlt|hge
   ·rw[List.getD_eq_getElem?_getD,List.getElem?_append_left hlt,←List.getD_eq_getElem?_getD] at hb
    obtain⟨o',e,h1,h2,h3,h4⟩:=h i x hb
    refine⟨o',e,by rw[List.getElem?_append_left (by omega)];exact h1,h2,h3,?_⟩
    exact h4.elim .inl fun q=>.inr (grow _ _ q)
   ·rcases Nat.eq_or_lt_of_le hge with he|hgt
    ·rw[List.getD_eq_getElem?_getD,←he,List.getElem?_append_right (Nat.le_refl _)] at hb
     simp only[Nat.sub_self,List.getElem?_cons_zero,Option.getD_some] at hb
     rcases qnY acc x _ _ hb with h1|⟨e,h1,h2,h3⟩
     ·simp at h1
     ·exact⟨o,e,by rw[←he,List.getElem?_append_right (by omega)];simp[hl],h1,h2,h3.elim .inl fun q=>.inr (grow _ _ q)⟩
    ·rw[List.getD_eq_getElem?_getD,List.getElem?_eq_none (by simp;omega)] at hb
     simp at hb
theorem qrw(ops:List Oper):qCi ops (q6a ops):=by
 have:=qqS ops [] [] rfl (fun i x h=>by simp at h)
 exact this
structure DrawOk (all:Array Oper):Prop where
 edge:∀i o,all[i]?=some o→∀e,e∈o.after.toList→Region.binds .any e=true→e.on<i
 dst:∀i j oi oj,all[i]?=some oi→all[j]?=some oj→j≠i→∀t,oj.dst=some t→oi.dst≠some t ∧
  (t∈qxZ all oi→((q6a all.toList).getD i 0).testBit j=true∨((q6a all.toList).getD j 0).testBit i=true)
theorem qBh{all:Array Oper}(h:qAj all=true):DrawOk all:=by
 unfold qAj at h
 simp only[List.all_eq_true,List.mem_range] at h
 have main:∀i oi,all[i]?=some oi→(∀e,e∈oi.after.toList→Region.binds .any e=true→e.on<i) ∧
   ∀j oj,all[j]?=some oj→j≠i→∀t,oj.dst=some t→oi.dst≠some t∧(t∈qxZ all oi→((q6a all.toList).getD i 0).testBit j=true∨((q6a all.toList).getD j 0).testBit i=true):=by
  intro i oi hi
  have hi':all.toList[i]?=some oi:=by simpa using hi
  have:=h i (qu hi')
  rw[hi'] at this
  simp only[Bool.and_eq_true,List.all_eq_true,List.mem_range,Bool.or_eq_true,beq_iff_eq] at this
  obtain⟨h1,h2⟩:=this
  refine⟨fun e he hb=>?_,fun j oj hj hne t ht=>?_⟩
  ·have:=h1 e he
   rw[hb] at this
   simpa using this
  ·have hj':all.toList[j]?=some oj:=by simpa using hj
   have:=(h2 j (qu hj')).resolve_left hne
   rw[hj'] at this
   simp only[ht,Bool.and_eq_true,bne_iff_ne,ne_eq,Bool.or_eq_true,Bool.not_eq_true',List.contains_eq_mem,decide_eq_false_iff_not] at this
   refine⟨this.1,fun hm=>?_⟩
   rcases this.2 with (h3|h3)|h3
   ·exact absurd hm h3
   ·exact .inl h3
   ·exact .inr h3
 exact⟨fun i o hi=>(main i o hi).1,fun i j oi oj hi hj hne=>(main i oi hi).2 j oj hj hne⟩
theorem qwH{all:Array Oper}(hd:DrawOk all):∀(i x:Nat),((q6a all.toList).getD i 0).testBit x=true→x<i:=by
 intro i
 induction i using Nat.strongRecOn with
 | _ i ih=>
  intro x hx
  obtain⟨o,e,h1,h2,h3,h4⟩:=qrw all.toList i x hx
  have he:=hd.edge i o (by simpa using h1) e h2 h3
  rcases h4 with rfl|h4
  ·exact he
  ·have:=ih e.on he x h4;omega
def qgR(all:Array Oper)(L:Nat→Bool):Prop:=∀i o,all[i]?=some o→L i=true→∀e,e∈o.after.toList→Region.binds .any e=true→L e.on=true
theorem qp2{all:Array Oper}(hd:DrawOk all){L:Nat→Bool}(hc:qgR all L):∀(i x:Nat),L i=true→((q6a all.toList).getD i 0).testBit x=true→L x=true:=by
 intro i
 induction i using Nat.strongRecOn with
 | _ i ih=>
  intro x hi hx
  obtain⟨o,e,h1,h2,h3,h4⟩:=qrw all.toList i x hx
  have ho:all[i]?=some o:=by simpa using h1
  have he:=hc i o ho hi e h2 h3
  rcases h4 with rfl|h4
  ·exact he
  ·exact ih e.on (hd.edge i o ho e h2 h3) x he h4
section
variable {E:Env} {callS:q8Y} {h:List Blk} {all:Array Oper} {V:Nat→AV} {T0:List AV}
def wH(all:Array Oper):Nat→Option Tmp:=fun i=>(all[i]?).bind (·.dst)
theorem qCE(hd:DrawOk all){L:Nat→Bool}(hc:qgR all L){n i:Nat}{o:Oper}(hi:all[i]?=some o)(hin:i≤n)(hL:L i=false)
  (hedge:∀e,e∈o.after.toList→Region.binds .any e=true→L e.on=true) {t:Tmp} (ht:t∈qxZ all o) :
  (TLp (wH all) V T0 L n)[t]?=(TLp (wH all) V T0 (fun _=>true) i)[t]?:=by
 by_cases hex:∃j oj,all[j]?=some oj∧j≠i∧oj.dst=some t
 ·obtain⟨j,oj,hj,hne,hjt⟩:=hex
  have hdj:wH all j=some t:=by simp[wH,hj,hjt]
  have huniq:∀m k,k<m→k≠j→wH all k≠some t:=by
   intro m k _ hkj he
   unfold wH at he
   cases hk:all[k]? with
   | none=>rw[hk] at he;cases he
   | some ok=>
    rw[hk] at he
    simp only[Option.bind_some] at he
    exact(hd.dst j k oj ok hj hk hkj t he).1 hjt
  rcases (hd.dst i j o oj hi hj hne t hjt).2 ht with ha|ha
  ·
   have hji:=qwH hd i j ha
   have hLj:L j=true:=by
    obtain⟨o',e,h1,h2,h3,h4⟩:=qrw all.toList i j ha
    have:o'=o:=by
     have h1':all[i]?=some o':=by simpa using h1
     rw[hi] at h1';exact(Option.some.inj h1').symm
    subst this
    have he:=hedge e h2 h3
    rcases h4 with rfl|h4
    ·exact he
    ·exact qp2 hd hc _ _ he h4
   rw[qg9 hLj hdj n (by omega) (huniq n),qg9 rfl hdj i hji (huniq i)]
  ·
   have hij:=qwH hd j i ha
   have hLj:L j=false:=by
    cases hLj:L j with
    | false=>rfl
    | true=>have:=qp2 hd hc _ _ hLj ha;rw[hL] at this;cases this
   have e1:(TLp (wH all) V T0 L n)[t]?=T0[t]?:=q7Z n fun k hk hLk he=>by
    by_cases hkj:k=j
    ·subst hkj;rw[hLj] at hLk;cases hLk
    ·exact huniq n k hk hkj he
   have e2:(TLp (wH all) V T0 (fun _=>true) i)[t]?=T0[t]?:=q7Z i fun k hk _ he=>by
    by_cases hkj:k=j
    ·omega
    ·exact huniq i k hk hkj he
   rw[e1,e2]
 ·have hno:∀k,k≠i→wH all k≠some t:=by
   intro k hki he
   unfold wH at he
   cases hk:all[k]? with
   | none=>rw[hk] at he;cases he
   | some ok=>
    rw[hk] at he
    exact hex ⟨k,ok,hk,hki,he⟩
  have e1:(TLp (wH all) V T0 L n)[t]?=T0[t]?:=q7Z n fun k hk hLk=>hno k (fun e=>by subst e;rw[hL] at hLk;cases hLk)
  have e2:(TLp (wH all) V T0 (fun _=>true) i)[t]?=T0[t]?:=q7Z i fun k hk _=>hno k (by omega)
  rw[e1,e2]
end
def unl(listed:Array Bool):Nat→Nat
 | 0=>0
 | m+1=>unl listed m+if listed.getD m false then 0 else 1
theorem qra{listed:Array Bool}:∀{m:Nat},unl listed m=0→∀i,i<m→listed.getD i false=true
 | 0,_,i,hi=>by omega
 | m+1,h,i,hi=>by
  simp only[unl] at h
  by_cases him:i=m
  ·subst him
   cases hl:listed.getD i false with
   | true=>rfl
   | false=>rw[hl] at h;simp at h
  ·exact qra (Nat.add_eq_zero_iff.1 h).1 i (by omega)
theorem uk{listed:Array Bool}{i j:Nat}(hi:i<listed.size):(listed.setIfInBounds i true).getD j false=if j=i then true else listed.getD j false:=by
 by_cases h:j=i
 ·subst h;simp[Array.getD_eq_getD_getElem?,hi]
 ·simp[Array.getD_eq_getD_getElem?,h,Array.getElem?_setIfInBounds_ne (Ne.symm h)]
theorem qvb{listed:Array Bool}{i:Nat}(hi:i<listed.size)(hl:listed.getD i false=false):∀m,(m≤i→unl (listed.setIfInBounds i true) m=unl listed m)∧(i<m→unl (listed.setIfInBounds i true) m+1=unl listed m)
 | 0=>⟨fun _=>rfl,fun h=>by omega⟩
 | m+1=>by
  obtain⟨h1,h2⟩:=qvb hi hl m
  refine⟨fun h=>?_,fun h=>?_⟩
  ·simp only[unl]
   rw[h1 (by omega),uk hi,if_neg (show ¬m=i by omega)]
  ·simp only[unl]
   rw[uk hi]
   by_cases him:m=i
   ·subst him
    rw[h1 (Nat.le_refl _),if_pos rfl,hl];simp
   ·rw[if_neg him]
    have:=h2 (by omega)
    omega
end Go.Eng

namespace Go.Eng
def kT(h':List Blk):Tree Res→Tree Res→Prop
 | .leaf r,t'=>t'=.leaf (r.1,h',none)
 | .br b t e,.br b' t' e'=>b=b'∧kT h' t t'∧kT h' e e'
 | .fail,_=>True
 | .br _ _ _,_=>False
theorem kT.run{h':List Blk}:∀{t t':Tree Res} {r:Res},kT h' t t'→t.run=some r→t'.run=some (r.1,h',none)
 | .leaf _,t',_,hm,hr=>by cases hr;simp only[kT] at hm;subst hm;rfl
 | .fail,_,_,_,hr=>by cases hr
 | .br b t e,.br b' t' e',r,hm,hr=>by
  simp only[kT] at hm
  obtain⟨rfl,h1,h2⟩:=hm
  cases b<;>simp only[Tree.run] at hr ⊢
  ·exact kT.run h2 hr
  ·exact kT.run h1 hr
 | .br _ _ _,.leaf _,_,hm,_=>by cases hm
 | .br _ _ _,.fail,_,hm,_=>by cases hm
section
variable {h h':List Blk}
def Agr(h h':List Blk)(p:AV):Prop:=∀b,b∈p.men→h'[b]?=h[b]?
theorem wI(v:AV):kT h' (okv h v) (okv h' v):=rfl
theorem q0w{b:Bool}{t t' e e':Tree Res}(h1:kT h' t t')(h2:kT h' e e'):kT h' (.br b t e) (.br b t' e'):=⟨rfl,h1,h2⟩
theorem zy{c:Prop}[Decidable c]{t t' e e':Tree Res}(h1:kT h' t t')(h2:kT h' e e'):kT h' (if c then t else e) (if c then t' else e'):=by
 split<;>assumption
theorem q9L(kk:IntKind)(f:Int→Int→Int)(l:Bool)(x y:Int):kT h' (q5M h kk f l x y) (q5M h' kk f l x y):=by
 unfold q5M;cases l<;>rfl
theorem qz4(f:Int→Int→Bool)(l:Bool)(x y:Int):kT h' (qxL h f l x y) (qxL h' f l x y):=by
 unfold qxL;cases l<;>rfl
theorem qgm{v:AV}(H:Agr h h' v):ko h' v=ko h v:=by
 cases v<;>first|rfl|skip
 rename_i b
 simp only[ko]
 rw[H b (by simp[AV.men])]
theorem qtI(E:Env)(t:TypeId)(p:AV)(H:Agr h h' p):kT h' (qeh E h t p) (qeh E h' t p):=by
 unfold qeh
 dsimp only
 refine zy trivial ?_
 cases p with
 | ptr b off=>
  simp only
  rw[H b (by simp[AV.men])]
  cases hb:h[b]? with
  | none=>trivial
  | some x=>
   cases x with
   | cells cs=>
    simp only
    refine zy (zy (wI _) trivial) ?_
    cases cs[off]?<;>first|trivial|rfl
   | _=>trivial
 | eptr sh l i off=>
  simp only
  refine zy ?_ ?_
  ·cases q9t sh l i off (E.ty t).size<;>first|trivial|rfl
  ·cases qdN sh l i off<;>first|trivial|rfl
 | vptr b i off=>
  simp only
  rw[qgm (v:=.vec b) H]
  cases hb:ko h (.vec b) with
  | none=>trivial
  | some x=>
   obtain⟨sh,l⟩:=x
   simp only
   refine zy ?_ ?_
   ·cases q9t sh l i off (E.ty t).size<;>first|trivial|rfl
   ·cases qdN sh l i off<;>first|trivial|rfl
 | _=>trivial
theorem qyb(E:Env)(t:TypeId)(p:AV)(H:Agr h h' p):kT h' (qb4 E h t p) (qb4 E h' t p):=by
 cases p with
 | ptr b off=>
  have hm:=qtI E t (.ptr b off) H
  unfold qb4
  simp only
  rw[H b (by simp[AV.men])]
  cases hb:h[b]? with
  | none=>
   have:qeh E h t (.ptr b off)=.fail:=by unfold qeh;simp only[hb];split<;>rfl
   simp only[this];trivial
  | some x=>
   cases x with
   | big cs kk n l=>
    simp only
    unfold qAf
    refine zy trivial (zy (zy (wI _) trivial) ?_)
    cases cs[off]? with
    | none=>exact zy (wI _) trivial
    | some v=>exact wI _
   | _=>exact hm
 | aptr b o i=>
  unfold qb4
  simp only
  rw[H b (by simp[AV.men])]
  cases hb:h[b]? with
  | none=>trivial
  | some x=>
   cases x with
   | big cs kk n l=>exact zy (q0w (wI _) trivial) trivial
   | _=>trivial
 | _=>unfold qb4;exact qtI _ _ _ H
theorem qxz(E:Env)(t:TypeId)(ps:List (Nat×AV)):kT h' (qf5 E h t ps) (qf5 E h' t ps):=by
 unfold qf5
 refine zy trivial ?_
 cases (E.ty t).d with
 | struct fs=>
  simp only
  refine zy ?_ trivial
  cases qb2 (fun i=>(fs[i]?).map fun f=>(f.1,f.2.2)) ((E.ty t).zero.map vL) ps<;>first|trivial|rfl
 | array n e es=>
  simp only
  refine zy trivial ?_
  cases qb2 (fun i=>some (i*es,es)) ((E.ty t).zero.map vL) ps<;>first|trivial|rfl
 | _=>trivial
theorem qw7(E:Env)(t:TypeId)(ps:List (Nat×AV)):kT h' (qav E h t ps) (qav E h' t ps):=by
 unfold qav
 cases qyh E t with
 | none=>exact qxz _ _ _
 | some q=>
  obtain⟨o,kk,n⟩:=q
  simp only
  cases (E.ty t).d with
  | struct fs=>
   simp only
   refine zy ?_ trivial
   cases qb2 (fun i=>(fs[i]?).map fun f=>(f.1,f.2.2)) (((E.ty t).zero.take o).map vL) ps<;>first|trivial|rfl
  | _=>trivial
theorem qp5(E:Env)(s:TypeId)(x:AV)(f:Nat):kT h' (q1Z E h s x f) (q1Z E h' s x f):=by
 unfold q1Z
 cases (E.ty s).d with
 | struct fs=>
  simp only
  cases fs[f]? with
  | none=>trivial
  | some o=>
   obtain⟨o,tt,sz⟩:=o
   simp only
   refine zy trivial ?_
   cases x<;>first|rfl|trivial
 | _=>trivial
theorem qtN(E:Env)(t:TypeId)(cs:List AV)(o:Nat):kT h' (qh0 E h t cs o) (qh0 E h' t cs o):=by
 unfold qh0
 cases qgN E t cs o<;>first|rfl|trivial
theorem qy2(E:Env)(s:TypeId)(x:AV)(f:Nat):kT h' (qfq E h s x f) (qfq E h' s x f):=by
 unfold qfq
 cases (E.ty s).d with
 | struct fs=>
  cases x with
  | agg cs=>
   simp only
   cases fs[f]? with
   | none=>trivial
   | some o=>exact qtN _ _ _ _
  | _=>trivial
 | _=>trivial
theorem qfO(i:Int)(f:Nat→AV):∀n,kT h' (qeJ h i f n) (qeJ h' i f n)
 | 0=>trivial
 | n+1=>⟨rfl,rfl,qfO i f n⟩
theorem qp6(E:Env)(t:TypeId)(x i:AV)(H:Agr h h' x):kT h' (yQ E h t x i) (yQ E h' t x i):=by
 unfold yQ
 cases (E.ty t).d with
 | slice e es=>
  cases x with
  | imm sh l=>
   cases asI i with
   | none=>trivial
   | some y=>exact zy (q0w (wI _) trivial) trivial
  | vec b=>
   cases asI i with
   | none=>trivial
   | some y=>
    simp only
    rw[qgm (v:=.vec b) H]
    cases hb:ko h (.vec b) with
    | none=>trivial
    | some z=>exact zy (q0w (wI _) trivial) trivial
  | _=>trivial
 | array n e es=>
  cases x with
  | ptr b off=>
   simp only
   cases i with
   | ilit kk j=>exact zy (wI _) trivial
   | int kk j=>exact zy (qfO _ _ _) trivial
   | _=>trivial
  | eptr sh l i0 off=>
   simp only
   cases i with
   | ilit kk j=>exact zy (wI _) trivial
   | int kk j=>exact zy (qfO _ _ _) trivial
   | _=>trivial
  | _=>trivial
 | _=>trivial
theorem qnH(E:Env)(t:TypeId)(x i:AV)(H:Agr h h' x):kT h' (q0k E h t x i) (q0k E h' t x i):=by
 have hm:=qp6 E t x i H
 unfold q0k
 split
 ·split
  ·split
   ·split
    ·exact zy (q0w (wI _) trivial) trivial
    ·exact hm
   ·exact hm
  ·exact hm
 ·exact hm
theorem qye(E:Env)(t:TypeId)(x i:AV):kT h' (qfH E h t x i) (qfH E h' t x i):=by
 unfold qfH
 cases (E.ty t).d with
 | array n e es=>
  cases x with
  | agg cs=>
   cases hi:asI i with
   | none=>trivial
   | some y=>
    cases i with
    | ilit kk j=>exact zy (qtN _ _ _ _) trivial
    | int kk j=>
     simp only
     cases (E.ty e).d with
     | int k2=>
      simp only
      refine zy ?_ trivial
      cases qjv k2 cs with
      | none=>trivial
      | some l=>exact q0w (wI _) trivial
     | _=>trivial
    | _=>cases hi
  | _=>trivial
 | str=>
  cases x with
  | str s=>
   cases asI i with
   | none=>trivial
   | some y=>exact q0w (wI _) trivial
  | _=>trivial
 | _=>trivial
theorem qwr(d:TD)(op:BinOp)(x y:AV)(H:Agr h h' x):kT h' (quq d h op x y) (quq d h' op x y):=by
 unfold quq
 cases hx:asI x with
 | some p=>
  obtain⟨kk,a⟩:=p
  cases hy:asI y with
  | some q=>
   obtain⟨kk',b⟩:=q
   simp only
   refine zy ?_ trivial
   cases op<;>simp only<;>first
    | exact q9L _ _ _ _ _
    | exact qz4 _ _ _ _
    | trivial
    | skip
   ·cases y<;>simp only<;>first|exact zy trivial (q9L _ _ _ _ _)|exact q0w (q9L _ _ _ _ _) trivial
   ·cases y<;>simp only<;>first|exact zy trivial (q9L _ _ _ _ _)|exact q0w (q9L _ _ _ _ _) trivial
  | none=>cases x<;>first|cases hx;done|(cases y<;>first|(cases hy;done)|trivial)
 | none=>
  simp only
  cases hbx:asB x with
  | some a=>
   cases hby:asB y with
   | some b=>simp only;cases d<;>simp only<;>first|trivial|(cases op<;>first|rfl|trivial)
   | none=>cases x<;>first|(cases hbx;done)|(cases y<;>first|(cases hby;done)|trivial)
  | none=>
   simp only
   cases x with
   | str a=>
    cases y with
    | str b=>cases op<;>first|rfl|trivial|exact q0w (wI _) trivial
    | _=>trivial
   | nilp=>
    cases y with
    | nilp=>cases d<;>first|trivial|(cases op<;>first|rfl|trivial)
    | _=>trivial
   | ptr b off=>
    cases y with
    | nilp=>
     cases d<;>first|trivial|skip
     simp only
     rw[H b (by simp[AV.men])]
     cases hb:h[b]? with
     | none=>trivial
     | some z=>cases z<;>first|trivial|(cases op<;>first|rfl|trivial)
    | _=>trivial
   | eptr sh l i o=>
    cases y with
    | nilp=>cases d<;>first|trivial|(cases op<;>first|rfl|trivial)
    | _=>trivial
   | imm sh l=>
    cases y with
    | nils=>cases d<;>first|trivial|(cases op<;>first|trivial|exact q0w (wI _) trivial)
    | _=>trivial
   | mptr c sh l i o=>
    cases y with
    | nilp=>cases d<;>first|trivial|(cases op<;>first|rfl|trivial)
    | _=>trivial
   | _=>trivial
theorem qxu(E:Env)(op:BinOp)(t:TypeId)(x y:AV)(H:Agr h h' x):kT h' (qhI E h op t x y) (qhI E h' op t x y):=by
 unfold qhI
 cases x with
 | agg xs=>
  cases y with
  | agg ys=>
   simp only
   unfold qno
   cases eqT E 32 t (.agg xs) (.agg ys) with
   | none=>trivial
   | some r=>cases op<;>first|rfl|trivial
  | _=>exact qwr _ _ _ _ H
 | _=>exact qwr _ _ _ _ H
theorem qCl(op:UnOp)(x:AV):kT h' (qCP h op x) (qCP h' op x):=by
 cases op<;>cases x<;>first|rfl|trivial
theorem qA9(E:Env)(s d:TypeId)(x:AV):kT h' (qlD E h s d x) (qlD E h' s d x):=by
 unfold qlD
 cases (E.ty s).d<;>cases (E.ty d).d<;>cases x<;>first|rfl|trivial
theorem qya(E:Env)(s d:TypeId)(x:AV)(H:Agr h h' x):kT h' (qeQ E h s d x) (qeQ E h' s d x):=by
 unfold qeQ
 cases (E.ty s).d with
 | slice e es=>
  simp only
  cases (E.ty d).d with
  | str=>
   simp only
   unfold qmY
   cases (E.ty e).d with
   | int kk=>
    cases kk<;>first|trivial|skip
    simp only
    rw[qgm H]
    cases hr:ko h x with
    | none=>trivial
    | some q=>
     obtain⟨sh,l⟩:=q
     simp only
     split
     ·rfl
     ·trivial
   | _=>trivial
  | _=>trivial
 | _=>exact qA9 _ _ _ _
theorem qB7(E:Env)(ts:List TypeId)(azz:List AV)(H:∀x,x∈azz→Agr h h' x):kT h' (qnm E h ts azz) (qnm E h' ts azz):=by
 unfold qnm
 cases ts with
 | nil=>trivial
 | cons t ts=>
  cases azz with
  | nil=>trivial
  | cons x azz=>
   cases azz with
   | cons _ _=>trivial
   | nil=>
    simp only
    unfold qzS
    cases (E.ty t).d with
    | str=>cases x<;>first|rfl|trivial
    | array n e es=>rfl
    | slice e es=>
     cases x with
     | nils=>rfl
     | vec b=>
      simp only
      rw[qgm (v:=.vec b) (H _ List.mem_cons_self)]
      cases hb:ko h (.vec b) with
      | none=>trivial
      | some z=>rfl
     | imm sh l=>rfl
     | _=>trivial
    | _=>cases x<;>trivial
theorem qCe(f:Int→Int→Int)(azz:List AV):kT h' (qrD f h azz) (qrD f h' azz):=by
 unfold qrD
 cases azz with
 | nil=>trivial
 | cons x l=>
  simp only
  cases asI x with
  | none=>trivial
  | some p=>
   obtain⟨kk,n⟩:=p
   simp only
   cases qwg f kk n l with
   | none=>trivial
   | some m=>exact zy (wI _) (wI _)
theorem qxx{E:Env}{t:TypeId}(ht:(E.ty t).d=.str)(x:AV)(lo hi mx:Option AV):kT h' (qb9 E h t x lo hi mx) (qb9 E h' t x lo hi mx):=by
 unfold qb9
 rw[ht]
 cases mx with
 | some _=>trivial
 | none=>
  cases x<;>first|trivial|skip
  rename_i s
  simp only
  cases qgu lo 0 with
  | none=>trivial
  | some l=>
   cases qgu hi (qm s) with
   | none=>trivial
   | some r=>exact q0w (q0w (wI _) trivial) trivial
theorem qvm{E:Env}{t:TypeId}(ht:(E.ty t).d=.str)(x:AV)(lo hi mx:Option AV):kT h' (yV E h t x lo hi mx) (yV E h' t x lo hi mx):=by
 unfold yV
 rw[ht]
 exact qxx ht _ _ _ _
theorem qvn{E:Env}{t:TypeId}{n:Nat}{e:TypeId}{es:Nat}(ht:(E.ty t).d=.array n e es)(x:AV)(lo hi mx:Option AV):kT h' (yV E h t x lo hi mx) (yV E h' t x lo hi mx):=by
 unfold yV
 rw[ht]
 simp only
 cases x<;>first|trivial|skip
 cases mx with
 | some _=>trivial
 | none=>
  simp only
  refine zy ?_ trivial
  unfold qAW
  split
  ·exact q0w (q0w (wI _) trivial) trivial
  ·trivial
theorem quL{E:Env}{t:TypeId}{e:TypeId}{es:Nat}(ht:(E.ty t).d=.slice e es)(x:AV)(lo hi:Option AV){mx:Option AV}(hm:mx.isSome=true):kT h' (yV E h t x lo hi mx) (yV E h' t x lo hi mx):=by
 unfold yV
 rw[ht]
 simp only
 unfold qb9
 cases mx with
 | none=>cases hm
 | some m=>
  simp only
  rw[ht]
  split
  ·split
   ·exact zy (q0w (q0w (q0w (wI _) trivial) trivial) trivial) trivial
   ·trivial
  ·trivial
theorem qA2{E:Env}{ev:Operand→AV}{op:Op}(hs:qbA E op=true)(H:qz2 op=true→∀x,x∈op.operands.toList→Agr h h' (ev x)):kT h' (qlZ E h ev op) (qlZ E h' ev op):=by
 unfold qlZ
 cases op<;>simp only[qbA] at hs<;>try (cases hs)
 case move=>exact wI _
 case assign=>exact wI _
 case pick c a b=>simp only;cases ev c<;>first|exact wI _|exact q0w (wI _) (wI _)|trivial
 case build=>exact qw7 _ _ _
 case load x=>exact qyb _ _ _ (H rfl x (by simp[Op.operands]))
 case nilCheck x=>
  have H:=H rfl x (by simp[Op.operands])
  simp only
  cases hx:ev x with
  | ptr b o=>
   rw[hx] at H
   simp only
   rw[H b (by simp[AV.men])]
   cases hb:h[b]? with
   | none=>trivial
   | some z=>cases z<;>first|rfl|trivial
  | eptr sh l i o=>rfl
  | mptr c sh l i o=>exact q0w (wI _) trivial
  | _=>trivial
 case binOp op t x y r=>exact qxu _ _ _ _ _ (H rfl x (by simp[Op.operands]))
 case unOp=>exact qCl _ _
 case convert s d x=>exact qya _ _ _ _ (H rfl x (by simp[Op.operands]))
 case makeFunc fn _ _=>cases fn<;>first|rfl|trivial
 case slice t x lo hi mx=>
  split at hs
  ·rename_i ht;exact qvm ht _ _ _ _
  ·rename_i ht;exact qvn ht _ _ _ _
  ·rename_i ht;exact quL ht _ _ _ (by simpa using hs)
  ·cases hs
 case fieldAddr=>exact qp5 _ _ _ _
 case field=>exact qy2 _ _ _ _
 case indexAddr t x i=>exact qnH _ _ _ _ (H rfl x (by simp[Op.operands]))
 case index=>exact qye _ _ _ _
 case extract x i=>
  simp only
  cases ev x with
  | tuple vs=>simp only;cases vs[i]?<;>first|rfl|trivial
  | _=>trivial
 case call c=>
  obtain⟨callee,args,tys⟩:=c
  cases callee with
  | builtin b=>
   cases b<;>first|exact qB7 _ _ _ (fun x hx=>by obtain⟨y,hy,rfl⟩:=List.mem_map.1 hx;exact H rfl y (by simpa[Op.operands,Call.operands] using hy))|exact qCe _ _|(cases hs;done)
  | value x=>simp only at hs;cases hs
  | invoke x n=>simp only at hs;cases hs
end
mutual
theorem qAD{h h':List Blk}:∀(a:AV),Agr h h' a→a.lend h'=a.lend h
 | .vec b,H=>by simp only[AV.lend];rw[H b (by simp[AV.men])]
 | .agg cs,H=>by simp only[AV.lend];rw[qbL cs H]
 | .tuple cs,H=>by simp only[AV.lend];rw[qbL cs H]
 | .undef,_|.yld,_|.skip,_|.blit _,_|.bool _,_|.ilit _ _,_|.int _ _,_|.str _,_|.nilp,_|.ptr _ _,_|.eptr _ _ _ _,_|.mptr _ _ _ _ _,_|.vptr _ _ _,_|.vsub _ _,_|.aptr _ _ _,_|.asub _ _ _ _ _,_|.bagg _ _ _ _,_|.nils,_|.imm _ _,_|.full _ _,_|.nilf,_|.fn _ _ _,_=>rfl
theorem qbL{h h':List Blk}:∀(l:List AV),(∀b,b∈AV.menL l→h'[b]?=h[b]?)→AV.lendL h' l=AV.lendL h l
 | [],_=>rfl
 | a::l,H=>by
  simp only[AV.lendL]
  rw[qAD a fun b hb=>H b (by simp only[AV.menL];exact List.mem_append_left _ hb),qbL l fun b hb=>H b (by simp only[AV.menL];exact List.mem_append_right _ hb)]
end
theorem qkw:∀(a:AV) (b:Nat),b∈jO a→b∈a.men:=by
 intro a b hb
 cases a<;>simp only[jO] at hb<;>first|(cases hb;done)|skip
 case vec c=>simpa[AV.men] using hb
 case agg cs=>
  simp only[AV.men]
  induction cs with
  | nil=>cases hb
  | cons c cs ih=>
   simp only[AV.menL]
   simp only[List.filterMap_cons] at hb
   cases c<;>simp only at hb<;>first|exact List.mem_append_right _ (ih hb)|skip
   rcases List.mem_cons.1 hb with rfl|hb
   ·exact List.mem_append_left _ (by simp[AV.men])
   ·exact List.mem_append_right _ (ih hb)
theorem qmL{l:List AV}{a:AV}{b:Nat}(ha:a∈l)(hb:b∈a.men):b∈AV.menL l:=by
 induction l with
 | nil=>cases ha
 | cons c l ih=>
  simp only[AV.menL]
  rcases List.mem_cons.1 ha with rfl|ha
  ·exact List.mem_append_left _ hb
  ·exact List.mem_append_right _ (ih ha)
theorem qnk{E:Env}{h h':List Blk}{f:FuncId}{args:List AV}(H:∀b,b∈AV.menL args→h'[b]?=h[b]?):q8I E h' f args=q8I E h f args:=by
 unfold q8I
 cases hf:E.spec.find? fun x=>x.1==f with
 | none=>rfl
 | some G=>
  simp only
  have e1:(args.flatMap jO).all (qrO h')=(args.flatMap jO).all (qrO h):=by
   have:∀b,b∈args.flatMap jO→qrO h' b=qrO h b:=by
    intro b hb
    obtain⟨a,ha,hb⟩:=List.mem_flatMap.1 hb
    unfold qrO
    rw[H b (qmL ha (qkw a b hb))]
   generalize args.flatMap jO=l at this
   induction l with
   | nil=>rfl
   | cons b l ih=>simp only[List.all_cons];rw[this b List.mem_cons_self,ih fun b hb=>this b (List.mem_cons_of_mem _ hb)]
  rw[e1,qbL args H]
theorem q6j(E:Env):q9s E (q71 E):=by
 intro h h' f args hs H
 unfold q71
 unfold qhn at hs
 cases hf:E.spec.find? fun x=>x.1==f with
 | none=>rw[hf] at hs;cases hs
 | some G=>simp only;exact qnk H
theorem qsS(E:Env):q9s E qrg:=fun _ _ _ _ _ _=>rfl
theorem qlo{E:Env}{callS:List Blk→q8Y}(hm:q9s E callS){h h':List Blk}{ev:Operand→AV}{op:Op}{v:AV}{R:List Nat}(hR:qCx E ev op=some R)(H:∀b,b∈R→h'[b]?=h[b]?)
  (hr:(q8Z E (callS h) h ev op).run=some v):(q8Z E (callS h') h' ev op).run=some v:=by
 unfold q8Z at hr ⊢
 split at hr
 ·rename_i x args tys
  cases hx:ev x with
  | fn f first caps=>
   rw[hx] at hr
   unfold qCx at hR
   simp only[qkT,kx,hx] at hR
   cases hf:qhn E f with
   | none=>rw[hf] at hR;cases hR
   | some G=>
    rw[hf] at hR
    simp only[Option.some.injEq] at hR
    subst hR
    simp only
    rw[hm h h' f _ (by rw[hf];rfl) H]
    exact hr
  | _=>rw[hx] at hr;cases hr
 ·rename_i hno
  split at hr
  ·rename_i hst
   rw[if_pos hst]
   obtain⟨r,h1,h2⟩:=bind_some hr
   cases h2
   have hR':qz2 op=true→R=AV.menL (op.operands.toList.map ev):=by
    intro hlk
    unfold qCx at hR
    have:qkT op=false:=by
     unfold qkT
     split
     ·rename_i x args tys;exact absurd rfl (hno x args tys)
     ·rfl
    rw[this,hlk] at hR
    simpa using hR.symm
   rw[Tree.run_bind,kT.run (qA2 (h':=h') hst fun hlk x hx b hb=>H b (by rw[hR' hlk];exact qmL (List.mem_map_of_mem hx) hb)) h1]
   rfl
  ·cases hr
section
variable {h:List Blk}
theorem qf3:∀(cs:List AV),cs.all qAI=true→q9F h cs=h
 | [],_=>rfl
 | c::cs,hc=>by
  simp only[List.all_cons,Bool.and_eq_true] at hc
  cases c<;>first|(simp only[q9F];exact qf3 cs hc.2)|(cases hc.1)
theorem qtn{E:Env}{t:TypeId}{z:Blk}(hz:q2U E t=some z):z.isFrzB=false:=by
 unfold q2U at hz
 split at hz<;>split at hz<;>cases hz<;>rfl
theorem qyd{x:AV}{z:Blk}(hz:qlJ x=some z):z.isFrzB=false:=by
 unfold qlJ at hz
 split at hz<;>split at hz<;>cases hz<;>rfl
theorem qyU{E:Env}{ev:Operand→AV}{op:Op}{v:AV}{z:Blk}(hr:(qj3 E h ev op).run=some (v,z)):(qlZ E h ev op).run=some (v,h++[z],none)∧z.isFrzB=false∧(∀b,v≠.bool b):=by
 unfold qj3 at hr
 cases op<;>simp only at hr<;>first|(cases hr;done)|skip
 case alloc t=>
  unfold qoO at hr
  cases hz:q2U E t with
  | none=>rw[hz] at hr;cases hr
  | some y=>
   rw[hz] at hr
   cases hr
   refine⟨?_,qtn hz,fun b hb=>by cases hb⟩
   unfold qlZ
   simp only
   rw[hz];rfl
 case box t x=>
  unfold qoO at hr
  cases hz:qlJ (ev x) with
  | none=>rw[hz] at hr;cases hr
  | some y=>
   rw[hz] at hr
   cases hr
   refine⟨?_,qyd hz,fun b hb=>by cases hb⟩
   unfold qlZ
   simp only
   rw[hz];rfl
 case buildSlice t len parts=>
  unfold qlZ
  simp only
  unfold q6L
  cases hd:(E.ty t).d<;>rw[hd] at hr<;>simp only at hr ⊢<;>first|(cases hr;done)|skip
  rename_i e es
  split at hr
  ·rename_i hc
   rw[if_pos hc]
   cases hf:qb2 (fun i=>some (i*es,es)) ((List.replicate len ((E.ty e).zero.map vL)).flatten) (parts.toList.map fun p=>(p.1,ev p.2)) with
   | none=>rw[hf] at hr;cases hr
   | some cs=>
    cases hs:E.shape 16 e with
    | none=>rw[hf,hs] at hr;cases hr
    | some sh=>
     rw[hf,hs] at hr
     simp only at hr ⊢
     split at hr
     ·rename_i hl
      rw[if_pos hl.1]
      cases hch:qfy h sh len cs with
      | none=>rw[hch] at hr;cases hr
      | some l=>
       rw[hch] at hr
       cases hr
       exact⟨by simp only[qf3 cs hl.2];rfl,rfl,fun b hb=>by cases hb⟩
     ·cases hr
  ·cases hr
theorem qty{E:Env}{f g:Operand→AV}{op:Op}(hfg:∀x∈op.operands.toList,f x=g x):qj3 E h f op=qj3 E h g op:=by
 unfold qj3
 cases op<;>simp only
 case box t x=>rw[hfg x (by simp[Op.operands])]
 case buildSlice t len ps=>
  have:(ps.toList.map fun p=>(p.1,f p.2))=ps.toList.map fun p=>(p.1,g p.2):=List.map_congr_left fun p hp=>by
   rw[hfg p.2 (by simp only[Op.operands];exact List.mem_map_of_mem hp)]
  rw[this]
end
end Go.Eng

namespace Go.Eng
mutual
theorem AV.ren_void{s:Nat}:∀av:AV,s∉av.men→av.ren (ql7 s)=av
 | .undef,_|.skip,_|.yld,_|.blit _,_|.bool _,_|.ilit _ _,_|.int _ _,_|.str _,_|.nilp,_|.eptr _ _ _ _,_|.mptr _ _ _ _ _,_|.nils,_|.imm _ _,_|.full _ _,_|.nilf,_=>rfl
 | .ptr b _,h=>by simp only[AV.men,List.mem_singleton] at h;simp[AV.ren,ql7,Ne.symm h]
 | .vptr b _ _,h=>by simp only[AV.men,List.mem_singleton] at h;simp[AV.ren,ql7,Ne.symm h]
 | .vsub b _,h=>by simp only[AV.men,List.mem_singleton] at h;simp[AV.ren,ql7,Ne.symm h]
 | .aptr b _ _,h=>by simp only[AV.men,List.mem_singleton] at h;simp[AV.ren,ql7,Ne.symm h]
 | .asub b _ _ _ _,h=>by simp only[AV.men,List.mem_singleton] at h;simp[AV.ren,ql7,Ne.symm h]
 | .vec b,h=>by simp only[AV.men,List.mem_singleton] at h;simp[AV.ren,ql7,Ne.symm h]
 | .fn g first caps,h=>by
  simp only[AV.men,List.mem_append,not_or] at h
  simp[AV.ren,AV.renL_void first h.1,AV.renL_void caps h.2]
 | .agg cs,h=>by simp only[AV.men] at h;simp[AV.ren,AV.renL_void cs h]
 | .tuple cs,h=>by simp only[AV.men] at h;simp[AV.ren,AV.renL_void cs h]
 | .bagg cs k n l,h=>by simp only[AV.men] at h;simp[AV.ren,AV.renL_void cs h]
theorem AV.renL_void{s:Nat}:∀l:List AV,s∉AV.menL l→AV.renL (ql7 s) l=l
 | [],_=>rfl
 | a::l,h=>by
  simp only[AV.menL,List.mem_append,not_or] at h
  simp[AV.renL,AV.ren_void a h.1,AV.renL_void l h.2]
end
theorem Blk.ren_void{s:Nat}(k:Blk)(h:s∉k.menB):k.ren (ql7 s)=k:=by
 cases k<;>simp only[Blk.menB,Blk.ren] at h ⊢<;>rw[AV.renL_void _ h]
theorem qqr{s:Nat}:∀l:List (List AV),s∉quu l→l.map (AV.renL (ql7 s))=l
 | [],_=>rfl
 | a::l,h=>by
  simp only[quu,List.mem_append,not_or] at h
  simp only[List.map_cons,AV.renL_void a h.1,qqr l h.2]
theorem qBn{s b:Nat}{k:Blk}:∀{h:List Blk},s∉qjz h→h[b]?=some k→s∉k.menB:=by
 intro h
 induction h generalizing b with
 | nil=>intro _ hb;simp at hb
 | cons a h ih=>
  intro hs hb
  simp only[qjz,List.mem_append,not_or] at hs
  cases b with
  | zero=>simp only[List.getElem?_cons_zero,Option.some.injEq] at hb;subst hb;exact hs.1
  | succ b=>exact ih hs.2 (by simpa using hb)
def Ctx.slot(X:Ctx)(s:Nat)(z:Blk)(o:Obj):Ctx:=
 { σ:=fun b=>if b=s then some X.w.heap.size else X.σ b,h:=X.h.set s z,w:=X.w.alloc o,M:=X.M,kept:=X.kept,y:=X.y }
theorem qmX{B:Base}{X:Ctx}(hs:HSim B X){s:Nat}{z:Blk}{o:Obj}:Move X (X.slot s z o) (ql7 s):=by
 refine Move.of (fun _ h=>h) (fun a ha=>World.cell?_of_block (wc _ _ (hs.ltM _ ha))) (fun b b' hb h=>?_)
 unfold ql7 at h
 split at h
 ·cases h
 ·rename_i hne
  cases h
  refine⟨by simpa[Ctx.slot] using hb,by simp[Ctx.slot,hne],fun sh m ⟨e,l,h1,h2⟩=>⟨e,l,?_,h2⟩,fun _ _ _ n hn c T fr hc=>⟨c,T,fr,?_,rfl⟩⟩
  ·have e1:(X.slot s z o).h[b]?=X.h[b]?:=List.getElem?_set_ne (fun e=>hne e.symm)
   rw[e1] at h1;exact h1
  ·exact(wc _ _ (Array.getElem?_eq_some_iff.1 hc).1).trans hc
theorem qtV{B:Base}{X:Ctx}(hs:HSim B X){s:Nat}{z:Blk}{o:Obj}(hd:X.h[s]?=some .dead)(hmen:s∉qjz X.h)(hz:yt (X.slot s z o) s z):HSim B (X.slot s z o):=by
 have hm:=qmX hs (s:=s) (z:=z) (o:=o)
 have hsl:=qu hd
 have himp:B.imps.length≤s:=by
  rcases Nat.lt_or_ge s B.imps.length with h|h
  ·obtain⟨k,h1,h2⟩:=hs.impc s h
   rw[hd] at h1;cases h1;cases h2
  ·exact h
 have hget:∀b k',(X.slot s z o).h[b]?=some k'→b≠s∧X.h[b]?=some k'∨b=s∧k'=z:=by
  intro b k' h
  by_cases hb:b=s
  ·subst hb
   have:(X.h.set b z)[b]?=some k':=h
   rw[List.getElem?_set_self hsl] at this
   exact .inr ⟨rfl,(Option.some.inj this).symm⟩
  ·have:(X.h.set s z)[b]?=some k':=h
   rw[List.getElem?_set_ne (fun e=>hb e.symm)] at this
   exact .inl ⟨hb,this⟩
 have hσ:∀b,b≠s→(X.slot s z o).σ b=X.σ b:=fun b hb=>by simp[Ctx.slot,hb]
 have hσn:(X.slot s z o).σ s=some X.w.heap.size:=by simp[Ctx.slot]
 have hold:∀n,n<X.w.heap.size→(X.slot s z o).w.heap[n]?=X.w.heap[n]?:=fun n hn=>wc _ _ hn
 have hsize:X.w.heap.size≤(X.slot s z o).w.heap.size:=by
  show _≤(X.w.alloc o).heap.size
  simp
 have hown:∀b n,(X.slot s z o).own b n→X.own b n∨b=s∧n=X.w.heap.size:=by
  intro b n ⟨h1,k',h2,h3⟩
  rcases hget b k' h2 with⟨hb,h4⟩|⟨rfl,rfl⟩
  ·exact .inl ⟨by rw[←hσ b hb];exact h1,k',h4,h3⟩
  ·rw[hσn] at h1;exact .inr ⟨rfl,(Option.some.inj h1).symm⟩
 constructor
 ·intro b k' h
  rcases hget b k' h with⟨hb,h4⟩|⟨rfl,rfl⟩
  ·by_cases hdd:k'=.dead
   ·subst hdd;trivial
   ·have:=yt.move hm.toMove0 (b':=b) (hσ b hb) (fun n hn=>hold n (hs.lt h4 hdd hn)) (hs.blk b k' h4)
    rwa [Blk.ren_void k' (qBn hmen h4)] at this
  ·exact hz
 ·intro b b' n h h'
  rcases hown b n h with h1|⟨g1,g2⟩
  ·rcases hown b' n h' with h2|⟨g3,g4⟩
   ·exact hs.inj b b' n h1 h2
   ·exact absurd (Ctx.own.lt hs h1) (by omega)
  ·rcases hown b' _ h' with h2|⟨g3,_⟩
   ·exact absurd (Ctx.own.lt hs h2) (by omega)
   ·rw[g1,g3]
 ·intro b n h hM
  rcases hown b n h with h1|⟨g1,g2⟩
  ·exact hs.notM b n h1 hM
  ·exact absurd (hs.ltM _ hM) (by omega)
 ·intro n h
  have:=hs.ltM n h
  omega
 ·exact hs.M0
 ·exact hs.newM
 ·exact hs.os
 ·exact hs.tape
 ·exact hs.output
 ·have:=hs.size;omega
 ·intro n hn hni
  have:=hs.size
  rw[hold _ (by omega)]
  exact hs.frame n hn hni
 ·intro b hb
  rw[hσ b (by omega)];exact hs.imps b hb
 ·intro b hb
  obtain⟨cs,h,hc⟩:=hs.impc b hb
  exact⟨cs,by show (X.h.set s z)[b]?=_;rw[List.getElem?_set_ne (by omega)];exact h,hc⟩
 ·intro b n h hb
  rcases hown b n h with h1|⟨g1,g2⟩
  ·exact hs.fresh b n h1 hb
  ·have:=hs.size;omega
 ·intro p hp
  obtain⟨q1,q2,q3⟩:=hs.kept p hp
  exact⟨(hold _ (Array.getElem?_eq_some_iff.1 q1).1).trans q1,q2,q3⟩
theorem qy7{E:Env}{P:Program}(hE:E.tok P){B:Base}{X:Ctx}(hs:HSim B X){t:TypeId}{z:Blk}(hz:q2U E t=some z){s:Nat}(hd:X.h[s]?=some .dead)(hmen:s∉qjz X.h) :
  ∃o:Obj,((do pure (.value (←Instr.alloc t true (.tuple #[]))):Sem Next)).run P X.w=.ok (.value (.pointer (some ⟨X.w.heap.size,0,none⟩))) (X.w.alloc o)∧HSim B (X.slot s z o)∧Move X (X.slot s z o) (ql7 s) ∧
   Rep (X.slot s z o) (.ptr s 0) (.pointer (some ⟨X.w.heap.size,0,none⟩)):=by
 have hsl:=qu hd
 have hptr:∀o,Rep (X.slot s z o) (.ptr s 0) (.pointer (some ⟨X.w.heap.size,0,none⟩)):=fun o=>.ptr _ _ _ (by simpa[Ctx.slot] using hsl) (by simp[Ctx.slot])
 unfold q2U at hz
 split at hz
 ·rename_i o k n hb
  split at hz
  ·cases hz
   obtain⟨b1,b2,b3,b4,_⟩:=qfY hb
   obtain⟨v,h1,h2,_⟩:=qdB hE (t:=t) (by omega) X.w
   refine⟨.cells v.cells t,by simp[Instr.alloc,h1,q8L],qtV hs hd hmen ?_,qmX hs,hptr _⟩
   exact⟨X.w.heap.size,v.cells,t,(E.ty t).zero.take o,by simp[Ctx.slot],zZ _ _,jh _ _,by rw[h2];exact qkX hb,qow _ _⟩
  ·cases hz
 ·split at hz
  ·rename_i hc
   cases hz
   obtain⟨v,h1,h2,_⟩:=qdB hE (t:=t) (by simpa using hc.2) X.w
   refine⟨.cells v.cells t,by simp[Instr.alloc,h1,q8L],qtV hs hd hmen ?_,qmX hs,hptr _⟩
   exact⟨X.w.heap.size,v.cells,t,by simp[Ctx.slot],zZ _ _,by rw[h2];exact jh _ _⟩
  ·cases hz
theorem qrK{E:Env}{P:Program}(hE:E.tok P){B:Base}{X:Ctx}{st:St}{a:Act}(hs:Sim E B X st a){o:Oper}{t:TypeId}(hop:o.op=.alloc t){z:Blk}(hz:q2U E t=some z){s:Nat}(hd:st.h[s]?=some .dead)
  (hmen:s∉qjz st.h) (ht:s∉AV.menL st.t) (hf:s∉quu st.fs) {next:Act→World→Prop} {Q:Exit→Act→World→Prop}
  (hq:∀X' v,Sim E B X' { st with h:=st.h.set s z } a→Rep X' (.ptr s 0) v→next (a.put o.dst v) X'.w):o.wp P a X.w next Q:=by
 rw[←hs.h] at hd hmen
 obtain⟨ob,h1,h2,h3,h4⟩:=qy7 hE hs.hs hz hd hmen
 unfold Oper.wp
 have hrun:(execOp a.eval o).run P X.w=.ok (.value (.pointer (some ⟨X.w.heap.size,0,none⟩))) (X.w.alloc ob):=by
  rw[←h1]
  simp only[execOp,hop]
 rw[hrun]
 refine hq (X.slot s z ob) _ ⟨h2,?_,?_,?_,fun x hx=>?_,h3.kept▸hs.df,hs.ni,h3.y.trans hs.y,fun p hp=>h3.kept▸hs.pin p hp⟩ h4
 ·show X.h.set s z=st.h.set s z
  rw[hs.h]
 ·have:=hs.t.ren h3.toMove0
  rwa [AV.renL_void _ ht] at this
 ·have:=hs.fs.ren h3.toMove0
  rwa [qqr _ hf] at this
 ·obtain⟨⟨sh,l,i,off,he⟩,hr⟩:=hs.glob x hx
  refine⟨⟨sh,l,i,off,he⟩,hr.move h3.M h3.w ?_⟩
  have:=hr.1.ren h3.toMove0
  rw[he] at this ⊢
  exact this
theorem Sim.pad{E:Env}{B:Base}{X:Ctx}{st:St}{a:Act}(hs:Sim E B X st a):∃X',X'.w=X.w∧Sim E B X' { st with h:=st.h++[.dead] } a:=by
 have hw:=PushW.same X
 have hs1:=HSim.push hs.hs (k:=.dead) hw trivial
 have:=hs.ext (Ctx.push_ext hs.hs .dead hw) hs1
 refine⟨X.pushW .dead none X.w,rfl,?_⟩
 have e:(X.pushW .dead none X.w).h=st.h++[.dead]:=by rw[←hs.h];rfl
 rw[e] at this
 exact this
theorem Sim.padN{E:Env}{B:Base}{a:Act}:∀(n:Nat) {X:Ctx} {st:St},Sim E B X st a→∃X',X'.w=X.w∧Sim E B X' { st with h:=st.h++List.replicate n .dead } a
 | 0,X,st,hs=>⟨X,rfl,by simpa using hs⟩
 | n+1,X,st,hs=>by
  obtain⟨X1,h1,h2⟩:=hs.pad
  obtain⟨X2,h3,h4⟩:=Sim.padN n h2
  refine⟨X2,h3.trans h1,?_⟩
  have e:st.h++[.dead]++List.replicate n .dead=st.h++List.replicate (n+1) .dead:=by simp[List.replicate_succ]
  simp only at h4
  rw[e] at h4
  exact h4
end Go.Eng

namespace Go.Eng
theorem stL{all:Array Oper}{V:Nat→AV}{T0:List AV}{L L':Nat→Bool}:∀n,(∀j,j<n→L j=L' j)→TLp (wH all) V T0 L n=TLp (wH all) V T0 L' n
 | 0,_=>rfl
 | n+1,h=>by
  simp only[TLp]
  rw[h n (Nat.lt_succ_self n),stL n fun j hj=>h j (by omega)]
theorem qtF{all:Array Oper}(hd:DrawOk all){listed:Array Bool}(hsz:listed.size=all.size)(h:Region.ready .any all listed=[]):∀i,i<all.size→listed.getD i false=true:=by
 intro i
 induction i using Nat.strongRecOn with
 | _ i ih=>
  intro hi
  cases hl:listed.getD i false with
  | true=>rfl
  | false=>
   have ho:all[i]?=some all[i]:=Array.getElem?_eq_getElem hi
   have:i∈Region.ready .any all listed:=by
    rw[mem_ready]
    refine⟨?_,all[i],ho,fun e he hb=>?_⟩
    ·have hi':i<listed.size:=by omega
     simpa[Array.getD_eq_getD_getElem?,hi'] using hl
    ·have hlt:=hd.edge i _ ho e (by simpa using he) hb
     exact ih e.on hlt (by omega)
   rw[h] at this;cases this
theorem qkF{all:Array Oper}{listed:Array Bool}{i:Nat}{o:Oper}(hsz:listed.size=all.size)(ho:all[i]?=some o)(hc:qgR all fun j=>listed.getD j false)
  (hedge:∀e,e∈o.after.toList→Region.binds .any e=true→listed.getD e.on false=true):qgR all fun j=>(listed.setIfInBounds i true).getD j false:=by
 have hi:i<listed.size:=by rw[hsz];exact(Array.getElem?_eq_some_iff.1 ho).1
 intro j oj hj hL e he hb
 show (listed.setIfInBounds i true).getD e.on false=true
 rw[uk hi]
 split
 ·rfl
 ·by_cases hji:j=i
  ·subst hji
   rw[ho] at hj;cases hj
   exact hedge e he hb
  ·have hL':(listed.setIfInBounds i true).getD j false=true:=hL
   rw[uk hi,if_neg hji] at hL'
   exact hc j oj hj hL' e he hb
theorem qxG{h:List Blk}{b c:Nat}(hb:b≠c):(vP h c)[b]?=h[b]?:=by
 unfold vP
 split
 ·rw[List.getElem?_set_ne (fun e=>hb e.symm)]
 ·rfl
theorem qhY{b:Nat}:∀(l:List Nat) (h:List Blk),b∉l→(zr h l)[b]?=h[b]?
 | [],_,_=>rfl
 | c::l,h,hb=>by
  simp only[List.mem_cons,not_or] at hb
  simp only[zr]
  rw[qhY l _ hb.2,qxG hb.1]
theorem qkE{b:Nat}:∀(l:List Nat) (h:List Blk),b∉l→(qgM h l)[b]?=h[b]?
 | [],_,_=>rfl
 | c::l,h,hb=>by
  simp only[List.mem_cons,not_or] at hb
  simp only[qgM]
  split
  ·rw[qkE l _ hb.2,List.getElem?_set_ne (fun e=>hb.1 e.symm)]
  ·exact qkE l _ hb.2
theorem qor{b:Nat}:∀(l:List Nat) (h:List Blk) (ks:List Blk) (h':List Blk),yb h l ks=some h'→b∉l→h'[b]?=h[b]?
 | [],h,ks,h',hp,_=>by cases ks<;>(simp only[yb,Option.some.injEq] at hp;rw[hp])
 | c::l,h,[],h',hp,_=>by simp[yb] at hp
 | c::l,h,k::ks,h',hp,hb=>by
  simp only[List.mem_cons,not_or] at hb
  simp only[yb] at hp
  split at hp
  ·cases hq:yb h l ks with
   | none=>rw[hq] at hp;cases hp
   | some h2=>
    rw[hq] at hp
    simp only[Option.map_some,Option.some.injEq] at hp
    rw[←hp,List.getElem?_set_ne (fun e=>hb.1 e.symm)]
    exact qor l h ks h2 hq hb.2
  ·cases hp
theorem qg3{b:Nat}:∀(l:List Nat),b∈qjB l→b∈l
 | [],h=>h
 | a::l,h=>by
  simp only[qjB] at h
  split at h
  ·exact List.mem_cons_of_mem _ (qg3 l h)
  ·rcases List.mem_cons.1 h with rfl|h
   ·exact List.mem_cons_self
   ·exact List.mem_cons_of_mem _ (qg3 l h)
mutual
theorem qAV:∀(a:AV) (h h':List Blk),(a.lend h).men=(a.lend h').men
 | .vec b,h,h'=>by
  have:∀h,((AV.vec b).lend h).men=[]:=fun h=>by
   simp only[AV.lend]
   split<;>rfl
  rw[this,this]
 | .agg cs,h,h'=>by simp only[AV.lend,AV.men];exact qjA cs h h'
 | .tuple cs,h,h'=>by simp only[AV.lend,AV.men];exact qjA cs h h'
 | .undef,_,_|.yld,_,_|.skip,_,_|.blit _,_,_|.bool _,_,_|.ilit _ _,_,_|.int _ _,_,_|.str _,_,_|.nilp,_,_|.ptr _ _,_,_|.eptr _ _ _ _,_,_|.mptr _ _ _ _ _,_,_|.vptr _ _ _,_,_|.vsub _ _,_,_|.aptr _ _ _,_,_|.asub _ _ _ _ _,_,_|.bagg _ _ _ _,_,_|.nils,_,_|.imm _ _,_,_|.full _ _,_,_|.nilf,_,_|.fn _ _ _,_,_=>rfl
theorem qjA:∀(l:List AV) (h h':List Blk),AV.menL (AV.lendL h l)=AV.menL (AV.lendL h' l)
 | [],_,_=>rfl
 | a::l,h,h'=>by simp only[AV.lendL,AV.menL];rw[qAV a h h',qjA l h h']
end
theorem qpG{G:q0A}{args:List AV}{st:St}{r:AV×St}(h:(q2E G args st).run=some r){b:Nat}(hb:b<st.h.length)(hw:b∉qzf st.h args):r.2.h[b]?=st.h[b]?:=by
 unfold q2E at h
 unfold qzf at hw
 simp only[List.mem_append,not_or] at hw
 obtain⟨⟨w1,w2⟩,w3⟩:=hw
 have hpre:(q4R st.h args)[b]?=st.h[b]?:=by
  unfold q4R
  simp only
  rw[qkE _ _ w3,qhY _ _ w2,qhY _ _ w1]
 simp only at h
 split at h
 ·cases h
 ·obtain⟨r0,h1,h2⟩:=bind_some h
  split at h2
  ·cases h2
  ·rename_i hput
   cases h2
   have hfp:b∉qjB (AV.menL (AV.lendL (q4R st.h args) args)):=by
    intro hm
    have hm:=qg3 _ hm
    rw[qjA args (q4R st.h args) (zr st.h (args.flatMap jO))] at hm
    exact w3 hm
   have:=qor _ _ _ _ hput hfp
   rw[hpre] at this
   have hl:st.h[b]?=some st.h[b]:=List.getElem?_eq_getElem hb
   rw[hl] at this
   rw[List.getElem?_append_left (qu this),this,hl]
theorem qnp{E:Env}{h:List Blk}{t:TypeId}{p v:AV}{r:Res}(hr:(qdj E h t p v).run=some r){b:Nat}(hb:b∉p.men):r.2.1[b]?=h[b]?:=by
 unfold qdj at hr
 simp only at hr
 split at hr
 ·cases p<;>simp only at hr<;>first|(cases hr;done)|skip
  case ptr b' off=>
   have hne:b'≠b:=fun e=>hb (by simp[AV.men,e])
   split at hr
   ·split at hr
    ·cases hr;exact List.getElem?_set_ne hne
    ·cases hr
   ·cases hr
  case vptr b' i off=>
   have hne:b'≠b:=fun e=>hb (by simp[AV.men,e])
   split at hr
   ·split at hr
    ·split at hr
     ·cases hr;exact List.getElem?_set_ne hne
     ·cases hr
    ·cases hr
   ·cases hr
 ·cases hr
theorem qv5{E:Env}{h:List Blk}{t:TypeId}{p v:AV}{r:Res}(hr:(q8a E h t p v).run=some r){b:Nat}(hb:b∉p.men):r.2.1[b]?=h[b]?:=by
 unfold q8a at hr
 split at hr
 ·rename_i b' off
  have hne:b'≠b:=fun e=>hb (by simp[AV.men,e])
  split at hr
  ·unfold qAm at hr
   split at hr
   ·split at hr
    ·cases hr;exact List.getElem?_set_ne hne
    ·cases hr
   ·split at hr
    ·split at hr
     ·cases hr;exact List.getElem?_set_ne hne
     ·split at hr
      ·split at hr<;>first|(cases hr;done)|skip
       all_goals (try (cases hr;exact List.getElem?_set_ne hne))
      ·cases hr
    ·cases hr
  ·exact qnp hr hb
 ·rename_i b' o i
  have hne:b'≠b:=fun e=>hb (by simp[AV.men,e])
  split at hr
  ·split at hr
   ·split at hr
    ·simp only[Tree.run] at hr
     split at hr
     ·cases hr;exact List.getElem?_set_ne hne
     ·cases hr
    ·cases hr
   ·cases hr
  ·cases hr
 ·exact qnp hr hb
theorem qrs{ev:Operand→AV}{op:Op}{q:FuncId×List AV}(h:kx ev op=some q):qkT op=true∧∃x args tys first caps,op=.call { callee:=.value x,args:=args,argTypes:=tys }∧ev x=.fn q.1 first caps∧q.2=first++args.toList.map ev++caps:=by
 unfold kx at h
 split at h
 ·rename_i x args tys
  split at h
  ·rename_i f first caps hx
   cases h
   exact⟨rfl,x,args,tys,first,caps,rfl,hx,rfl⟩
  ·cases h
 ·cases h
theorem qvr{E:Env}{h h':List Blk}{ev:Operand→AV}{op:Op}{v:AV}(hr:(qkt E h ev op).run=some (v,h')){b:Nat}(hb:b<h.length)(hw:b∉qEp h ev op):h'[b]?=h[b]?:=by
 unfold qkt at hr
 unfold qEp at hw
 cases hc:kx ev op with
 | some q=>
  obtain⟨f,args⟩:=q
  rw[hc] at hr hw
  simp only at hr hw
  cases hs:qhn E f with
  | none=>rw[hs] at hr;cases hr
  | some G=>
   rw[hs] at hr
   obtain⟨r,h1,h2⟩:=bind_some hr
   cases h2
   exact qpG (st:={ t:=[],fs:=[],h:=h,pend:=none }) h1 hb hw
 | none=>
  rw[hc] at hr hw
  simp only at hr hw
  cases hst:qkR op with
  | true=>
   rw[hst] at hr
   obtain⟨r,h1,h2⟩:=bind_some hr
   cases op<;>first|(cases hst;done)|skip
   rename_i t x y
   simp only at hw
   split at h2
   ·cases h2
    exact qv5 h1 hw
   ·cases h2
  | false=>
   rw[hst] at hr
   obtain⟨r,h1,h2⟩:=bind_some hr
   cases h2
   rw[List.getElem?_append_left hb]
theorem qqd{f g:Operand→AV}{op:Op}(hfg:∀x∈op.operands.toList,f x=g x):kx f op=kx g op:=by
 unfold kx
 split
 ·rename_i x args tys
  rw[hfg x (by simp[Op.operands,Call.operands])]
  have:args.toList.map f=args.toList.map g:=List.map_congr_left fun y hy=>hfg y (by simp only[Op.operands,Call.operands,Array.toList_append];exact List.mem_append_right _ hy)
  rw[this]
 ·rfl
theorem qvB{E:Env}{h:List Blk}{f g:Operand→AV}{op:Op}(hfg:∀x∈op.operands.toList,f x=g x):qs3 E h f op=qs3 E h g op∧qkt E h f op=qkt E h g op:=by
 have hc:=qqd hfg
 constructor
 ·unfold qs3;rw[hc]
 ·unfold qkt
  rw[hc]
  cases kx g op with
  | some q=>rfl
  | none=>
   simp only
   cases hs:qkR op with
   | true=>
    cases op<;>first|(cases hs;done)|skip
    rename_i t x y
    have e:qlZ E h f (.store t x y)=qlZ E h g (.store t x y):=by
     unfold qlZ
     simp only
     rw[hfg x (by simp[Op.operands]),hfg y (by simp[Op.operands])]
    simp only[e]
   | false=>simp only;rw[qty hfg]
theorem qvM{E:Env}{P:Program}(hE:E.tok P)(hS:E.specs P){B:Base}{X:Ctx}{st:St}{a:Act}(hs:Sim E B X st a){o:Oper}{av:AV}{h':List Blk}
  (h:(qkt E st.h (E.opd st.t) o.op).run=some (av,h')) {next:Act→World→Prop} {Q:Exit→Act→World→Prop}
  (hq:∀X' v,Sim E B X' { st with h:=h' } a→Rep X' av v→next (a.put o.dst v) X'.w):o.wp P a X.w next Q∧∀c,o.op≠.defer c:=by
 unfold qkt at h
 cases hcl:kx (E.opd st.t) o.op with
 | some q=>
  obtain⟨f,aargs⟩:=q
  rw[hcl] at h
  simp only at h
  obtain⟨_,x,args,tys,first,caps,hop,hx,ha⟩:=qrs hcl
  simp only at hx ha
  refine⟨?_,fun c hc=>by rw[hop] at hc;cases hc⟩
  cases hsp:qhn E f with
  | none=>rw[hsp] at h;cases h
  | some G=>
   rw[hsp] at h
   obtain⟨r,h1,h2⟩:=bind_some h
   simp only[Tree.run,Option.some.injEq,Prod.mk.injEq] at h2
   obtain⟨rfl,rfl⟩:=h2
   unfold qhn at hsp
   cases hf:E.spec.find? fun x=>x.1==f with
   | none=>rw[hf] at hsp;cases hsp
   | some G'=>
    rw[hf] at hsp
    simp only[Option.map_some,Option.some.injEq] at hsp
    subst hsp
    have hG:=hS G' (List.mem_of_find?_eq_some hf)
    have hfe:G'.1=f:=by simpa using List.find?_some hf
    rw[hfe] at hG
    have hv:=q7t hs x
    rw[hx] at hv
    generalize hev:a.eval x=vx at hv
    cases hv with
    | fn _ _ _ vf vc q1 q2=>
     have hargs:=q74 hs args.toList
     have hall:RepL X aargs (vf++args.toList.map a.eval++vc):=by rw[ha];exact(q1.append hargs).append q2
     have hcs:(q2E G'.2 aargs st).run=some (r.1,{ st with h:=r.2.h }):=by
      unfold q2E at h1 ⊢
      simp only at h1 ⊢
      split at h1
      ·cases h1
      ·obtain⟨r0,k1,k2⟩:=bind_some h1
       rw[Tree.run_bind,k1]
       simp only[Option.bind_some]
       split at k2
       ·cases k2
       ·cases k2
        rfl
     have g2:=qbp hG hs hall hcs
     have g1:=hG.1 (vf++args.toList.map a.eval++vc).toArray
     unfold Oper.wp
     have hrun:(execOp a.eval o).run P X.w=.ok (.enter f (vf++args.toList.map a.eval++vc).toArray) X.w:=by
      simp only[execOp,hop,resolve,hev,Deferred.ofValue,Sem.run_bind,Sem.run_pure,Result.andThen_ok,invoke]
      have:vf.toArray++args.map a.eval++vc.toArray=(vf++args.toList.map a.eval++vc).toArray:=by
       apply Array.ext';simp
      rw[this]
      exact g1 X.w
     rw[hrun]
     refine g2.mono fun e w' ⟨v,X',e1,e2,e3,e4⟩=>?_
     subst e1 e2
     exact hq X' _ e4 e3
 | none=>
  rw[hcl] at h
  simp only at h
  have hop:(qlZ E st.h (E.opd st.t) o.op).run=some (av,h',none)∧∀c,o.op≠.defer c:=by
   cases hst:qkR o.op with
   | true=>
    rw[hst] at h
    obtain⟨r,h1,h3⟩:=bind_some h
    refine⟨?_,fun c hc=>by rw[hc] at hst;cases hst⟩
    split at h3
    ·rename_i hn
     simp only[Tree.run,Option.some.injEq,Prod.mk.injEq] at h3
     rw[h1]
     obtain⟨r1,r2,r3⟩:=r
     simp only at hn h3
     rw[hn,h3.1,h3.2]
    ·cases h3
   | false=>
    rw[hst] at h
    obtain⟨r,h1,h3⟩:=bind_some h
    simp only[Tree.run,Option.some.injEq,Prod.mk.injEq] at h3
    obtain⟨r1,r2⟩:=r
    obtain⟨g1,_,_⟩:=qyU h1
    simp only at h3
    obtain⟨rfl,rfl⟩:=h3
    exact⟨g1,fun c hc=>by rw[hc] at h1;simp[qj3,Tree.run] at h1⟩
  refine⟨?_,hop.2⟩
  obtain⟨nx,v,X',g1,g2,g3,g4,g5⟩:=qoD hE hs hop.1
  have hs2:Sim E B X' { st with h:=h' } a:=by
   have:=hs.ext g5.2 g4
   rw[g5.1] at this
   exact this
  unfold Oper.wp
  rw[g1]
  rcases g2 with rfl|⟨rfl,rfl⟩
  ·exact hq X' _ hs2 g3
  ·exact hq X' _ hs2 g3
mutual
theorem qBA:∀(a:AV) (h:List Blk) (b:Nat),b∈(a.lend h).men→b∈a.men
 | .vec c,h,b,hb=>by
  simp only[AV.lend] at hb
  split at hb<;>cases hb
 | .agg cs,h,b,hb=>by simp only[AV.lend,AV.men] at hb ⊢;exact qjF cs h b hb
 | .tuple cs,h,b,hb=>by simp only[AV.lend,AV.men] at hb ⊢;exact qjF cs h b hb
 | .undef,_,_,hb|.yld,_,_,hb|.skip,_,_,hb|.blit _,_,_,hb|.bool _,_,_,hb|.ilit _ _,_,_,hb|.int _ _,_,_,hb|.str _,_,_,hb|.nilp,_,_,hb|.ptr _ _,_,_,hb|.eptr _ _ _ _,_,_,hb|.mptr _ _ _ _ _,_,_,hb|.vptr _ _ _,_,_,hb|.vsub _ _,_,_,hb|.aptr _ _ _,_,_,hb|.asub _ _ _ _ _,_,_,hb|.bagg _ _ _ _,_,_,hb|.nils,_,_,hb|.imm _ _,_,_,hb|.nilf,_,_,hb|.fn _ _ _,_,_,hb=>hb
theorem qjF:∀(l:List AV) (h:List Blk) (b:Nat),b∈AV.menL (AV.lendL h l)→b∈AV.menL l
 | [],_,_,hb=>hb
 | a::l,h,b,hb=>by
  simp only[AV.lendL,AV.menL,List.mem_append] at hb ⊢
  exact hb.imp (qBA a h b) (qjF l h b)
end
mutual
theorem qy0:∀(a:AV) (h:List Blk),a.men=[]→a.lend h=a
 | .vec b,h,hm=>by simp[AV.men] at hm
 | .agg cs,h,hm=>by simp only[AV.lend];rw[qd9 cs h (by simpa[AV.men] using hm)]
 | .tuple cs,h,hm=>by simp only[AV.lend];rw[qd9 cs h (by simpa[AV.men] using hm)]
 | .undef,_,_|.yld,_,_|.skip,_,_|.blit _,_,_|.bool _,_,_|.ilit _ _,_,_|.int _ _,_,_|.str _,_,_|.nilp,_,_|.ptr _ _,_,_|.eptr _ _ _ _,_,_|.mptr _ _ _ _ _,_,_|.vptr _ _ _,_,_|.vsub _ _,_,_|.aptr _ _ _,_,_|.asub _ _ _ _ _,_,_|.bagg _ _ _ _,_,_|.nils,_,_|.imm _ _,_,_|.full _ _,_,_|.nilf,_,_|.fn _ _ _,_,_=>rfl
theorem qd9:∀(l:List AV) (h:List Blk),AV.menL l=[]→AV.lendL h l=l
 | [],_,_=>rfl
 | a::l,h,hm=>by
  simp only[AV.menL,List.append_eq_nil_iff] at hm
  simp only[AV.lendL]
  rw[qy0 a h hm.1,qd9 l h hm.2]
end
theorem qBo{h:List Blk}{b:Nat}{k:Blk}(hb:h[b]?=some k):h.set b k=h:=by
 apply List.ext_getElem?
 intro i
 by_cases hi:i=b
 ·subst hi;rw[List.getElem?_set_self (qu hb),hb]
 ·rw[List.getElem?_set_ne (fun e=>hi e.symm)]
def qdp(h:List Blk)(b:Nat):Bool:=match h[b]? with|some k=>k.plain|none=>false
theorem qff:∀(l:List Nat) (h:List Blk),l.all (qdp h)=true→qgM h l=h
 | [],_,_=>rfl
 | b::l,h,hl=>by
  simp only[List.all_cons,Bool.and_eq_true] at hl
  simp only[qgM]
  split
  ·rename_i cs hb
   have h1:=hl.1
   unfold qdp at h1
   rw[hb] at h1
   simp only[Blk.plain,List.isEmpty_iff] at h1
   rw[qd9 cs h h1,qBo hb]
   exact qff l h hl.2
  ·exact qff l h hl.2
theorem qb7:∀(l:List Nat) (h:List Blk),l.all (qdp h)=true→qak h l=[]
 | [],_,_=>rfl
 | b::l,h,hl=>by
  simp only[List.all_cons,Bool.and_eq_true] at hl
  simp only[qak]
  split
  ·rename_i cs hb
   have h1:=hl.1
   unfold qdp at h1
   rw[hb] at h1
   simp only[Blk.plain,List.isEmpty_iff] at h1
   have:cs.flatMap jO=[]:=by
    rw[List.flatMap_eq_nil_iff]
    intro a ha
    rw[List.eq_nil_iff_forall_not_mem]
    intro x hx
    have:=qmL ha (qkw a x hx)
    rw[h1] at this;cases this
   rw[this,qb7 l h hl.2];rfl
  ·exact qb7 l h hl.2
theorem qcC{h:List Blk}{s c:Nat}{x y:Blk}(hc:c≠s):(h.set s x).set c y=(h.set c y).set s x:=List.set_comm _ _ (fun e=>hc e.symm)
theorem qvw{h:List Blk}{s c:Nat}(hc:c≠s):vP (h.set s .dead) c=(vP h c).set s .dead:=by
 unfold vP
 rw[List.getElem?_set_ne (fun e=>hc e.symm)]
 split
 ·exact qcC hc
 ·rfl
theorem qp0{s:Nat}:∀(l:List Nat) (h:List Blk),s∉l→zr (h.set s .dead) l=(zr h l).set s .dead
 | [],_,_=>rfl
 | c::l,h,hs=>by
  simp only[List.mem_cons,not_or] at hs
  simp only[zr]
  rw[qvw (fun e=>hs.1 e.symm)]
  exact qp0 l _ hs.2
theorem qlp{s:Nat}{h:List Blk}{k:Blk}:∀(l:List Nat),s∉l→q5s (h.set s k) l=q5s h l
 | [],_=>rfl
 | c::l,hs=>by
  simp only[List.mem_cons,not_or] at hs
  simp only[q5s]
  rw[List.getElem?_set_ne (fun e=>hs.1 e),qlp l hs.2]
theorem qng{s:Nat}{h:List Blk}{d:Blk}:∀(l:List Nat) (ks:List Blk),s∉l→yb (h.set s d) l ks=(yb h l ks).map fun x=>x.set s d
 | [],ks,_=>by cases ks<;>rfl
 | c::l,[],_=>rfl
 | c::l,k::ks,hs=>by
  simp only[List.mem_cons,not_or] at hs
  simp only[yb]
  split
  ·rw[qng l ks hs.2]
   cases yb h l ks with
   | none=>rfl
   | some h2=>
    simp only[Option.map_some]
    rw[qcC (fun e=>hs.1 e.symm)]
  ·rfl
theorem qox:∀(l:List Nat) (h:List Blk),(zr h l).length=h.length
 | [],_=>rfl
 | c::l,h=>by
  simp only[zr]
  rw[qox l]
  unfold vP
  split<;>simp
theorem qnh:∀(l:List Nat) (h ks h':List Blk),yb h l ks=some h'→h'.length=h.length
 | [],h,ks,h',hp=>by cases ks<;>(simp only[yb,Option.some.injEq] at hp;rw[hp])
 | c::l,h,[],h',hp=>by simp[yb] at hp
 | c::l,h,k::ks,h',hp=>by
  simp only[yb] at hp
  split at hp
  ·cases hq:yb h l ks with
   | none=>rw[hq] at hp;cases hp
   | some h2=>
    rw[hq] at hp
    simp only[Option.map_some,Option.some.injEq] at hp
    rw[←hp,List.length_set,qnh l h ks h2 hq]
  ·cases hp
theorem qBH{args:List AV}{b:Nat}(hb:b∈args.flatMap jO):b∈AV.menL args:=by
 obtain⟨a,ha,hb⟩:=List.mem_flatMap.1 hb
 exact qmL ha (qkw a b hb)
theorem qhe{h:List Blk}{args:List AV}(hp:(AV.menL (AV.lendL (zr h (args.flatMap jO)) args)).all (qdp (zr h (args.flatMap jO)))=true):q4R h args=zr h (args.flatMap jO):=by
 unfold q4R
 simp only
 rw[qb7 _ _ hp]
 exact qff _ _ hp
theorem qrL{G:q0A}{args:List AV}{h:List Blk}{r:AV×St}(hr:(q2E G args { t:=[],fs:=[],h:=h,pend:=none }).run=some r){s:Nat}(hs:s<h.length)(hm:s∉AV.menL args)
  (hp:(AV.menL (AV.lendL (zr h (args.flatMap jO)) args)).all (qdp (zr h (args.flatMap jO)))=true) :
  (q2E G args { t:=[],fs:=[],h:=h.set s .dead,pend:=none }).run=some (r.1,{ t:=[],fs:=[],h:=r.2.h.set s .dead,pend:=none }) ∧
  (AV.menL (AV.lendL (zr (h.set s .dead) (args.flatMap jO)) args)).all (qdp (zr (h.set s .dead) (args.flatMap jO)))=true:=by
 have hv:s∉args.flatMap jO:=fun e=>hm (qBH e)
 have e1:=qp0 _ h hv
 have e2:AV.lendL ((zr h (args.flatMap jO)).set s .dead) args=AV.lendL (zr h (args.flatMap jO)) args:=qbL args fun b hb=>List.getElem?_set_ne (fun e=>by subst e;exact hm hb)
 have hfp:s∉AV.menL (AV.lendL (zr h (args.flatMap jO)) args):=fun e=>hm (qjF _ _ _ e)
 have hp':(AV.menL (AV.lendL (zr (h.set s .dead) (args.flatMap jO)) args)).all (qdp (zr (h.set s .dead) (args.flatMap jO)))=true:=by
  rw[e1,e2]
  rw[List.all_eq_true] at hp ⊢
  intro b hb
  have:=hp b hb
  unfold qdp at this ⊢
  rw[List.getElem?_set_ne (fun e=>by subst e;exact hfp hb)]
  exact this
 refine⟨?_,hp'⟩
 have k1:=qhe hp
 have k2:=qhe hp'
 unfold q2E at hr ⊢
 simp only at hr ⊢
 rw[k1] at hr
 rw[k2,e1,e2]
 have hfd:s∉qjB (AV.menL (AV.lendL (zr h (args.flatMap jO)) args)):=fun e=>hfp (qg3 _ e)
 rw[qlp _ hfd]
 generalize hh1:zr h (args.flatMap jO)=h1 at *
 have hl1:s<h1.length:=by rw[←hh1,qox];exact hs
 cases htk:q5s h1 (qjB (AV.menL (AV.lendL h1 args))) with
 | none=>rw[htk] at hr;cases hr
 | some hin=>
  rw[htk] at hr
  simp only at hr ⊢
  obtain⟨r0,q1,q2⟩:=bind_some hr
  rw[Tree.run_bind,q1]
  simp only[Option.bind_some]
  rw[qng _ _ hfd]
  cases hpt:yb h1 (qjB (AV.menL (AV.lendL h1 args))) r0.2 with
  | none=>rw[hpt] at q2;cases q2
  | some h2=>
   rw[hpt] at q2
   simp only[Option.map_some] at q2 ⊢
   cases q2
   have hl2:s<h2.length:=by rw[qnh _ _ _ _ hpt];exact hl1
   simp only[Tree.run,List.length_set,Option.some.injEq,Prod.mk.injEq,true_and]
   rw[List.set_append_left _ _ hl2]
theorem qy5{E:Env}{h:List Blk}{t:TypeId}{p v:AV}{r:Res}(hp:qCd p=true){s:Nat}(hm:s∉p.men)(hr:(q8a E h t p v).run=some r) :
  (q8a E (h.set s .dead) t p v).run=some (r.1,r.2.1.set s .dead,r.2.2):=by
 cases p<;>first|(cases hp;done)|skip
 case ptr b off=>
  have hne:b≠s:=fun e=>hm (by simp[AV.men,e])
  unfold q8a at hr ⊢
  simp only at hr ⊢
  rw[List.getElem?_set_ne (fun e=>hne e.symm)]
  have plain:∀{r:Res},(qdj E h t (.ptr b off) v).run=some r→(qdj E (h.set s .dead) t (.ptr b off) v).run=some (r.1,r.2.1.set s .dead,r.2.2):=by
   intro r hr
   unfold qdj at hr ⊢
   simp only at hr ⊢
   rw[List.getElem?_set_ne (fun e=>hne e.symm)]
   split at hr
   ·rename_i hc
    rw[if_pos hc]
    split at hr
    ·split at hr
     ·rename_i hc2
      rw[if_pos hc2]
      cases hr
      simp only[Tree.run,Option.some.injEq,Prod.mk.injEq,true_and,and_true]
      exact qcC hne
     ·cases hr
    ·cases hr
   ·cases hr
  split at hr
  ·unfold qAm at hr ⊢
   split at hr
   ·split at hr
    ·rename_i hc
     rw[if_pos hc]
     cases hr
     simp only[Tree.run,Option.some.injEq,Prod.mk.injEq,true_and,and_true]
     exact qcC hne
    ·cases hr
   ·split at hr
    ·rename_i hc
     rw[if_pos hc]
     split at hr
     ·cases hr
      simp only[Tree.run,Option.some.injEq,Prod.mk.injEq,true_and,and_true]
      exact qcC hne
     ·split at hr
      ·split at hr
       ·rename_i hc2
        rw[if_pos hc2]
        cases hr
        simp only[Tree.run,Option.some.injEq,Prod.mk.injEq,true_and,and_true]
        exact qcC hne
       ·cases hr
      ·cases hr
    ·cases hr
  ·exact plain hr
 case aptr b o i=>
  have hne:b≠s:=fun e=>hm (by simp[AV.men,e])
  unfold q8a at hr ⊢
  simp only at hr ⊢
  rw[List.getElem?_set_ne (fun e=>hne e.symm)]
  split at hr
  ·split at hr
   ·split at hr
    ·rename_i hc
     rw[if_pos hc]
     simp only[Tree.run] at hr ⊢
     split at hr
     ·cases hr
      simp only[Option.some.injEq,Prod.mk.injEq,true_and,and_true]
      exact qcC hne
     ·cases hr
    ·cases hr
   ·cases hr
  ·cases hr
theorem qzY{h h':List Blk}{s:Sh}{a:AV}(hv:qAI a=true):toU h s a=toU h' s a:=by
 cases a<;>first|(cases hv;done)|(cases s<;>rfl)
theorem qqA{h h':List Blk}:∀(sh:List Sh) (azz:List AV),azz.all qAI=true→qnn h sh azz=qnn h' sh azz
 | [],[],_=>rfl
 | [],_::_,_=>rfl
 | _::_,[],_=>rfl
 | s::sh,a::azz,hv=>by
  simp only[List.all_cons,Bool.and_eq_true] at hv
  simp only[qnn]
  rw[qzY (h':=h') hv.1,qqA (h':=h') sh azz hv.2]
theorem qAS{p:AV→Bool}{l:List AV}(h:l.all p=true)(n:Nat):(l.take n).all p=true:=by
 rw[List.all_eq_true] at h ⊢
 exact fun x hx=>h x (List.mem_of_mem_take hx)
theorem qBJ{p:AV→Bool}{l:List AV}(h:l.all p=true)(n:Nat):(l.drop n).all p=true:=by
 rw[List.all_eq_true] at h ⊢
 exact fun x hx=>h x (List.mem_of_mem_drop hx)
theorem qnt{h h':List Blk}{sh:List Sh}:∀(n:Nat) (cs:List AV),cs.all qAI=true→qfy h sh n cs=qfy h' sh n cs
 | 0,[],_=>rfl
 | 0,_::_,_=>rfl
 | n+1,cs,hv=>by
  simp only[qfy]
  rw[qqA (h':=h') _ _ (qAS hv _),qnt (h':=h') n _ (qBJ hv _)]
theorem qxY{E:Env}{h h':List Blk}{ev:Operand→AV}{op:Op}{v:AV}(hr:(qkt E h ev op).run=some (v,h')){s:Nat}(hs:s<h.length)(hq:s∉qyP ev op)(hmk:qCa h ev op=true) :
  (qkt E (h.set s .dead) ev op).run=some (v,h'.set s .dead)∧qCa (h.set s .dead) ev op=true:=by
 unfold qkt at hr ⊢
 unfold qCa at hmk ⊢
 unfold qyP at hq
 cases hc:kx ev op with
 | some q=>
  obtain⟨f,args⟩:=q
  rw[hc] at hr hmk hq
  simp only at hr hmk hq ⊢
  cases hsp:qhn E f with
  | none=>rw[hsp] at hr;cases hr
  | some G=>
   rw[hsp] at hr
   simp only at hr ⊢
   obtain⟨r,h1,h2⟩:=bind_some hr
   cases h2
   obtain⟨g1,g2⟩:=qrL h1 hs hq hmk
   refine⟨?_,g2⟩
   rw[Tree.run_bind,g1]
   rfl
 | none=>
  rw[hc] at hr hmk hq
  simp only at hr hmk hq ⊢
  cases hst:qkR op with
  | true=>
   rw[hst] at hr
   simp only at hr ⊢
   cases op<;>first|(cases hst;done)|skip
   rename_i t x y
   simp only at hmk
   obtain⟨r,h1,h2⟩:=bind_some hr
   refine⟨?_,hmk⟩
   have hm:s∉(ev x).men:=fun e=>hq (by simp[Op.operands,AV.menL,e])
   have:=qy5 hmk hm h1
   rw[Tree.run_bind,show (qlZ E (h.set s .dead) ev (.store t x y)).run=some (r.1,r.2.1.set s .dead,r.2.2) from this]
   simp only[Option.bind_some]
   obtain⟨r1,r2,r3⟩:=r
   cases r3 with
   | none=>cases h2;rfl
   | some _=>cases h2
  | false=>
   rw[hst] at hr
   simp only at hr ⊢
   cases op<;>simp only at hmk<;>first|(cases hmk;done)|skip
   case box t x=>
    refine⟨?_,rfl⟩
    unfold qj3 qoO at hr ⊢
    simp only at hr ⊢
    cases hb:qlJ (ev x) with
    | none=>rw[hb] at hr;cases hr
    | some z=>
     rw[hb] at hr
     simp only at hr ⊢
     cases hr
     simp only[Tree.bind,Tree.run,List.length_set,Option.some.injEq,Prod.mk.injEq,true_and]
     rw[List.set_append_left _ _ hs]
   case buildSlice t len parts=>
    refine⟨?_,rfl⟩
    unfold qj3 at hr ⊢
    simp only at hr ⊢
    cases hd:(E.ty t).d<;>rw[hd] at hr<;>simp only at hr ⊢<;>first|(cases hr;done)|skip
    rename_i e es
    split at hr
    ·rename_i hc
     rw[if_pos hc]
     cases hf:qb2 (fun i=>some (i*es,es)) ((List.replicate len ((E.ty e).zero.map vL)).flatten) (parts.toList.map fun p=>(p.1,ev p.2)) with
     | none=>rw[hf] at hr;cases hr
     | some cs=>
      cases hs2:E.shape 16 e with
      | none=>rw[hf,hs2] at hr;cases hr
      | some sh=>
       rw[hf,hs2] at hr
       simp only at hr ⊢
       split at hr
       ·rename_i hl
        rw[if_pos hl,qnt (h':=h) _ _ hl.2]
        cases hch:qfy h sh len cs with
        | none=>rw[hch] at hr;cases hr
        | some l=>
         rw[hch] at hr
         simp only at hr ⊢
         cases hr
         simp only[Tree.bind,Tree.run,List.length_set,Option.some.injEq,Prod.mk.injEq,true_and]
         rw[List.set_append_left _ _ hs]
       ·cases hr
    ·cases hr
   case store t x y=>cases hst
def q1k(D:Nat→Desc)(L:Nat→Bool):Nat→List Blk→List Blk
 | 0,h=>h
 | n+1,h=>match D n,L n with
  | .alc s,false=>(q1k D L n h).set s .dead
  | _,_=>q1k D L n h
def q3j(D:Nat→Desc)(L:Nat→Bool)(n a s:Nat):Prop:=a<n∧D a=.alc s∧L a=false
section
variable {D:Nat→Desc} {L L':Nat→Bool} {h:List Blk}
theorem uh(n:Nat):(∃s,D n=.alc s∧L n=false∧q1k D L (n+1) h=(q1k D L n h).set s .dead)∨((∀s,¬(D n=.alc s∧L n=false))∧q1k D L (n+1) h=q1k D L n h):=by
 simp only[q1k]
 cases hD:D n with
 | alc s=>
  cases hL:L n with
  | false=>exact .inl ⟨s,rfl,rfl,rfl⟩
  | true=>exact .inr ⟨fun s h=>(by cases h.2),rfl⟩
 | _=>exact .inr ⟨fun s h=>(by cases h.1),rfl⟩
theorem q98:∀n,(q1k D L n h).length=h.length
 | 0=>rfl
 | n+1=>by
  rcases uh (D:=D) (L:=L) (h:=h) n with⟨s,_,_,e⟩|⟨_,e⟩
  ·rw[e,List.length_set,q98 n]
  ·rw[e,q98 n]
theorem qfc{b:Nat}:∀n,(∀a s,q3j D L n a s→s≠b)→(q1k D L n h)[b]?=h[b]?
 | 0,_=>rfl
 | n+1,hb=>by
  have ih:=qfc n fun a s hm=>hb a s ⟨by have:=hm.1;omega,hm.2⟩
  rcases uh (D:=D) (L:=L) (h:=h) n with⟨s,h1,h2,e⟩|⟨_,e⟩
  ·rw[e,List.getElem?_set_ne (hb n s ⟨Nat.lt_succ_self n,h1,h2⟩),ih]
  ·rw[e,ih]
theorem qnW(n:Nat)(hall:∀a s,¬q3j D L n a s):q1k D L n h=h:=by
 apply List.ext_getElem?
 intro b
 exact qfc n fun a s hm=>absurd hm (hall a s)
theorem qhW:∀n,(∀a s,a<n→D a=.alc s→L a=L' a)→q1k D L n h=q1k D L' n h
 | 0,_=>rfl
 | n+1,hl=>by
  have ih:=qhW n fun a s ha hd=>hl a s (by omega) hd
  simp only[q1k]
  cases hD:D n with
  | alc s=>rw[←hl n s (Nat.lt_succ_self n) hD];cases L n<;>simp only[ih]
  | _=>simp only[ih]
theorem qgi{a s:Nat}(hs:s<h.length):∀n,q3j D L n a s→(q1k D L n h)[s]?=some .dead
 | 0,hm=>by have:=hm.1;omega
 | n+1,hm=>by
  rcases uh (D:=D) (L:=L) (h:=h) n with⟨s',h1,h2,e⟩|⟨h1,e⟩
  ·rw[e]
   by_cases hss:s'=s
   ·subst hss;rw[List.getElem?_set_self (by rw[q98];exact hs)]
   ·rw[List.getElem?_set_ne hss]
    have hna:a≠n:=fun e=>by
     have:=hm.2.1;rw[e,h1] at this;cases this;exact hss rfl
    exact qgi hs n ⟨by have:=hm.1;omega,hm.2⟩
  ·rw[e]
   have hna:a≠n:=fun e=>h1 s (by rw[←e];exact hm.2)
   exact qgi hs n ⟨by have:=hm.1;omega,hm.2⟩
theorem qAe{n a s:Nat}{z:Blk}(hm:q3j D L n a s)(hz:h[s]?=some z)(hd:∀a' s',q3j D L n a' s'→a'≠a→s'≠s) :
  q1k D (fun j=>if j=a then true else L j) n h=(q1k D L n h).set s z:=by
 apply List.ext_getElem?
 intro b
 by_cases hb:b=s
 ·subst hb
  rw[List.getElem?_set_self (by rw[q98];exact qu hz),qfc n,hz]
  intro a' s' hm'
  have hna:a'≠a:=fun e=>by have:=hm'.2.2;simp[e] at this
  have:=hm'.2.2
  simp only[if_neg hna] at this
  exact hd a' s' ⟨hm'.1,hm'.2.1,this⟩ hna
 ·rw[List.getElem?_set_ne (fun e=>hb e.symm)]
  have:∀n,(q1k D (fun j=>if j=a then true else L j) n h)[b]?=(q1k D L n h)[b]?:=by
   intro n
   induction n with
   | zero=>rfl
   | succ n ih=>
    by_cases hna:n=a
    ·subst hna
     rcases uh (D:=D) (L:=fun j=>if j=n then true else L j) (h:=h) n with⟨s',h1,h2,e⟩|⟨_,e⟩
     ·simp at h2
     ·rw[e,ih]
      rcases uh (D:=D) (L:=L) (h:=h) n with⟨s',h1,h2,e'⟩|⟨_,e'⟩
      ·rw[e']
       have hs':s'=s:=by have:=hm.2.1;rw[h1] at this;cases this;rfl
       rw[hs',List.getElem?_set_ne (fun e=>hb e.symm)]
      ·rw[e']
    ·rcases uh (D:=D) (L:=L) (h:=h) n with⟨s',h1,h2,e'⟩|⟨h0,e'⟩
     ·rcases uh (D:=D) (L:=fun j=>if j=a then true else L j) (h:=h) n with⟨s2,k1,k2,e⟩|⟨k0,e⟩
      ·rw[h1] at k1;cases k1
       rw[e,e']
       by_cases hbs:s'=b
       ·subst hbs
        rw[List.getElem?_set,List.getElem?_set]
        simp only[if_true,q98]
       ·rw[List.getElem?_set_ne hbs,List.getElem?_set_ne hbs,ih]
      ·exact absurd ⟨h1,by simp[hna,h2]⟩ (k0 s')
     ·rcases uh (D:=D) (L:=fun j=>if j=a then true else L j) (h:=h) n with⟨s2,k1,k2,e⟩|⟨k0,e⟩
      ·exact absurd ⟨k1,by simpa[hna] using k2⟩ (h0 s2)
      ·rw[e,e',ih]
  exact this n
theorem qtC{s:Nat}(hs:s∉qjz h):∀n,s∉qjz (q1k D L n h)
 | 0=>hs
 | n+1=>by
  have ih:=qtC hs n
  rcases uh (D:=D) (L:=L) (h:=h) n with⟨s',h1,h2,e⟩|⟨_,e⟩
  ·rw[e]
   have:∀(l:List Blk) (i:Nat),s∉qjz l→s∉qjz (l.set i .dead):=by
    intro l
    induction l with
    | nil=>intro i h;simpa using h
    | cons k l ihl=>
     intro i h
     simp only[qjz,List.mem_append,not_or] at h
     cases i with
     | zero=>simp only[List.set_cons_zero,qjz,Blk.menB,List.nil_append];exact h.2
     | succ i=>
      simp only[List.set_cons_succ,qjz,List.mem_append,not_or]
      exact⟨h.1,ihl i h.2⟩
   exact this _ _ ih
  ·rw[e];exact ih
theorem qob{E:Env}{h':List Blk}{ev:Operand→AV}{op:Op}{v:AV}(hr:(qkt E h ev op).run=some (v,h')):∀n,(∀a s,q3j D L n a s→s<h.length∧s∉qyP ev op∧qCa h ev op=true) →
  (qkt E (q1k D L n h) ev op).run=some (v,q1k D L n h')∧((∃a s,q3j D L n a s)→qCa (q1k D L n h) ev op=true)
 | 0,_=>⟨hr,fun⟨a,s,hm⟩=>by have:=hm.1;omega⟩
 | n+1,hc=>by
  obtain⟨i1,i2⟩:=qob hr n fun a s hm=>hc a s ⟨by have:=hm.1;omega,hm.2⟩
  have up:∀a s,q3j D L n a s→q3j D L (n+1) a s:=fun a s hm=>⟨by have:=hm.1;omega,hm.2⟩
  rcases uh (D:=D) (L:=L) (h:=h) n with⟨s,h1,h2,e⟩|⟨h0,e⟩
  ·rcases uh (D:=D) (L:=L) (h:=h') n with⟨s',h1',_,e'⟩|⟨h0',e'⟩
   ·rw[h1] at h1';cases h1'
    obtain⟨c1,c2,c3⟩:=hc n s ⟨Nat.lt_succ_self n,h1,h2⟩
    have hmk:qCa (q1k D L n h) ev op=true:=by
     by_cases hex:∃a s,q3j D L n a s
     ·exact i2 hex
     ·rw[qnW n fun a s hm=>hex ⟨a,s,hm⟩];exact c3
    obtain⟨g1,g2⟩:=qxY i1 (s:=s) (by rw[q98];exact c1) c2 hmk
    rw[e,e']
    exact⟨g1,fun _=>g2⟩
   ·exact absurd ⟨h1,h2⟩ (h0' s)
  ·rcases uh (D:=D) (L:=L) (h:=h') n with⟨s',h1',h2',e'⟩|⟨h0',e'⟩
   ·exact absurd ⟨h1',h2'⟩ (h0 s')
   ·rw[e,e']
    refine⟨i1,fun⟨a,s,hm⟩=>i2 ⟨a,s,?_,hm.2⟩⟩
    rcases Nat.lt_or_ge a n with ha|ha
    ·exact ha
    ·have:a=n:=by have:=hm.1;omega
     subst this
     exact absurd hm.2 (h0 s)
end
def Desc.isE:Desc→Bool
 | .eff _ _ _ _ _ _=>true
 | _=>false
def qiP(E:Env)(callS:List Blk→q8Y)(all:Array Oper)(h0:List Blk)(i:Nat)(o:Oper)(T:List AV)(v:AV)(h h':List Blk)(d:Desc):Prop:=
 (q1X all o T=some false∧v=.skip∧h'=h∧d=.skip) ∨
 (q1X all o T=some true∧∃u,(qo7 E callS h (E.opd T) o.op).run=some (u,h')∧v=qvo all i u∧d=qbZ E h (E.opd T) o.op u h') ∨
 (q1X all o T=some true∧h'=h∧∃t z s,o.op=.alloc t∧q2U E t=some z∧h0[s]?=some z∧d=.alc s∧v=.ptr s 0)
theorem qub{anc:List Nat}{x:Nat×Desc}{k:Nat}:q38 anc x k .skip=true:=by
 obtain⟨i,d⟩:=x
 cases d<;>simp[q38,q4L]
theorem qvf{anc:List Nat}{i k:Nat}{d:Desc}:q38 anc (i,.skip) k d=true:=by
 cases d<;>simp[q38,q4L]
theorem qtu{op:Op}{t:TypeId}(h:qoz op=some t):op=.alloc t:=by
 unfold qoz at h
 split at h
 ·cases h;rfl
 ·cases h
end Go.Eng

namespace Go.Eng
theorem qqx{E:Env}{callS:List Blk→q8Y}{all:Array Oper}{anc:List Nat}{h0:List Blk}:∀(l:List Oper) (k c:Nat) (ds:List (Nat×Desc)) (st st':St) (zs:List Blk),
  qiN E l=some zs→(∀j z,zs[j]?=some z→h0[c+j]?=some z)→(quk E callS all anc k l c ds st).run=some st' →
  ∃(V:Nat→AV) (H:Nat→List Blk) (D:Nat→Desc),H k=st.h∧st'={ st with t:=qbI V k l st.t,h:=H (k+l.length) } ∧
   (∀j o,l[j]?=some o→qiP E callS all h0 (k+j) o (qbI V k (l.take j) st.t) (V (k+j)) (H (k+j)) (H (k+j+1)) (D (k+j))) ∧
   (∀j,j<l.length→∀x,x∈ds→q38 anc x (k+j) (D (k+j))=true) ∧
   (∀j j',j<j'→j'<l.length→q38 anc (k+j,D (k+j)) (k+j') (D (k+j'))=true) ∧
   (∀j,j<zs.length→∃i,i<l.length∧D (k+i)=.alc (c+j))∧(∀i s,i<l.length→D (k+i)=.alc s→c≤s∧s<c+zs.length)
 | [],k,c,ds,st,st',zs,hal,_,h=>by
  simp only[quk,Tree.run,Option.some.injEq] at h
  subst h
  simp only[qiN,Option.some.injEq] at hal
  subst hal
  exact⟨fun _=>.undef,fun _=>st.h,fun _=>.skip,rfl,rfl,fun j o hj=>by simp at hj,fun j hj=>by simp at hj,fun j j' _ hj=>by simp at hj,fun j hj=>by simp at hj,fun i s hi=>by simp at hi⟩
 | o::rest,k,c,ds,st,st',zs,hal,hz,h=>by
  have fin:∀(v:AV) (h':List Blk) (d:Desc) (c':Nat) (ds':List (Nat×Desc)) (zs':List Blk),qiN E rest=some zs'→(∀j z,zs'[j]?=some z→h0[c'+j]?=some z) →
    ((c'=c∧zs'=zs∧∀s,d≠.alc s)∨(d=.alc c∧c'=c+1∧zs.length=zs'.length+1))→qiP E callS all h0 k o st.t v st.h h' d→(∀x,x∈ds→q38 anc x k d=true)→(∀x,x∈ds→x∈ds')→(d=.skip∨(k,d)∈ds') →
    (quk E callS all anc (k+1) rest c' ds' { st with t:=qgr st.t o.dst v,h:=h' }).run=some st' →
    ∃(V:Nat→AV) (H:Nat→List Blk) (D:Nat→Desc),H k=st.h∧st'={ st with t:=qbI V k (o::rest) st.t,h:=H (k+(o::rest).length) } ∧
   (∀j o',(o::rest)[j]?=some o'→qiP E callS all h0 (k+j) o' (qbI V k ((o::rest).take j) st.t) (V (k+j)) (H (k+j)) (H (k+j+1)) (D (k+j))) ∧
   (∀j,j<(o::rest).length→∀x,x∈ds→q38 anc x (k+j) (D (k+j))=true) ∧
   (∀j j',j<j'→j'<(o::rest).length→q38 anc (k+j,D (k+j)) (k+j') (D (k+j'))=true) ∧
   (∀j,j<zs.length→∃i,i<(o::rest).length∧D (k+i)=.alc (c+j))∧(∀i s,i<(o::rest).length→D (k+i)=.alc s→c≤s∧s<c+zs.length):=by
   intro v h' d c' ds' zs' hal' hz' hrel hmx hcr hds hd hr
   obtain⟨V,H,D,e1,e2,e3,e4,e5,e6,e7⟩:=qqx rest (k+1) c' ds' _ st' zs' hal' hz' hr
   have hfold:∀(l:List Oper) (t:List AV),qbI (fun j=>if j=k then v else V j) (k+1) l t=qbI V (k+1) l t:=fun l t=>qnS l (k+1) t fun j hj=>if_neg (by omega)
   refine⟨fun j=>if j=k then v else V j,fun j=>if j=k then st.h else H j,fun j=>if j=k then d else D j,by simp,?_,?_,?_,?_,?_,?_⟩
   ·rw[e2]
    simp only[qbI,if_true,List.length_cons]
    rw[hfold,if_neg (by omega),show k+(rest.length+1)=k+1+rest.length by omega]
   ·intro j o' hj
    cases j with
    | zero=>
     simp only[List.getElem?_cons_zero,Option.some.injEq] at hj
     subst hj
     simp only[Nat.add_zero,if_true,List.take_zero,qbI]
     rw[if_neg (by omega),e1]
     exact hmx
    | succ j=>
     have:=e3 j o' (by simpa using hj)
     simp only[List.take_succ_cons,qbI,if_true]
     rw[hfold,show k+(j+1)=k+1+j by omega,if_neg (by omega),if_neg (by omega),if_neg (by omega),if_neg (by omega)]
     exact this
   ·intro j hj x hx
    cases j with
    | zero=>simp only[Nat.add_zero,if_true];exact hcr x hx
    | succ j=>
     have:=e4 j (by simpa using hj) x (hds x hx)
     simp only
     rw[show k+(j+1)=k+1+j by omega,if_neg (by omega)]
     exact this
   ·intro j j' hjj hj'
    obtain⟨j'',rfl⟩:∃x,j'=x+1:=⟨j'-1,by omega⟩
    have hl:j''<rest.length:=by simpa using hj'
    simp only
    rw[show k+(j''+1)=k+1+j'' by omega,if_neg (show ¬k+1+j''=k by omega)]
    cases j with
    | zero=>
     simp only[Nat.add_zero,if_true]
     rcases hd with rfl|hd
     ·exact qvf
     ·exact e4 j'' hl _ hd
    | succ j=>
     rw[show k+(j+1)=k+1+j by omega,if_neg (by omega)]
     exact e5 j j'' (by omega) hl
   ·intro j hj
    rcases hrel with⟨rfl,rfl,_⟩|⟨rfl,rfl,hzl⟩
    ·obtain⟨i,h1,h2⟩:=e6 j hj
     refine⟨i+1,by simpa using h1,?_⟩
     simp only
     rw[show k+(i+1)=k+1+i by omega,if_neg (by omega)]
     exact h2
    ·cases j with
     | zero=>exact⟨0,by simp,by simp⟩
     | succ j=>
      obtain⟨i,h1,h2⟩:=e6 j (by omega)
      refine⟨i+1,by simpa using h1,?_⟩
      simp only
      rw[show k+(i+1)=k+1+i by omega,if_neg (by omega),h2]
      congr 1;omega
   ·intro i s hi hs
    cases i with
    | zero=>
     simp only[Nat.add_zero,if_true] at hs
     rcases hrel with⟨_,_,h3⟩|⟨h3,_,hzl⟩
     ·exact absurd hs (h3 s)
     ·rw[h3] at hs;cases hs;omega
    | succ i=>
     simp only at hs
     rw[show k+(i+1)=k+1+i by omega,if_neg (by omega)] at hs
     have:=e7 i s (by simpa using hi) hs
     rcases hrel with⟨rfl,rfl,_⟩|⟨_,rfl,hzl⟩
     ·exact this
     ·omega
  simp only[quk] at h
  simp only[qiN] at hal
  cases hao:qoz o.op with
  | some t=>
   rw[hao] at hal h
   simp only at hal h
   have hop:=qtu hao
   cases hg:o.guard with
   | some _=>rw[hg] at hal;cases hal
   | none=>
    rw[hg] at hal
    cases hab:q2U E t with
    | none=>rw[hab] at hal;cases hal
    | some z=>
     rw[hab] at hal
     cases har:qiN E rest with
     | none=>rw[har] at hal;cases hal
     | some zs'=>
      rw[har] at hal
      simp only[Option.some.injEq] at hal
      subst hal
      have hw:q1X all o st.t=some true:=by unfold q1X;rw[hg]
      rw[hw] at h
      simp only at h
      split at h
      ·rename_i hall
       rw[List.all_eq_true] at hall
       refine fin (.ptr c 0) st.h (.alc c) (c+1) _ zs' har (fun j z' hj=>?_) (.inr ⟨rfl,rfl,rfl⟩) (.inr (.inr ⟨hw,rfl,t,z,c,hop,hab,hz 0 z rfl,rfl,rfl⟩)) hall (fun x hx=>List.mem_append_left _ hx) (.inr (List.mem_append_right _ List.mem_cons_self)) h
       have:=hz (j+1) z' (by simpa using hj)
       rw[show c+1+j=c+(j+1) by omega];exact this
      ·cases h
  | none=>
   rw[hao] at hal h
   simp only at hal h
   cases hw:q1X all o st.t with
   | none=>rw[hw] at h;cases h
   | some b=>
    rw[hw] at h
    cases b with
    | true=>
     simp only at h
     obtain⟨r,h1,h2⟩:=bind_some h
     split at h2
     ·rename_i hall
      obtain⟨s,h3,h4⟩:=bind_some h2
      obtain⟨u,h'⟩:=r
      obtain rfl:=qz5 (st:={ st with h:=h' }) h3
      rw[List.all_eq_true] at hall
      exact fin _ h' _ c _ zs hal hz (.inl ⟨rfl,rfl,fun s hs=>by unfold qbZ at hs;split at hs<;>cases hs⟩) (.inr (.inl ⟨hw,u,h1,rfl,rfl⟩)) hall (fun x hx=>List.mem_append_left _ hx) (.inr (List.mem_append_right _ List.mem_cons_self)) h4
     ·cases h2
    | false=>
     simp only at h
     exact fin .skip st.h .skip c ds zs hal hz (.inl ⟨rfl,rfl,fun s hs=>by cases hs⟩) (.inl ⟨hw,rfl,rfl,rfl⟩) (fun x _=>qub) (fun x hx=>hx) (.inl rfl) h
theorem qtb{s:Nat}:∀(l:List AV) (i:Nat) (v:AV),s∉AV.menL l→s∉v.men→s∉AV.menL (l.set i v)
 | [],_,_,h,_=>by simpa using h
 | a::l,0,v,h,hv=>by
  simp only[AV.menL,List.mem_append,not_or] at h
  simp only[List.set_cons_zero,AV.menL,List.mem_append,not_or]
  exact⟨hv,h.2⟩
 | a::l,i+1,v,h,hv=>by
  simp only[AV.menL,List.mem_append,not_or] at h
  simp only[List.set_cons_succ,AV.menL,List.mem_append,not_or]
  exact⟨h.1,qtb l i v h.2 hv⟩
theorem qyy{dst:Nat→Option Tmp}{V:Nat→AV}{T0:List AV}{L:Nat→Bool}{s:Nat}(h0:s∉AV.menL T0):∀n,(∀j,j<n→L j=true→s∉(V j).men)→s∉AV.menL (TLp dst V T0 L n)
 | 0,_=>h0
 | n+1,h=>by
  have ih:=qyy (dst:=dst) (V:=V) (L:=L) h0 n fun j hj=>h j (by omega)
  simp only[TLp]
  split
  ·rename_i hl
   cases hd:dst n with
   | none=>exact ih
   | some d=>exact qtb _ _ _ ih (h n (Nat.lt_succ_self n) hl)
  ·exact ih
theorem qAr{all:Array Oper}{k:Nat}{v:AV}{s:Nat}(h:s∉v.men):s∉(qvo all k v).men:=by
 unfold qvo
 split
 ·split
  ·simp[AV.men]
  ·exact h
 ·exact h
theorem qBK{E:Env}{callS:List Blk→q8Y}{all:Array Oper}{h0:List Blk}{i:Nat}{o:Oper}{T:List AV}{v:AV}{h h':List Blk}{d:Desc}{s:Nat}(hm:qiP E callS all h0 i o T v h h' d)(hs:q4L s d=true):s∉v.men:=by
 rcases hm with⟨_,h1,_,_⟩|⟨_,u,_,h1,h2⟩|⟨_,_,t,z,s',_,_,_,h1,h2⟩
 ·rw[h1];simp[AV.men]
 ·rw[h1]
  apply qAr
  rw[h2] at hs
  unfold qbZ at hs
  split at hs
  ·simp only[q4L,Bool.and_eq_true,Bool.not_eq_true',List.contains_eq_mem,decide_eq_false_iff_not] at hs
   exact hs.1.2
  ·simp only[q4L,Bool.and_eq_true,Bool.not_eq_true',List.contains_eq_mem,decide_eq_false_iff_not] at hs
   exact hs.2
 ·rw[h2]
  rw[h1] at hs
  intro hm
  simp only[AV.men,List.mem_singleton] at hm
  subst hm
  simp[q4L] at hs
section
variable {E:Env} {P:Program} {callS:List Blk→q8Y} {B:Base} {all:Array Oper} {V:Nat→AV} {T0:List AV} {H:Nat→List Blk} {D:Nat→Desc} {fs:List (List AV)} {pd:Option Ex} {Q:Exit→Act→World→Prop} {n0 m:Nat} {h0:List Blk}
theorem qCK{h h':List Blk}{ev:Operand→AV}{op:Op}{v:AV}:(qbZ E h ev op v h').isE=qs3 E h ev op:=by
 unfold qbZ
 cases qs3 E h ev op<;>rfl
theorem qbN(hms:m≤all.size)(hV:∀i o,all[i]?=some o→i<m→qiP E callS all h0 i o (TLp (wH all) V T0 (fun _=>true) i) (V i) (H i) (H (i+1)) (D i)) :
  ∀(n lo:Nat),lo+n≤m→(∀k,lo≤k→k<lo+n→(D k).isE=false)→H (lo+n)=H lo
 | 0,_,_,_=>rfl
 | n+1,lo,hm,hno=>by
  have ih:=qbN hms hV n lo (by omega) fun k h1 h2=>hno k h1 (by omega)
  rw[←ih]
  have hk:lo+n<all.size:=by omega
  have hd:=hno (lo+n) (by omega) (by omega)
  rcases hV (lo+n) _ (Array.getElem?_eq_getElem hk) (by omega) with⟨_,_,h3,_⟩|⟨_,u,h3,_,h2⟩|⟨_,h3,_⟩
  ·exact h3
  ·rw[h2,qCK] at hd
   unfold qo7 at h3
   rw[hd] at h3
   obtain⟨v,g1,g2⟩:=bind_some h3
   simp only[Tree.run,Option.some.injEq,Prod.mk.injEq] at g2
   exact g2.2.symm
  ·exact h3
theorem qwO(hms:m≤all.size)(hV:∀i o,all[i]?=some o→i<m→qiP E callS all h0 i o (TLp (wH all) V T0 (fun _=>true) i) (V i) (H i) (H (i+1)) (D i)){b k:Nat}(hk:k<m)
  (hno:∀N w q mm v mk,D k=.eff N w q mm v mk→b<(H k).length∧b∉w):(H (k+1))[b]?=(H k)[b]?:=by
 have hk':k<all.size:=by omega
 rcases hV k _ (Array.getElem?_eq_getElem hk') hk with⟨_,_,h3,_⟩|⟨_,u,h3,_,h2⟩|⟨_,h3,_⟩
 ·rw[h3]
 ·unfold qo7 at h3
  unfold qbZ at h2
  cases he:qs3 E (H k) (E.opd (TLp (wH all) V T0 (fun _=>true) k)) all[k].op with
  | true=>
   rw[he] at h2 h3
   obtain⟨q1,q2⟩:=hno _ _ _ _ _ _ h2
   exact qvr h3 q1 q2
  | false=>
   rw[he] at h3
   obtain⟨v,g1,g2⟩:=bind_some h3
   simp only[Tree.run,Option.some.injEq,Prod.mk.injEq] at g2
   rw[←g2.2]
 ·rw[h3]
theorem qDM(hms:m≤all.size)(hV:∀i o,all[i]?=some o→i<m→qiP E callS all h0 i o (TLp (wH all) V T0 (fun _=>true) i) (V i) (H i) (H (i+1)) (D i)){k:Nat}(hk:k<m){N:Nat}{w q mm v:List Nat}{mk:Bool}
  (hd:D k=.eff N w q mm v mk):N=(H k).length∧mm=qjz (H (k+1)):=by
 have hk':k<all.size:=by omega
 rcases hV k _ (Array.getElem?_eq_getElem hk') hk with⟨_,_,_,h3⟩|⟨_,u,h3,_,h2⟩|⟨_,_,_,_,_,_,_,_,h3,_⟩
 ·rw[hd] at h3;cases h3
 ·rw[hd] at h2
  unfold qbZ at h2
  split at h2
  ·cases h2;exact⟨rfl,rfl⟩
  ·cases h2
 ·rw[hd] at h3;cases h3
theorem qrE(hms:m≤all.size)(hV:∀i o,all[i]?=some o→i<m→qiP E callS all h0 i o (TLp (wH all) V T0 (fun _=>true) i) (V i) (H i) (H (i+1)) (D i)){b:Nat} :
  ∀(n lo:Nat),lo+n≤m→(∀k,lo≤k→k<lo+n→∀N w q mm v mk,D k=.eff N w q mm v mk→b<N∧b∉w)→(H (lo+n))[b]?=(H lo)[b]?
 | 0,_,_,_=>rfl
 | n+1,lo,hm,hno=>by
  have ih:=qrE hms hV n lo (by omega) fun k h1 h2=>hno k h1 (by omega)
  rw[←ih]
  exact qwO (k:=lo+n) hms hV (by omega) fun N w q mm v mk hd=>by
   obtain⟨g1,g2⟩:=hno (lo+n) (by omega) (by omega) N w q mm v mk hd
   rw[←(qDM (k:=lo+n) hms hV (by omega) hd).1]
   exact⟨g1,g2⟩
theorem qrx(hms:m≤all.size)(hV:∀i o,all[i]?=some o→i<m→qiP E callS all h0 i o (TLp (wH all) V T0 (fun _=>true) i) (V i) (H i) (H (i+1)) (D i)){b:Nat}{z:Blk}(hz:(H 0)[b]?=some z) :
  ∀(n:Nat),n≤m→(∀k,k<n→∀N w q mm v mk,D k=.eff N w q mm v mk→b∉w)→(H n)[b]?=some z
 | 0,_,_=>hz
 | n+1,hm,hno=>by
  have ih:=qrx hms hV hz n (by omega) fun k h1=>hno k (by omega)
  rw[←ih]
  exact qwO (k:=n) hms hV (by omega) fun N w q mm v mk hd=>⟨qu ih,hno n (by omega) N w q mm v mk hd⟩
theorem qyz(hms:m≤all.size)(hV:∀i o,all[i]?=some o→i<m→qiP E callS all h0 i o (TLp (wH all) V T0 (fun _=>true) i) (V i) (H i) (H (i+1)) (D i)){s:Nat}(hz:s∉qjz (H 0)) :
  ∀(n:Nat),n≤m→(∀k,k<n→∀N w q mm v mk,D k=.eff N w q mm v mk→s∉mm)→s∉qjz (H n)
 | 0,_,_=>hz
 | n+1,hm,hno=>by
  have ih:=qyz hms hV hz n (by omega) fun k h1=>hno k (by omega)
  cases hd:D n with
  | eff N w q mm v mk=>
   rw[←(qDM (k:=n) hms hV (by omega) hd).2]
   exact hno n (by omega) N w q mm v mk hd
  | _=>
   have:=qbN hms hV 1 n (by omega) fun k h1 h2=>by
    obtain rfl:k=n:=by omega
    rw[hd];rfl
   rw[this];exact ih
theorem qmZ{r:Option (List Nat)}{n:Nat}{w:List Nat}(h:qtH r n w=true):∃R,r=some R∧∀b,b∈R→b<n∧b∉w:=by
 unfold qtH at h
 cases r with
 | none=>cases h
 | some R=>
  refine⟨R,rfl,fun b hb=>?_⟩
  simp only[List.all_eq_true,Bool.and_eq_true,Bool.not_eq_true',List.contains_eq_mem,decide_eq_false_iff_not] at h
  obtain⟨h1,h2⟩:=h b hb
  exact⟨Nat.blt_eq.mp h1,h2⟩
theorem quH{anc:List Nat}{a k s:Nat}{d:Desc}(h:q38 anc (a,.alc s) k d=true)(hn:quz anc k a=false):q4L s d=true:=by
 unfold q38 at h
 simp only[Bool.and_eq_true,hn,Bool.false_or] at h
 exact h.1
theorem qsT{anc:List Nat}{x:Nat×Desc}{k s:Nat}(h:q38 anc x k (.alc s)=true):q4L s x.2=true:=by
 unfold q38 at h
 simp only[Bool.and_eq_true] at h
 exact h.2.1
theorem qg8{s N:Nat}{w q mm v:List Nat}{mk:Bool}(h:q4L s (.eff N w q mm v mk)=true):s∉w∧s∉q∧s∉mm∧s∉v∧mk=true:=by
 simp only[q4L,Bool.and_eq_true,Bool.not_eq_true',List.contains_eq_mem,decide_eq_false_iff_not] at h
 exact⟨h.1.1.1.1,h.1.1.1.2,h.1.1.2,h.1.2,h.2⟩
theorem qlY{s:Nat}{r:Option (List Nat)}{v:List Nat}(h:q4L s (.still r v)=true):(∃R,r=some R∧s∉R)∧s∉v:=by
 cases r with
 | none=>simp[q4L] at h
 | some R=>
  simp only[q4L,Bool.and_eq_true,Bool.not_eq_true',List.contains_eq_mem,decide_eq_false_iff_not] at h
  exact⟨⟨R,rfl,h.1⟩,h.2⟩
theorem qwk(_:DrawOk all)(_:m≤all.size)(_:∀i o,all[i]?=some o→i<m→qiP E callS all h0 i o (TLp (wH all) V T0 (fun _=>true) i) (V i) (H i) (H (i+1)) (D i))
  (hX:∀i j,i<j→j<m→q38 (q6a all.toList) (i,D i) j (D j)=true)
  {L:Nat→Bool} (_:qgR all L) {a s:Nat} (hm:q3j D L m a s) {k:Nat} (hk:k<m) (hka:k≠a) (hn:quz (q6a all.toList) k a=false):q4L s (D k)=true:=by
 obtain⟨h1,h2,h3⟩:=hm
 rcases Nat.lt_or_ge a k with h|h
 ·have:=hX a k h hk
  rw[h2] at this
  exact quH this hn
 ·have:=hX k a (by omega) h1
  rw[h2] at this
  exact qsT this
theorem qad(hd:DrawOk all)(hms:m≤all.size)(hV:∀i o,all[i]?=some o→i<m→qiP E callS all h0 i o (TLp (wH all) V T0 (fun _=>true) i) (V i) (H i) (H (i+1)) (D i))
  (hX:∀i j,i<j→j<m→q38 (q6a all.toList) (i,D i) j (D j)=true)
  {L:Nat→Bool} (hc:qgR all L) {a s:Nat} (hm:q3j D L m a s) {k:Nat} (hk:k<m) (hL:L k=true):q4L s (D k)=true:=by
 refine qwk hd hms hV hX hc hm hk (fun e=>?_) ?_
 ·rw[e,hm.2.2] at hL;cases hL
 ·cases hb:quz (q6a all.toList) k a with
  | false=>rfl
  | true=>
   have:=qp2 hd hc k a hL hb
   rw[hm.2.2] at this;cases this
theorem qA3(hE:E.tok P)(hS:E.specs P)(hc:qie E P callS)(hmo:q9s E callS)(hd:DrawOk all)(hms:m≤all.size)
    (hV:∀i o,all[i]?=some o→i<m→qiP E callS all (H 0) i o (TLp (wH all) V T0 (fun _=>true) i) (V i) (H i) (H (i+1)) (D i))
    (hX:∀i j,i<j→j<m→q38 (q6a all.toList) (i,D i) j (D j)=true)
    (hsl:∀i s,i<m→D i=.alc s→s∉AV.menL T0∧s∉quu fs∧s∉qjz (H 0))
    (hq:all.size≤m→∀X a,Sim E B X { t:=TLp (wH all) V T0 (fun _=>true) all.size,fs:=fs,pend:=pd,h:=H m } a→Q .normal a X.w)
    (hlast:∀i fuel listed X a,i<all.size→m≤i→listed.size=all.size→i∈Region.ready .any all listed→qgR all (fun j=>listed.getD j false)→(∀j,m≤j→j<all.size→listed.getD j false=false)→(∀j,j<m→listed.getD j false=true) →
      Sim E B X { t:=TLp (wH all) V T0 (fun j=>listed.getD j false) all.size,fs:=fs,pend:=pd,h:=H m } a →
      unl listed all.size≤fuel+1→wpOpIn (q3s B.ro) n0 P all Q i (wpAnyIn (q3s B.ro) n0 P .any all Q fuel (listed.setIfInBounds i true)) a X.w)
    (hsuf:∀i j,m≤i→i<all.size→j<i→((q6a all.toList).getD i 0).testBit j=true) :
    ∀(fuel:Nat) (listed:Array Bool) (X:Ctx) (a:Act) (t:Nat),listed.size=all.size→qgR all (fun j=>listed.getD j false)→(∀i,m≤i→i<all.size→listed.getD i false=false) →
      t≤m→(∀k,k<t→(D k).isE=true→listed.getD k false=true)→(∀k,t≤k→k<m→(D k).isE=true→listed.getD k false=false) →
      unl listed all.size≤fuel→Sim E B X { t:=TLp (wH all) V T0 (fun j=>listed.getD j false) all.size,fs:=fs,pend:=pd,h:=q1k D (fun j=>listed.getD j false) m (H t) } a→wpAnyIn (q3s B.ro) n0 P .any all Q fuel listed a X.w:=by
  intro fuel
  have toEnd:∀(listed:Array Bool) (t:Nat),t≤m→(∀k,t≤k→k<m→(D k).isE=true→listed.getD k false=false)→(∀j,j<m→listed.getD j false=true)→q1k D (fun j=>listed.getD j false) m (H t)=H m:=by
    intro listed t htm h2 hall
    have:=qbN hms hV (m-t) t (by omega) fun k k1 k2=>by
      cases hde:(D k).isE with
      | false=>rfl
      | true=>have:=h2 k k1 (by omega) hde;rw[hall k (by omega)] at this;cases this
    rw[show t+(m-t)=m by omega] at this
    rw[this]
    exact qnW m fun a s hm=>by
      have h3:listed.getD a false=false:=hm.2.2
      rw[hall a hm.1] at h3;cases h3
  have fin:∀(listed:Array Bool) (X:Ctx) (a:Act) (t:Nat),listed.size=all.size→(∀i,m≤i→i<all.size→listed.getD i false=false)→t≤m→(∀k,t≤k→k<m→(D k).isE=true→listed.getD k false=false)→Region.ready .any all listed=[] →
      Sim E B X { t:=TLp (wH all) V T0 (fun j=>listed.getD j false) all.size,fs:=fs,pend:=pd,h:=q1k D (fun j=>listed.getD j false) m (H t) } a→Q .normal a X.w:=by
    intro listed X a t hsz hm htm h2 hr hs
    have hall:=qtF hd hsz hr
    rcases Nat.lt_or_ge m all.size with hlt|hge
    · have:=hm m (Nat.le_refl _) hlt
      rw[hall m hlt] at this;cases this
    · rw[toEnd listed t htm h2 fun j hj=>hall j (by omega)] at hs
      rw[stL (L':=fun _=>true) all.size fun j hj=>hall j hj] at hs
      exact hq hge X a hs
  induction fuel with
  | zero =>
    intro listed X a t hsz hcl hm htm h1 h2 hu hs
    have hr:Region.ready .any all listed=[]:=by
      apply List.eq_nil_iff_forall_not_mem.2
      intro j hj
      rw[mem_ready] at hj
      obtain⟨h1,o,h2,_⟩:=hj
      have hj':=(Array.getElem?_eq_some_iff.1 h2).1
      have:=qra (listed:=listed) (Nat.le_zero.1 hu) j hj'
      have hj2:j<listed.size:=by omega
      simp[Array.getD_eq_getD_getElem?,hj2] at this h1
      rw[this] at h1;cases h1
    exact⟨hr,fin listed X a t hsz hm htm h2 hr hs⟩
  | succ fuel ih =>
    intro listed X a t hsz hcl hm htm hlo hhi hu hs
    refine⟨fun hr=>fin listed X a t hsz hm htm hhi hr hs,fun i hi=>?_⟩
    have hri:=hi
    rw[mem_ready] at hi
    obtain⟨h1,o,ho,hedge⟩:=hi
    have hin:=(Array.getElem?_eq_some_iff.1 ho).1
    have hil:i<listed.size:=by omega
    have hLi:listed.getD i false=false:=by simpa[Array.getD_eq_getD_getElem?,hil] using h1
    have hedge':∀e,e∈o.after.toList→Region.binds .any e=true→listed.getD e.on false=true:=fun e he hb=>hedge e (by simpa using he) hb
    have hcl':=qkF hsz ho hcl hedge'
    have hget:∀j,(listed.setIfInBounds i true).getD j false=if j=i then true else listed.getD j false:=fun j=>uk hil
    have before:∀k,k≠i→quz (q6a all.toList) i k=true→listed.getD k false=true:=by
      intro k hki hk
      have:=qp2 hd hcl' i k (by show (listed.setIfInBounds i true).getD i false=true;rw[uk hil,if_pos rfl]) hk
      have h':(listed.setIfInBounds i true).getD k false=true:=this
      rwa [uk hil,if_neg hki] at h'
    have behind:∀k,quz (q6a all.toList) k i=true→listed.getD k false=false:=by
      intro k hk
      cases hl:listed.getD k false with
      | false=>rfl
      | true =>
        have:=qp2 hd hcl k i hl hk
        have h':listed.getD i false=true:=this
        rw[hLi] at h';cases h'
    have mind:∀b s,q3j D (fun j=>listed.getD j false) m b s→b≠i→i<m→q4L s (D i)=true:=by
      intro b s hb hbi him
      refine qwk hd hms hV hX hcl hb him (fun e=>hbi e.symm) ?_
      cases hb':quz (q6a all.toList) i b with
      | false=>rfl
      | true =>
        have:=before b hbi hb'
        have h3:listed.getD b false=false:=hb.2.2
        rw[h3] at this;cases this
    rcases Nat.lt_or_ge i m with him|him
    · have hv:=hV i o ho him
      have hsame:∀t,t∈qxZ all o→(TLp (wH all) V T0 (fun j=>listed.getD j false) all.size)[t]?=(TLp (wH all) V T0 (fun _=>true) i)[t]?:=fun t ht =>
        qCE hd hcl ho (Nat.le_of_lt hin) hLi hedge' ht
      have hopd:∀x,x∈o.op.operands.toList→E.opd (TLp (wH all) V T0 (fun j=>listed.getD j false) all.size) x=E.opd (TLp (wH all) V T0 (fun _=>true) i) x:=fun x hx=>by
        cases x with
        | tmp t =>
          have:=hsame t (List.mem_append_left _ (List.mem_filterMap.2 ⟨.tmp t,hx,rfl⟩))
          simp only[Env.opd,List.getD_eq_getElem?_getD]
          rw[this]
        | const v=>rfl
        | global g=>rfl
        | func f=>rfl
      have hwant:q1X all o (TLp (wH all) V T0 (fun j=>listed.getD j false) all.size)=q1X all o (TLp (wH all) V T0 (fun _=>true) i):=by
        unfold q1X
        cases hg:o.guard with
        | none=>rfl
        | some p =>
          obtain⟨j,want⟩:=p
          simp only
          cases hj:(all[j]?).bind (·.dst) with
          | none=>rfl
          | some d =>
            simp only
            rw[hsame d (by simp[qxZ,hg,hj])]
      have hun:unl (listed.setIfInBounds i true) all.size≤fuel:=by
        have:=(qvb hil hLi all.size).2 hin;omega
      have hdi:wH all i=o.dst:=by simp[wH,ho]
      have hmask:(∀s,D i≠.alc s)→∀h,q1k D (fun j=>(listed.setIfInBounds i true).getD j false) m h=q1k D (fun j=>listed.getD j false) m h:=fun hna h=>qhW m fun k s _ hk=>by
        rw[hget k,if_neg (fun e=>by subst e;exact hna s hk)]
      have hnext:∀(X':Ctx) (u:Value) (t':Nat),t'≤m→(∀k,k<t'→(D k).isE=true→k=i∨listed.getD k false=true)→(∀k,t'≤k→k<m→(D k).isE=true→k≠i∧listed.getD k false=false) →
          Sim E B X' { t:=TLp (wH all) V T0 (fun j=>listed.getD j false) all.size,fs:=fs,pend:=pd,h:=q1k D (fun j=>(listed.setIfInBounds i true).getD j false) m (H t') } a→Rep X' (V i) u →
          wpAnyIn (q3s B.ro) n0 P .any all Q fuel (listed.setIfInBounds i true) (a.put o.dst u) X'.w:=by
        intro X' u t' ht' k1 k2 hs' hu'
        refine ih _ X' _ t' (by simp[hsz]) hcl' ?_ ht' ?_ ?_ hun ?_
        · intro k hk1 hk2
          rw[uk hil,if_neg (by omega)]
          exact hm k hk1 hk2
        · intro k hk hke
          rw[uk hil]
          rcases k1 k hk hke with rfl|h
          · rw[if_pos rfl]
          · split
            · rfl
            · exact h
        · intro k hk hk2 hke
          obtain⟨g1,g2⟩:=k2 k hk hk2 hke
          rw[uk hil,if_neg g1];exact g2
        · have hput:=hs'.put hu' o.dst
          have hT:TLp (wH all) V T0 (fun j=>(listed.setIfInBounds i true).getD j false) all.size=qgr (TLp (wH all) V T0 (fun j=>listed.getD j false) all.size) o.dst (V i):=by
            rw[←hdi,←qD8 hin hLi]
            · exact stL all.size fun j _=>uk hil
            · intro k hk hki t ht he
              cases hk':all[k]? with
              | none=>simp[wH,hk'] at he
              | some ok =>
                simp only[wH,hk',Option.bind_some] at he
                rw[hdi] at ht
                exact(hd.dst i k o ok ho hk' hki t he).1 ht
          rw[hT]
          exact hput
      have between:∀k,k<m→(D k).isE=true→(t≤k∧k<i∨i<k∧k<t)→quz (q6a all.toList) i k=false∧quz (q6a all.toList) k i=false:=by
        intro k hkm hke hk
        rcases hk with⟨q1,q2⟩|⟨q1,q2⟩
        · have hLk:=hhi k q1 hkm hke
          refine⟨?_,?_⟩
          · cases hb:quz (q6a all.toList) i k with
            | false=>rfl
            | true=>rw[before k (by omega) hb] at hLk;cases hLk
          · cases hb:quz (q6a all.toList) k i with
            | false=>rfl
            | true=>have:=qwH hd k i hb;omega
        · have hLk:=hlo k q2 hke
          refine⟨?_,?_⟩
          · cases hb:quz (q6a all.toList) i k with
            | false=>rfl
            | true=>have:=qwH hd i k hb;omega
          · cases hb:quz (q6a all.toList) k i with
            | false=>rfl
            | true=>rw[behind k hb] at hLk;cases hLk
      unfold wpOpIn
      rw[ho]
      simp only
      rcases hv with⟨w1,w2,w3,w4⟩|⟨w1,u,w3,w4,w2⟩|⟨w1,w3,ty,z,s,w4,w5,w6,w7,w8⟩
      ·
        rw[q5w hs.t (hwant.trans w1)]
        simp only[Bool.false_eq_true,if_false]
        refine⟨fun _ _=>trivial,hnext X _ t htm (fun k hk hke=>.inr (hlo k hk hke)) (fun k hk hk2 hke=>⟨fun e=>?_,hhi k hk hk2 hke⟩) (by rw[hmask fun s e=>by rw[w4] at e;cases e];exact hs) (by rw[w2];exact .skip)⟩
        rw[e,w4] at hke;cases hke
      · rw [q5w hs.t (hwant.trans w1)]
        simp only[if_true]
        unfold qo7 at w3
        have hna:∀s,D i≠.alc s:=fun s e=>by rw[w2] at e;unfold qbZ at e;split at e<;>cases e
        cases he:qs3 E (H i) (E.opd (TLp (wH all) V T0 (fun _=>true) i)) o.op with
        | true =>
          rw[he] at w3
          have hDi:(D i).isE=true:=by rw[w2,qCK];exact he
          have hDi2:D i=.eff (H i).length (qEp (H i) (E.opd (TLp (wH all) V T0 (fun _=>true) i)) o.op) (qyP (E.opd (TLp (wH all) V T0 (fun _=>true) i)) o.op) (qjz (H (i+1))) u.men (qCa (H i) (E.opd (TLp (wH all) V T0 (fun _=>true) i)) o.op):=by
            rw[w2];unfold qbZ;rw[he]
          have hbet:∀k,k<m→(D k).isE=true→¬(t≤k∧k<i∨i<k∧k<t):=by
            intro k hkm hke hk
            obtain⟨g1,g2⟩:=between k hkm hke hk
            rcases hk with⟨q1,q2⟩|⟨q1,q2⟩
            · have:=hX k i q2 him
              unfold q38 at this
              cases hDk:D k<;>rw[hDk] at hke<;>first|(cases hke;done)|skip
              cases hDi':D i<;>rw[hDi'] at hDi<;>first|(cases hDi;done)|skip
              rw[hDk,hDi'] at this
              simp only[Bool.true_and] at this
              rw[g1] at this;cases this
            · have:=hX i k q1 hkm
              unfold q38 at this
              cases hDk:D k<;>rw[hDk] at hke<;>first|(cases hke;done)|skip
              cases hDi':D i<;>rw[hDi'] at hDi<;>first|(cases hDi;done)|skip
              rw[hDk,hDi'] at this
              simp only[Bool.true_and] at this
              rw[g2] at this;cases this
          have hHt:H t=H i:=by
            rcases Nat.le_total t i with hti|hti
            · have:=qbN hms hV (i-t) t (by omega) fun k k1 k2=>by
                cases hde:(D k).isE with
                | false=>rfl
                | true=>exact absurd (.inl ⟨k1,by omega⟩) (hbet k (by omega) hde)
              rw[show t+(i-t)=i by omega] at this
              exact this.symm
            · rcases Nat.eq_or_lt_of_le hti with hti|hti
              · rw[hti]
              · have:=hlo i hti hDi
                rw[hLi] at this;cases this
          rw[hHt] at hs
          have w3':=(qob (D:=D) (L:=fun j=>listed.getD j false) w3 m fun b s hb=>by
            have hbi:b≠i:=fun e=>hna s (by rw[←e];exact hb.2.1)
            have:=mind b s hb hbi him
            rw[hDi2] at this
            obtain⟨_,q2,_,_,q5⟩:=qg8 this
            refine⟨?_,q2,q5⟩
            have hz:∃z,(H 0)[s]?=some z:=by
              rcases hV b _ (Array.getElem?_eq_getElem (by have:=hb.1;omega)) hb.1 with⟨_,_,_,q⟩|⟨_,u,_,_,q⟩|⟨_,_,_,z,s',_,_,q1,q,_⟩
              · rw[hb.2.1] at q;cases q
              · have q':=hb.2.1.symm.trans q
                unfold qbZ at q';split at q'<;>cases q'
              · rw[hb.2.1] at q;cases q;exact⟨z,q1⟩
            obtain⟨z,hz⟩:=hz
            have:=qrx hms hV hz t htm fun k hk N w q mm v mk hDk=>by
              have:=qad hd hms hV hX hcl hb (k:=k) (by omega) (hlo k hk (by rw[hDk];rfl))
              rw[hDk] at this
              exact(qg8 this).1
            rw[hHt] at this
            exact qu this).1
          have hcg:=qvB (E:=E) (h:=q1k D (fun j=>listed.getD j false) m (H i)) hopd
          rw[←hcg.2] at w3'
          obtain⟨g1,g2⟩:=qvM hE hS (st:={ t:=TLp (wH all) V T0 (fun j=>listed.getD j false) all.size,fs:=fs,pend:=pd,h:=q1k D (fun j=>listed.getD j false) m (H i) }) hs w3' (o:=o)
            (next:=fun a w=>wpAnyIn (q3s B.ro) n0 P .any all Q fuel (listed.setIfInBounds i true) a w) (Q:=Q) fun X' v hs' hv' =>
              hnext X' v (i+1) (by omega) (fun k hk hke=>by
                rcases Nat.lt_or_ge k i with hki|hki
                · right
                  rcases Nat.lt_or_ge k t with hkt|hkt
                  · exact hlo k hkt hke
                  · exact absurd (.inl ⟨hkt,hki⟩) (hbet k (by omega) hke)
                · exact .inl (by omega)) (fun k hk hk2 hke=>⟨by omega,by
                rcases Nat.lt_or_ge k t with hkt|hkt
                · exact absurd (.inr ⟨by omega,hkt⟩) (hbet k hk2 hke)
                · exact hhi k hkt hk2 hke⟩) (by rw[hmask hna];exact hs') (by rw[w4];exact qu7 hv')
          exact qnu B.ro n0 g1 g2
        | false =>
          rw[he] at w3
          obtain⟨av,k1,k2⟩:=bind_some w3
          simp only[Tree.run,Option.some.injEq,Prod.mk.injEq] at k2
          obtain⟨rfl,_⟩:=k2
          have hDi:(D i).isE=false:=by rw[w2,qCK];exact he
          have hDi':D i=.still (qCx E (E.opd (TLp (wH all) V T0 (fun _=>true) i)) o.op) av.men:=by rw[w2];unfold qbZ;rw[he]
          have hclear:∀k N w q mm v mk,k<m→D k=.eff N w q mm v mk→(t≤k∧k<i∨i<k∧k<t)→qtH (qCx E (E.opd (TLp (wH all) V T0 (fun _=>true) i)) o.op) N w=true:=by
            intro k N w q mm v mk hkm hk hkk
            obtain⟨g1,g2⟩:=between k hkm (by rw[hk];rfl) hkk
            rcases hkk with⟨q1,q2⟩|⟨q1,q2⟩
            · have:=hX k i q2 him
              rw[hk,hDi'] at this
              simp only[q38,Bool.true_and] at this
              rw[g1] at this
              simpa using this
            · have:=hX i k q1 hkm
              rw[hk,hDi'] at this
              simp only[q38,Bool.true_and] at this
              rw[g2] at this
              simpa using this
          have hval:(q8Z E (callS (q1k D (fun j=>listed.getD j false) m (H t))) (q1k D (fun j=>listed.getD j false) m (H t)) (E.opd (TLp (wH all) V T0 (fun _=>true) i)) o.op).run=some av:=by
            have hR:(∃R,qCx E (E.opd (TLp (wH all) V T0 (fun _=>true) i)) o.op=some R∧∀b,b∈R→(H t)[b]?=(H i)[b]?)∨H t=H i:=by
              by_cases hno:∃k N w q mm v mk,k<m∧D k=.eff N w q mm v mk∧(t≤k∧k<i∨i<k∧k<t)
              · obtain⟨k,N,w,q,mm,v,mk,a1,a2,a3⟩:=hno
                obtain⟨R,r1,_⟩:=qmZ (hclear k N w q mm v mk a1 a2 a3)
                refine .inl ⟨R,r1,fun b hb=>?_⟩
                have clr:∀k N w q mm v mk,k<m→D k=.eff N w q mm v mk→(t≤k∧k<i∨i<k∧k<t)→b<N∧b∉w:=by
                  intro k N w q mm v mk b1 b2 b3
                  obtain⟨R',q1,q2⟩:=qmZ (hclear k N w q mm v mk b1 b2 b3)
                  rw[r1] at q1;cases q1
                  exact q2 b hb
                rcases Nat.le_total t i with hti|hti
                · have:=qrE hms hV (b:=b) (i-t) t (by omega) fun k c1 c2 N w q mm v mk c3=>clr k N w q mm v mk (by omega) c3 (.inl ⟨c1,by omega⟩)
                  rw[show t+(i-t)=i by omega] at this
                  exact this.symm
                · have:=qrE hms hV (b:=b) (t-i) i (by omega) fun k c1 c2 N w q mm v mk c3=>clr k N w q mm v mk (by omega) c3 (.inr ⟨by
                    rcases Nat.eq_or_lt_of_le c1 with c1|c1
                    · rw[←c1,hDi'] at c3;cases c3
                    · exact c1,by omega⟩)
                  rw[show i+(t-i)=t by omega] at this
                  exact this
              · right
                rcases Nat.le_total t i with hti|hti
                · have:=qbN hms hV (i-t) t (by omega) fun k c1 c2=>by
                    cases hDk:D k with
                    | eff N w q mm v mk=>exact absurd ⟨k,N,w,q,mm,v,mk,by omega,hDk,.inl ⟨c1,by omega⟩⟩ hno
                    | _=>rfl
                  rw[show t+(i-t)=i by omega] at this
                  exact this.symm
                · have:=qbN hms hV (t-i) i (by omega) fun k c1 c2=>by
                    cases hDk:D k with
                    | eff N w q mm v mk =>
                      rcases Nat.eq_or_lt_of_le c1 with c1|c1
                      · rw[←c1,hDi'] at hDk;cases hDk
                      · exact absurd ⟨k,N,w,q,mm,v,mk,by omega,hDk,.inr ⟨c1,by omega⟩⟩ hno
                    | _=>rfl
                  rw[show i+(t-i)=t by omega] at this
                  exact this
            by_cases hmi:∃b s,q3j D (fun j=>listed.getD j false) m b s
            · obtain⟨b0,s0,hb0⟩:=hmi
              have hbi:∀b s,q3j D (fun j=>listed.getD j false) m b s→b≠i:=fun b s hb e=>hna s (by rw[←e];exact hb.2.1)
              have hm0:=mind b0 s0 hb0 (hbi b0 s0 hb0) him
              rw[hDi'] at hm0
              obtain⟨⟨R,r1,_⟩,_⟩:=qlY hm0
              refine qlo hmo r1 (fun b hb=>?_) k1
              rw[qfc m fun c s hcs e=>?_]
              · rcases hR with⟨R',r2,r3⟩|hR
                · rw[r1] at r2;cases r2
                  exact r3 b hb
                · rw[hR]
              · have:=mind c s hcs (hbi c s hcs) him
                rw[hDi',r1] at this
                obtain⟨⟨R',r2,r3⟩,_⟩:=qlY this
                cases r2
                rw[e] at r3
                exact r3 hb
            · rw[qnW m fun b s hb=>hmi ⟨b,s,hb⟩]
              rcases hR with⟨R,r1,r2⟩|hR
              · exact qlo hmo r1 r2 k1
              · rw[hR];exact k1
          rw[←qrC hopd] at hval
          refine qnu B.ro n0 (qrV hE hc hs hval fun X' v hs' hv'=>hnext X' v t htm (fun k hk hke=>.inr (hlo k hk hke)) (fun k hk hk2 hke=>⟨fun e=>?_,hhi k hk hk2 hke⟩) (by rw[hmask hna];exact hs') (by rw[w4];exact qu7 hv')) (fun c hc=>by rw[hc] at hval;simp[q8Z,qbA,Tree.run] at hval)
          rw[e,hDi] at hke;cases hke
      ·
        rw[q5w hs.t (hwant.trans w1)]
        simp only[if_true]
        have hmi:q3j D (fun j=>listed.getD j false) m i s:=⟨him,w7,hLi⟩
        have hzt:(H t)[s]?=some z:=qrx hms hV w6 t htm fun k hk N w q mm v mk hDk=>by
          have:=qad hd hms hV hX hcl hmi (k:=k) (by omega) (hlo k hk (by rw[hDk];rfl))
          rw[hDk] at this
          exact(qg8 this).1
        have hmt:s∉qjz (H t):=qyz hms hV (hsl i s him w7).2.2 t htm fun k hk N w q mm v mk hDk=>by
          have:=qad hd hms hV hX hcl hmi (k:=k) (by omega) (hlo k hk (by rw[hDk];rfl))
          rw[hDk] at this
          exact(qg8 this).2.2.1
        have hdead:=qgi (D:=D) (L:=fun j=>listed.getD j false) (h:=H t) (qu hzt) m hmi
        have htm2:s∉AV.menL (TLp (wH all) V T0 (fun j=>listed.getD j false) all.size):=qyy (hsl i s him w7).1 _ fun j hj hLj=>by
          have hjm:j<m:=by
            rcases Nat.lt_or_ge j m with h|h
            · exact h
            · have:=hm j h hj
              rw[show listed.getD j false=true from hLj] at this;cases this
          exact qBK (hV j _ (Array.getElem?_eq_getElem hj) hjm) (qad hd hms hV hX hcl hmi hjm hLj)
        have hDi:(D i).isE=false:=by rw[w7];rfl
        refine qnu B.ro n0 (qrK hE hs w4 w5 hdead (qtC hmt m) htm2 (hsl i s him w7).2.1 fun X' v hs' hv'=>hnext X' v t htm (fun k hk hke=>.inr (hlo k hk hke)) (fun k hk hk2 hke=>⟨fun e=>?_,hhi k hk hk2 hke⟩) ?_ (by rw[w8];exact hv')) (fun c hc=>by rw[hc] at w4;cases w4)
        · rw[e,hDi] at hke;cases hke
        · have e1:=qAe (D:=D) (L:=fun j=>listed.getD j false) (h:=H t) hmi hzt fun a' s' hm' hne=>by
            intro e
            have:=mind a' s' hm' hne him
            rw[w7,e] at this
            simp[q4L] at this
          have e2:q1k D (fun j=>(listed.setIfInBounds i true).getD j false) m (H t)=q1k D (fun j=>if j=i then true else listed.getD j false) m (H t):=qhW m fun k _ _ _=>hget k
          rw[e2,e1]
          exact hs'
    · have hall:∀j,j<m→listed.getD j false=true:=fun j hj=>before j (by omega) (hsuf i j him hin (by omega))
      rw[toEnd listed t htm hhi hall] at hs
      exact hlast i fuel listed X a hin him hsz hri hcl hm hall hs hu
end
theorem qnJ{n:Nat}(i:Nat):(Array.replicate n false).getD i false=false:=by
 rcases Nat.lt_or_ge i n with h|h<;>simp[Array.getD_eq_getD_getElem?,h]
theorem qC0(listed:Array Bool):∀n,unl listed n≤n
 | 0=>Nat.le_refl _
 | n+1=>by simp only[unl];have:=qC0 listed n;split<;>omega
theorem qBt(all:Array Oper):q1S all≤all.size:=by
 unfold q1S
 simp only
 cases hf:(List.range all.toList.length).find? _ with
 | none=>simp
 | some m=>
  have:=List.mem_of_find?_eq_some hf
  simp at this
  simp;omega
theorem qlj(all:Array Oper){i j:Nat}(hj:q1S all≤j)(hjn:j<all.size)(hij:i<j):((q6a all.toList).getD j 0).testBit i=true:=by
 unfold q1S at hj
 simp only at hj
 cases hf:(List.range all.toList.length).find? (fun m=>(List.range all.toList.length).all fun j=>decide (j<m)||(List.range j).all fun i=>((q6a all.toList).getD j 0).testBit i) with
 | none=>rw[hf] at hj;simp at hj;omega
 | some m=>
  rw[hf] at hj
  simp only[Option.getD_some] at hj
  have h:=List.find?_some hf
  rw[List.all_eq_true] at h
  have h2:=h j (List.mem_range.2 (by simpa using hjn))
  simp only[Bool.or_eq_true,decide_eq_true_eq,List.all_eq_true,List.mem_range] at h2
  rcases h2 with h2|h2
  ·omega
  ·exact h2 i hij
section
variable {E:Env} {P:Program} {B:Base} {all:Array Oper} {Q:Exit→Act→World→Prop} {callH:q7E} {n0:Nat}
theorem qzp(hE:E.tok P)(hcH:CallOK E P callH B)(hd:DrawOk all){st':St}(hq:∀X' a',Sim E B X' st' a'→Q .normal a' X'.w):∀(l:List Oper) (i:Nat),all.toList.drop i=l→q1S all≤i →
  ∀(fuel:Nat) (listed:Array Bool) (X:Ctx) (a:Act) (st:St),listed.size=all.size→(∀j,j<i→j<all.size→listed.getD j false=true)→(∀j,i≤j→listed.getD j false=false)→unl listed all.size≤fuel →
   Sim E B X st a→(qi7 E callH all i l st).run=some st'→wpAnyIn (q3s B.ro) n0 P .any all Q fuel listed a X.w:=by
 intro l
 induction l with
 | nil=>
  intro i hl hm fuel listed X a st hsz hlo hhi hun hs h
  simp only[qi7,Tree.run,Option.some.injEq] at h
  subst h
  have hi:all.size≤i:=by simpa using List.drop_eq_nil_iff.1 hl
  have hr:Region.ready .any all listed=[]:=by
   apply List.eq_nil_iff_forall_not_mem.2
   intro j hj
   rw[mem_ready] at hj
   obtain⟨q1,o',q2,_⟩:=hj
   have hj':=(Array.getElem?_eq_some_iff.1 q2).1
   have hjt:=hlo j (by omega) hj'
   have hj2:j<listed.size:=by omega
   rw[Array.getD_eq_getD_getElem?,Array.getElem?_eq_getElem hj2] at hjt q1
   simp only[Option.getD_some] at hjt q1
   rw[hjt] at q1;cases q1
  cases fuel with
  | zero=>exact⟨hr,hq X a hs⟩
  | succ fuel=>exact⟨fun _=>hq X a hs,fun j hj=>by rw[hr] at hj;cases hj⟩
 | cons o rest ih=>
  intro i hl hm fuel listed X a st hsz hlo hhi hun hs h
  have hin:i<all.size:=by
   rcases Nat.lt_or_ge i all.size with h1|h1
   ·exact h1
   ·rw[List.drop_eq_nil_of_le (by simpa using h1)] at hl;cases hl
  have ho:all[i]?=some o:=by
   have:=List.getElem?_drop (xs:=all.toList) (i:=i) (j:=0)
   rw[hl] at this
   simpa using this.symm
  have hrest:all.toList.drop (i+1)=rest:=by rw[←List.drop_drop,hl];rfl
  have hil:i<listed.size:=by omega
  have hcl:qgR all fun j=>listed.getD j false:=by
   intro j oj hj hL e he hb
   have hj':=(Array.getElem?_eq_some_iff.1 hj).1
   have hji:j<i:=by
    rcases Nat.lt_or_ge j i with h1|h1
    ·exact h1
    ·have hL':listed.getD j false=true:=hL
     rw[hhi j h1] at hL';cases hL'
   have:=hd.edge j oj hj e he hb
   exact hlo e.on (by omega) (by omega)
  have hpos:0<unl listed all.size:=by
   rcases Nat.eq_zero_or_pos (unl listed all.size) with h0|h0
   ·have:=qra h0 i hin
    rw[hhi i (Nat.le_refl _)] at this;cases this
   ·exact h0
  obtain⟨fuel,rfl⟩:∃f,fuel=f+1:=⟨fuel-1,by omega⟩
  have hLi:=hhi i (Nat.le_refl _)
  have hone:∀j,j∈Region.ready .any all listed→j=i:=by
   intro j hj
   rw[mem_ready] at hj
   obtain⟨q1,oj,q2,gedge⟩:=hj
   have hj':=(Array.getElem?_eq_some_iff.1 q2).1
   have hj2:j<listed.size:=by omega
   have hLj:listed.getD j false=false:=by simpa[Array.getD_eq_getD_getElem?,hj2] using q1
   rcases Nat.lt_trichotomy j i with h1|h1|h1
   ·rw[hlo j h1 hj'] at hLj;cases hLj
   ·exact h1
   ·have hedge':∀e,e∈oj.after.toList→Region.binds .any e=true→listed.getD e.on false=true:=fun e he hb=>gedge e (by simpa using he) hb
    have hcl':=qkF hsz q2 hcl hedge'
    have hb':=qlj all (by omega) hj' h1
    have:=qp2 hd hcl' j i (by show (listed.setIfInBounds j true).getD j false=true;rw[uk hj2,if_pos rfl]) hb'
    have h':(listed.setIfInBounds j true).getD i false=true:=this
    rw[uk hj2,if_neg (by omega),hLi] at h'
    cases h'
  refine⟨fun hr=>?_,fun j hj=>?_⟩
  ·
   exfalso
   have:=qtF hd hsz hr i hin
   rw[hLi] at this;cases this
  ·obtain rfl:=hone j hj
   have hgo:∀(X'':Ctx) (a'':Act) (s'':St),Sim E B X'' s'' a''→(qi7 E callH all (j+1) rest s'').run=some st'→wpAnyIn (q3s B.ro) n0 P .any all Q fuel (listed.setIfInBounds j true) a'' X''.w:=by
    intro X'' a'' s'' hs'' h''
    refine ih (j+1) hrest (by omega) fuel _ X'' a'' s'' (by simp[hsz]) (fun k hk hk2=>?_) (fun k hk=>?_) ?_ hs'' h''
    ·rw[uk hil];split
     ·rfl
     ·exact hlo k (by omega) hk2
    ·rw[uk hil,if_neg (by omega)];exact hhi k (by omega)
    ·have:=(qvb hil hLi all.size).2 hin;omega
   simp only[qi7] at h
   unfold wpOpIn
   rw[ho]
   simp only
   cases hwa:q1X all o st.t with
   | none=>rw[hwa] at h;cases h
   | some b=>
    rw[hwa] at h
    rw[q5w hs.t hwa]
    cases b with
    | true=>
     simp only[if_true]
     obtain⟨s1,k1,k2⟩:=bind_some h
     obtain⟨s2,k3,k4⟩:=bind_some k2
     exact qlK hE hcH hs k1 fun X'' a'' hs''=>hgo X'' a'' s2 (qoc hs'' k3) k4
    | false=>
     simp only[Bool.false_eq_true,if_false]
     exact⟨fun _ _=>trivial,hgo X _ (qyN o st) (hs.put (av:=.skip) .skip o.dst) h⟩
end
theorem qBI(h h':List Blk):qjz (h++h')=qjz h++qjz h':=by
 induction h with
 | nil=>rfl
 | cons k h ih=>simp[qjz,ih]
theorem qxK{zs:List Blk}(h:∀z,z∈zs→z.menB=[]){s:Nat}:s∉qjz zs:=by
 induction zs with
 | nil=>intro h;cases h
 | cons z zs ih=>
  simp only[qjz,List.mem_append,not_or]
  exact⟨by rw[h z List.mem_cons_self];simp,ih fun z hz=>h z (List.mem_cons_of_mem _ hz)⟩
theorem que{E:Env}{P:Program}(hm:P.follows .mixedOrders=true)(hE:E.tok P)(hS:E.specs P){callH:q7E}{B:Base}(hcH:CallOK E P callH B){callS:List Blk→q8Y}(hc:qie E P callS)(hmo:q9s E callS){id:Nat}{all:Array Oper}{X:Ctx}{st st':St}{a:Act}
  (hs:Sim E B X st a) (h:(qze E callH callS all st).run=some st') {Q:Exit→Act→World→Prop} {n0:Nat} (hq:∀X' a',Sim E B X' st' a'→Q .normal a' X'.w):(Code.region id all true).wpIn (q3s B.ro) n0 P Q a X.w:=by
 apply wpIn_region_any hm
 have hs1:=hs.drawn (X.w.drawn+1)
 generalize hX1:({ X with w:={ X.w with drawn:=X.w.drawn+1 } }:Ctx)=X1 at hs1
 have hw:({ X.w with drawn:=X.w.drawn+1 }:World)=X1.w:=by rw[←hX1]
 rw[hw]
 obtain⟨T0,fs,hb,pd⟩:=st
 unfold qze at h
 by_cases hdb:qAj all=false
 ·rw[if_pos hdb] at h;cases h
 ·rw[if_neg hdb] at h
  have hd:=qBh (by simpa using hdb:qAj all=true)
  have hcl0:qgR all fun j=>(Array.replicate all.size false).getD j false:=by
   intro i o _ hL
   have hL':(Array.replicate all.size false).getD i false=true:=hL
   rw[qnJ] at hL';cases hL'
  have hdst:wH all=fun i=>(all.toList[i]?).bind (·.dst):=by funext i;simp[wH]
  have hsl:=qBt all
  simp only at h
  cases hal:qiN E (all.toList.take (q1S all)) with
  | none=>rw[hal] at h;cases h
  | some zs=>
  rw[hal] at h
  simp only at h
  split at h
  case h_2=>cases h
  rename_i hzc
  obtain⟨r,h1,h2⟩:=bind_some h
  obtain⟨V,H,D,e0,e1,e2,_,e4,e5,e6⟩:=qqx (h0:=hb++zs) _ 0 hb.length [] _ r zs hal (fun j z hj=>by rw[List.getElem?_append_right (by omega),Nat.add_sub_cancel_left];exact hj) h1
  simp only[Nat.zero_add] at e1 e2 e4 e5 e6
  have htlen:(all.toList.take (q1S all)).length=q1S all:=by simp;omega
  have htk:∀i,i<q1S all→(all.toList.take (q1S all))[i]?=all[i]?:=by
   intro i hi
   rw[List.getElem?_take,if_pos hi];simp
  have hTm:∀i,i≤q1S all→TLp (wH all) V T0 (fun _=>true) i=qbI V 0 ((all.toList.take (q1S all)).take i) T0:=by
   intro i hi
   rw[hdst,qBO i (by simp;omega),List.take_take,Nat.min_eq_left hi]
  have hVA:∀i o,all[i]?=some o→i<q1S all→qiP E callS all (H 0) i o (TLp (wH all) V T0 (fun _=>true) i) (V i) (H i) (H (i+1)) (D i):=by
   intro i o ho hi
   rw[hTm i (by omega)]
   rw[e0]
   exact e2 i o (by rw[htk i hi];exact ho)
  have hs0:∀(X':Ctx) (a':Act),Sim E B X' { t:=TLp (wH all) V T0 (fun _=>true) (q1S all),fs:=fs,pend:=pd,h:=H (q1S all) } a'→Sim E B X' r a':=by
   intro X' a' hs'
   have:r={ t:=TLp (wH all) V T0 (fun _=>true) (q1S all),fs:=fs,pend:=pd,h:=H (q1S all) }:=by
    rw[hTm _ (Nat.le_refl _),e1,List.take_of_length_le (i:=q1S all) (l:=all.toList.take (q1S all)) (by simp;omega),htlen]
   rw[this];exact hs'
  have hsl2:∀i s,i<q1S all→D i=.alc s→s∉AV.menL T0∧s∉quu fs∧s∉qjz (H 0):=by
   intro i s hi hds
   have hs':=e6 i s (by rw[htlen];exact hi) hds
   have hne:zs.isEmpty=false:=by
    cases zs with
    | nil=>simp at hs';omega
    | cons _ _=>rfl
   rw[hne] at hzc
   simp only[Bool.false_or,Bool.and_eq_true,List.all_eq_true,List.mem_append] at hzc
   obtain⟨c1,c2⟩:=hzc
   have lt:∀b,(b∈AV.menL T0∨b∈quu fs)∨b∈qjz hb→b<hb.length:=fun b hb'=>Nat.blt_eq.mp (c1 b hb')
   refine⟨fun hm=>?_,fun hm=>?_,fun hm=>?_⟩
   ·have:=lt s (.inl (.inl hm));omega
   ·have:=lt s (.inl (.inr hm));omega
   ·rw[e0,qBI] at hm
    rcases List.mem_append.1 hm with hm|hm
    ·have:=lt s (.inr hm);omega
    ·exact qxK (fun z hz=>by simpa using c2 z hz) hm
  obtain⟨X2,hX2,hs2⟩:=Sim.padN zs.length hs1
  rw[←hX2]
  have hpad:hb++List.replicate zs.length .dead=q1k D (fun j=>(Array.replicate all.size false).getD j false) (q1S all) (H 0):=by
   rw[e0]
   apply List.ext_getElem?
   intro b
   rcases Nat.lt_or_ge b hb.length with hlt|hge
   ·rw[List.getElem?_append_left hlt,qfc _ fun a' s hm' e=>by
     have:=e6 a' s (by rw[htlen];exact hm'.1) hm'.2.1
     omega,List.getElem?_append_left hlt]
   ·rcases Nat.lt_or_ge b (hb.length+zs.length) with hlt|hge2
    ·obtain⟨i,q1,q2⟩:=e5 (b-hb.length) (by omega)
     rw[htlen] at q1
     rw[show hb.length+(b-hb.length)=b by omega] at q2
     rw[List.getElem?_append_right hge,List.getElem?_replicate_of_lt (by omega)]
     exact(qgi (by simp;omega) (q1S all) ⟨q1,q2,qnJ i⟩).symm
    ·rw[List.getElem?_eq_none (by simp;omega),List.getElem?_eq_none (by rw[q98];simp;omega)]
  have start:Sim E B X2 { t:=TLp (wH all) V T0 (fun j=>(Array.replicate all.size false).getD j false) all.size,fs:=fs,pend:=pd,h:=q1k D (fun j=>(Array.replicate all.size false).getD j false) (q1S all) (H 0) } a:=by
   have:TLp (wH all) V T0 (fun j=>(Array.replicate all.size false).getD j false) all.size=T0:=by
    have:∀n,TLp (wH all) V T0 (fun j=>(Array.replicate all.size false).getD j false) n=T0:=by
     intro n
     induction n with
     | zero=>rfl
     | succ n ih=>simp only[TLp];rw[if_neg (by rw[qnJ];simp),ih]
    exact this _
   rw[this,←hpad];exact hs2
  refine qA3 (m:=q1S all) (V:=V) (T0:=T0) (H:=H) (D:=D) (fs:=fs) hE hS hc hmo hd hsl hVA (fun i j hij hj=>e4 i j hij (by rw[htlen];exact hj)) hsl2 ?_ ?_ (fun i j h1 h2 h3=>qlj all h1 h2 h3) all.size _ X2 a 0 (by simp) hcl0 (fun i _ _=>qnJ i) (Nat.zero_le _) (fun k hk=>by omega) (fun k _ _ _=>qnJ k) (qC0 _ _) start
  ·intro hge X' a' hs'
   have hsz:q1S all=all.size:=by omega
   rw[show TLp (wH all) V T0 (fun _=>true) all.size=TLp (wH all) V T0 (fun _=>true) (q1S all) by rw[hsz]] at hs'
   have h3:=hs0 X' a' hs'
   rw[List.drop_eq_nil_of_le (by simp;omega)] at h2
   simp only[qi7,Tree.run,Option.some.injEq] at h2
   rw[h2] at h3
   exact hq X' a' h3
  ·intro i fuel listed X' a' hin him hsz hri hcl hlm hallm hs' hun
   have hri':=hri
   rw[mem_ready] at hri'
   obtain⟨g1,o,ho,gedge⟩:=hri'
   have hil:i<listed.size:=by omega
   have hLi:listed.getD i false=false:=by simpa[Array.getD_eq_getD_getElem?,hil] using g1
   have hedge':∀e,e∈o.after.toList→Region.binds .any e=true→listed.getD e.on false=true:=fun e he hb=>gedge e (by simpa using he) hb
   have hcl':=qkF hsz ho hcl hedge'
   have hallb:∀j,j<i→listed.getD j false=true:=by
    intro j hj
    have hb':=qlj all him hin hj
    have:=qp2 hd hcl' i j (by show (listed.setIfInBounds i true).getD i false=true;rw[uk hil,if_pos rfl]) hb'
    have h':(listed.setIfInBounds i true).getD j false=true:=this
    rw[uk hil,if_neg (by omega)] at h'
    exact h'
   have him2:i=q1S all:=by
    rcases Nat.eq_or_lt_of_le him with h3|h3
    ·exact h3.symm
    ·have h4:=hallb _ h3
     rw[hlm _ (Nat.le_refl _) (by omega)] at h4;cases h4
   have hcut:∀n,q1S all≤n→n≤all.size→TLp (wH all) V T0 (fun j=>listed.getD j false) n=TLp (wH all) V T0 (fun _=>true) (q1S all):=by
    intro n
    induction n with
    | zero=>
     intro h3 _
     have h0:q1S all=0:=by omega
     rw[h0];rfl
    | succ n ihn=>
     intro h3 h4
     rcases Nat.eq_or_lt_of_le h3 with h5|h5
     ·rw[←h5]
      exact stL (q1S all) fun j hj=>hallb j (by omega)
     ·simp only[TLp]
      rw[if_neg (by rw[hlm n (by omega) (by omega)];simp)]
      exact ihn (by omega) (by omega)
   rw[hcut _ hsl (Nat.le_refl _)] at hs'
   have h3:=hs0 X' a' hs'
   subst him2
   exact(qzp hE hcH hd hq _ (q1S all) rfl (Nat.le_refl _) (fuel+1) listed X' a' _ hsz (fun j hj _=>hallb j hj) (fun j hj=>by
    rcases Nat.lt_or_ge j all.size with h5|h5
    ·exact hlm j hj h5
    ·simp[Array.getD_eq_getD_getElem?,show listed.size≤j by omega]) hun h3 h2).2 _ hri
end Go.Eng

namespace Go.Eng
theorem HSim.base{B B':Base}{X:Ctx}(h:HSim B X)(h0:B'.w0=B.w0)(h1:B'.imps=B.imps)(h2:B'.M0=B.M0):HSim B' X:=by
 obtain⟨w0,imps,M0,fs,ro,y,pin⟩:=B
 obtain⟨w0',imps',M0',fs',ro',y',pin'⟩:=B'
 simp only at h0 h1 h2
 subst h0 h1 h2
 exact⟨h.blk,h.inj,h.notM,h.ltM,h.M0,h.newM,h.os,h.tape,h.output,h.size,h.frame,h.imps,h.impc,h.fresh,h.kept⟩
def qjr(o:Obj):Prop:=∀c T fr,o≠.cells c T fr
def qbk(n:Nat)(o:Obj)(l:List (Nat×Obj)):List (Nat×Obj):=l.map fun p=>if p.1=n then (n,o) else p
theorem q0v{p:Nat×Obj}{n:Nat}{o:Obj}{l:List (Nat×Obj)}(h:p∈l)(hne:p.1≠n):p∈qbk n o l:=
 List.mem_map.2 ⟨p,h,if_neg hne⟩
theorem qeR{n:Nat}{o o':Obj}{l:List (Nat×Obj)}(h:(n,o)∈l):(n,o')∈qbk n o' l:=
 List.mem_map.2 ⟨(n,o),h,if_pos rfl⟩
theorem qil{p:Nat×Obj}{n:Nat}{o:Obj}{l:List (Nat×Obj)}(h:p∈qbk n o l):p=(n,o)∨(p∈l∧p.1≠n):=by
 obtain⟨q,h1,h2⟩:=List.mem_map.1 h
 by_cases hq:q.1=n
 ·rw[if_pos hq] at h2;exact .inl h2.symm
 ·rw[if_neg hq] at h2;subst h2;exact .inr ⟨h1,hq⟩
structure SameCells (w w':World):Prop where
 cells:∀(n:Nat) c T fr,w.heap[n]?=some (.cells c T fr)→w'.heap[n]?=some (.cells c T fr)
 cell:∀a:Addr,a.block<w.heap.size→w'.cell? a=w.cell? a
theorem SameCells.blk{X X':Ctx}(hw:SameCells X.w X'.w)(hm:Move0 X X' some){b:Nat}{k:Blk}(hσ:X'.σ b=X.σ b)(h:yt X b k):yt X' b k:=by
 cases k with
 | cells cs=>
  obtain⟨n,c,T,e1,e2,e3⟩:=h
  exact⟨n,c,T,by rw[hσ];exact e1,hw.cells _ _ _ _ e2,e3.ext0 hm⟩
 | big cs k N l=>
  obtain⟨n,c,T,vs,e1,e2,e3,e4,e5⟩:=h
  exact⟨n,c,T,vs,by rw[hσ];exact e1,hw.cells _ _ _ _ e2,e3.ext0 hm,e4,e5⟩
 | vec e sh l=>
  rcases h with⟨e1,e2⟩|⟨n,c,e1,e2,e3⟩
  ·exact .inl ⟨by rw[hσ];exact e1,e2⟩
  ·exact .inr ⟨n,c,by rw[hσ];exact e1,hw.cells _ _ _ _ e2,e3.mono hm.M hm.w⟩
 | frz e sh l=>
  rcases h with⟨e1,e2⟩|⟨n,c,e1,e2,e3,e4⟩
  ·exact .inl ⟨by rw[hσ];exact e1,e2⟩
  ·exact .inr ⟨n,c,by rw[hσ];exact e1,hw.cells _ _ _ _ e2,e3.mono hm.M hm.w,hm.M n e4⟩
 | dead=>trivial
theorem qt8{B:Base}{X:Ctx}(hs:HSim B X){w':World}{kept':List (Nat×Obj)}(hw:SameCells X.w w')(hsz:X.w.heap.size≤w'.heap.size)(ho:w'.os=X.w.os)(ht:w'.tape=X.w.tape)(hp:w'.output=X.w.output)
  (hf:∀n,n<B.w0.heap.size→w'.heap[n]?=X.w.heap[n]?) (hk:∀p,p∈kept'→w'.heap[p.1]?=some p.2∧qjr p.2∧B.w0.heap.size≤p.1) :
  HSim B { X with w:=w',kept:=kept' }∧Move0 X { X with w:=w',kept:=kept' } some:=by
 have hm:Move0 X { X with w:=w',kept:=kept' } some:=
  ⟨fun _ h=>h,fun a ha=>hw.cell a (hs.ltM _ ha),fun b b' hb h=>by
   cases h;exact⟨hb,rfl,fun _ _ h=>h,fun _ _ _ n _ c T fr h=>⟨c,T,fr,hw.cells n c T fr h,rfl⟩⟩,rfl⟩
 refine⟨⟨fun b k hb=>SameCells.blk hw hm rfl (hs.blk b k hb),hs.inj,hs.notM,fun n hn=>Nat.lt_of_lt_of_le (hs.ltM n hn) hsz,hs.M0,hs.newM,ho.trans hs.os,ht.trans hs.tape,hp.trans hs.output,
  Nat.le_trans hs.size hsz,fun n hn hi=>(hf n hn).trans (hs.frame n hn hi),hs.imps,hs.impc,hs.fresh,hk⟩,hm⟩
theorem qso{w:World}{n:Nat}{o o':Obj}(h:w.heap[n]?=some o)(ho:qjr o)(ho':qjr o'):SameCells w (w.putObj n o'):=by
 have hn:=(Array.getElem?_eq_some_iff.1 h).1
 refine⟨fun m c T fr hm=>?_,fun a _=>?_⟩
 ·by_cases e:m=n
  ·subst e;rw[h] at hm;exact absurd (Option.some.inj hm) (ho _ _ _)
  ·rw[World.putObj_heap_other e];exact hm
 ·by_cases e:a.block=n
  ·unfold World.cell?
   rw[e,h,World.putObj_heap_same hn]
   cases o'<;>cases o<;>first|rfl|exact absurd rfl (ho _ _ _)|exact absurd rfl (ho' _ _ _)
  ·exact World.cell?_of_block (World.putObj_heap_other e)
theorem qas{B:Base}{X:Ctx}(hs:HSim B X){n:Nat}{o o':Obj}(hk:(n,o)∈X.kept)(ho':qjr o') :
  HSim B { X with w:=X.w.putObj n o',kept:=qbk n o' X.kept }∧Move0 X { X with w:=X.w.putObj n o',kept:=qbk n o' X.kept } some:=by
 obtain⟨h1,h2,h3⟩:=hs.kept _ hk
 simp only at h1 h2 h3
 have hn:=(Array.getElem?_eq_some_iff.1 h1).1
 refine qt8 hs (qso h1 h2 ho') (by simp) rfl rfl rfl (fun m hm=>World.putObj_heap_other (by omega)) fun p hp=>?_
 rcases qil hp with rfl|⟨hp,hne⟩
 ·exact⟨World.putObj_heap_same hn,ho',h3⟩
 ·obtain⟨g1,g2,g3⟩:=hs.kept p hp
  exact⟨by rw[World.putObj_heap_other hne];exact g1,g2,g3⟩
theorem qjg{B:Base}{X:Ctx}(hs:HSim B X){o:Obj}(ho:qjr o) :
  HSim B { X with w:=X.w.alloc o,kept:=(X.w.heap.size,o)::X.kept }∧Move0 X { X with w:=X.w.alloc o,kept:=(X.w.heap.size,o)::X.kept } some:=by
 refine qt8 hs ⟨fun m c T fr hm=>?_,fun a ha=>World.cell?_of_block (wc _ _ ha)⟩ (by simp) rfl rfl rfl (fun m hm=>wc _ _ (Nat.lt_of_lt_of_le hm hs.size)) fun p hp=>?_
 ·rw[wc _ _ (Array.getElem?_eq_some_iff.1 hm).1];exact hm
 ·rcases List.mem_cons.1 hp with rfl|hp
  ·exact⟨zZ _ _,ho,hs.size⟩
  ·obtain⟨g1,g2,g3⟩:=hs.kept p hp
   exact⟨by rw[wc _ _ (Array.getElem?_eq_some_iff.1 g1).1];exact g1,g2,g3⟩
theorem quT{B:Base}{X:Ctx}(hs:HSim B X){p:Nat×Obj}(h:p∈X.kept):p.1<X.w.heap.size:=(Array.getElem?_eq_some_iff.1 (hs.kept p h).1).1
mutual
theorem Rep.setY'{X:Ctx}(l:Nat):∀{av:AV} {v:Value},Rep X av v→av.noY=true→Rep { X with y:=l } av v
 | _,_,.undef v,_=>.undef v
 | _,_,.skip,_=>.skip
 | _,_,.yld,h=>by cases h
 | _,_,.blit b,_=>.blit b
 | _,_,.bool b,_=>.bool b
 | _,_,.ilit k n,_=>.ilit k n
 | _,_,.int k n,_=>.int k n
 | _,_,.str s,_=>.str s
 | _,_,.nilp,_=>.nilp
 | _,_,.ptr b off n hb hσ,_=>.ptr b off n hb hσ
 | _,_,.eptr sh l i off a hsp h0 h1 hr,_=>.eptr sh l i off a hsp h0 h1 hr
 | _,_,.mnil sh l i off,_=>.mnil sh l i off
 | _,_,.mptr sh l i off a hsp h0 h1 hr,_=>.mptr sh l i off a hsp h0 h1 hr
 | _,_,.vptr b i off n k hb hσ h,_=>.vptr b i off n k hb hσ h
 | _,_,.vsub b i n k m c hb hσ h,_=>.vsub b i n k m c hb hσ h
 | _,_,.aptr b o i n hb hσ h0,_=>.aptr b o i n hb hσ h0
 | _,_,.asub b o N i m n k c hb hσ h0 h1 h2 h3,_=>.asub b o N i m n k c hb hσ h0 h1 h2 h3
 | _,_,.nils,_=>.nils
 | _,_,.imm sh l v h,_=>.imm sh l v h
 | _,_,.full sh l p n h,_=>.full sh l p n h
 | _,_,.vec b p nn cc hb h,_=>.vec b p nn cc hb h
 | _,_,.nilf,_=>.nilf
 | _,_,.fn g first caps vf vc h1 h2,h=>by
  simp only[AV.noY,Bool.and_eq_true] at h
  exact .fn g _ _ vf vc (RepL.setY' l h1 h.1) (RepL.setY' l h2 h.2)
 | _,_,.agg cs vs h1,h=>.agg _ vs (RepL.setY' l h1 (by simpa only [AV.noY] using h))
 | _,_,.tuple cs vs h1,h=>.tuple _ vs (RepL.setY' l h1 (by simpa only [AV.noY] using h))
 | _,_,.bagg cs k n r vs h1 hl,h=>.bagg _ k n r vs (RepL.setY' l h1 (by simpa only [AV.noY] using h)) hl
theorem RepL.setY'{X:Ctx}(l:Nat):∀{av:List AV} {v:List Value},RepL X av v→AV.noYL av=true→RepL { X with y:=l } av v
 | _,_,.nil,_=>.nil
 | _,_,.cons h1 t,h=>by
  simp only[AV.noYL,Bool.and_eq_true] at h
  exact .cons (Rep.setY' l h1 h.1) (RepL.setY' l t h.2)
end
theorem Rep.setY{X:Ctx}(l:Nat){av:AV}{v:Value}(h:av.noY=true)(hr:Rep X av v):Rep { X with y:=l } av v:=hr.setY' l h
theorem RepL.setY{X:Ctx}(l:Nat){av:List AV}{v:List Value}(h:AV.noYL av=true)(hr:RepL X av v):RepL { X with y:=l } av v:=hr.setY' l h
theorem HSim.setY{B:Base}{X:Ctx}(h:HSim B X)(l:Nat)(hy:X.h.all Blk.noY=true):HSim B { X with y:=l }:=by
 refine⟨fun b k hb=>?_,h.inj,h.notM,h.ltM,h.M0,h.newM,h.os,h.tape,h.output,h.size,h.frame,h.imps,h.impc,h.fresh,h.kept⟩
 have h1:=h.blk b k hb
 cases k with
 | cells cs=>
  obtain⟨n,c,T,e1,e2,e3⟩:=h1
  have:(Blk.cells cs).noY=true:=List.all_eq_true.1 hy _ (List.mem_of_getElem? hb)
  exact⟨n,c,T,e1,e2,e3.setY l this⟩
 | big cs k N r=>
  obtain⟨n,c,T,vs,e1,e2,e3,e4,e5⟩:=h1
  have:(Blk.big cs k N r).noY=true:=List.all_eq_true.1 hy _ (List.mem_of_getElem? hb)
  exact⟨n,c,T,vs,e1,e2,e3.setY l this,e4,e5⟩
 | vec e sh l=>exact h1
 | frz e sh l=>exact h1
 | dead=>trivial
theorem qu4{gl:List (Nat×AV)}{X:Ctx}(h:qbK gl X)(l:Nat):qbK gl { X with y:=l }:=by
 intro x hx
 obtain⟨⟨sh,r,i,off,he⟩,hr⟩:=h x hx
 refine⟨⟨sh,r,i,off,he⟩,hr.move (fun _ h=>h) (fun _ _=>rfl) (Rep.setY l (by rw[he];rfl) hr.1)⟩
theorem qeN{gl:List (Nat×AV)}{X X':Ctx}(hm:Move0 X X' some)(h:qbK gl X):qbK gl X':=fun x hx=>⟨(h x hx).1,(h x hx).2.move hm.M hm.w ((h x hx).2.1.ext0 hm)⟩
theorem Sim.moveB{E:Env}{B B':Base}{X X':Ctx}{st:St}{a:Act}(hs:Sim E B X st a)(h1:HSim B' X')(h2:Move0 X X' some)(h3:X'.h=X.h)(hfs:B'.fs=B.fs)(hy:B'.y=B.y)(hi:B'.imps=B.imps)
  {ds:List Deferred} (h4:qvk X'.kept (B'.pin st.pend) ds) (h5:∀p,p∈B'.pin st.pend→p∈X'.kept):Sim E B' X' st { a with defers:=ds }:=
 ⟨h1,h3.trans hs.h,hs.t.ext0 h2,hfs▸hs.fs.ext0 h2,qeN h2 hs.glob,h4,hi▸hs.ni,(h2.y.trans hs.y).trans hy.symm,h5⟩
def Ex.out:Ex→Exit
 | .normal=>.normal
 | .exit i=>.exit i
 | .ret=>.ret
def qvx(E:Env)(B:Base)(r:Ex×St):Exit→Act→World→Prop:=fun e a w=>e=r.1.out∧∃X',X'.w=w∧Sim E B X' r.2 a
def Ex.code:Ex→Code
 | .normal=>.skip
 | .exit i=>.exit i
 | .ret=>.ret
def q5U(fid:FuncId)(ct:Array Value)(ps:Array Tmp)(a b:Code)(D:Nat)(e:Option Ex):Loop:=
 { state:=if e.isNone then .ready else .done,pending:=e.map Ex.code,fn:=fid,tmps:=ct,params:=ps,assign:=a,body:=b,defers:=D }
def zd:Code→List Code
 | .seq a b=>.seq a b::(zd a++zd b)
 | .cond _ a b=>zd a++zd b
 | .block _ c=>zd c
 | .scope c=>zd c
 | .loop c=>.loop c::zd c
 | .rangeFunc x ps a b=>.rangeFunc x ps a b::(zd a++zd b)
 | _=>[]
def qw3(P:Program)(yc:FuncId×Nat)(B:Base):Prop:=
 ∃(fn:Func) (c:Code) (x:Operand) (ps:Array Tmp) (a b:Code),P.funcs[yc.1]?=some fn∧fn.body=some c∧(zd c)[yc.2]?=some (.rangeFunc x ps a b) ∧
  ∃(ct:Array Value) (rest:List (List Value)) (D fid:Nat) (more:List (Nat×Obj)),B.fs=ct.toList::rest∧(∀e,B.pin e=(B.y,.loop (q5U fid ct ps a b D e))::more)∧(∀p,p∈more→p.1≠B.y)∧B.ro=none
def qy(P:Program)(it:List (FuncId×FuncId×Nat))(f:FuncId)(B:Base):Prop:=
 (B.ro.isSome=true→2≤B.fs.length)∧match qge it f with
  | none=>True
  | some yc=>qw3 P yc B
structure SimF (E:Env) (B:Base) (X:Ctx) (st:St):Prop where
 hs:HSim B X
 h:X.h=st.h
 fs:RepLL X (st.t::st.fs) B.fs
 glob:qbK E.glob X
 ni:B.imps.length≤E.nimp
 y:X.y=B.y
 pin:∀p,p∈B.pin st.pend→p∈X.kept
def YOK(E:Env)(P:Program)(y:qy8)(B:Base):Prop:=
 ∀(args:List AV) (st:St) (r:AV×St) (X:Ctx) (a:Act) (vargs:List Value),Sim E B X st a→RepL X args vargs→(y args st).run=some r →
  ∃(l:Nat) (f:FuncId) (tmps:Array Value) (assign body:Code),(Instr.yield X.y vargs.toArray).run P X.w=.ok (.round l f tmps assign body) X.w ∧
  ∀n,RoundIn (q3s B.ro) n P l f tmps assign body X.w fun e w'=>∃v X',e=.returned v∧X'.w=w'∧Rep X' r.1 v∧Sim E B X' r.2 a
def qij(E:Env)(P:Program)(rangeH:qce):Prop:=
 ∀(g:FuncId) (y:qy8) (args:List AV) (st:St) (r:AV×St) (B:Base) (X:Ctx) (vargs:List Value),SimF E B X st→qy P E.iter g B→(∀B',qy P E.iter g B'→YOK E P y B')→B.ro=none →
  RepL X args vargs→(rangeH g y args st).run=some r →
  (∀w,(callFunc g vargs.toArray).run P w=.ok (.enter g vargs.toArray) w) ∧
  Calls P g vargs.toArray X.w fun e w'=>∃v X',e=.returned v∧X'.w=w'∧Rep X' r.1 v∧SimF E B X' r.2
theorem qqh{X:Ctx}:∀(ps:List Tmp) {ct:List AV} {tmps:Array Value} {args:List AV} {vargs:List Value},RepL X ct tmps.toList→RepL X args vargs →
  RepL X (qoh ct ps args) ((ps.zip vargs).foldl (fun (tmps:Array Value) (p:Tmp×Value)=>tmps.setIfInBounds p.1 p.2) tmps).toList
 | [],_,_,args,_,h,_=>by cases args<;>simpa[qoh] using h
 | p::ps,ct,tmps,_,_,h,.nil=>by simpa[qoh] using h
 | p::ps,ct,tmps,_,_,h,.cons h1 h2=>by
  simp only[qoh,List.zip_cons_cons,List.foldl_cons]
  exact qqh ps (by rw[Array.toList_setIfInBounds];exact RepL.set h1 h p) h2
theorem qwm{E:Env}{P:Program}{f:FuncId}{k:Nat}{fn:Func}{cb:Code}(hf:P.funcs[f]?=some fn)(hb:fn.body=some cb){x:Operand}{ps:Array Tmp}{a b:Code}(hk:(zd cb)[k]?=some (.rangeFunc x ps a b))
  {evA evB:St→Tree (Ex×St)} (hni:q73 E.iter f=true)
  (hA:∀(B:Base) (X:Ctx) (st:St) (act:Act) (r:Ex×St),qy P E.iter f B→Sim E B X st act→(evA st).run=some r→∀n,a.wpIn (q3s B.ro) n P (qvx E B r) act X.w)
  (hB:∀(B:Base) (X:Ctx) (st:St) (act:Act) (r:Ex×St),qy P E.iter f B→Sim E B X st act→(evB st).run=some r→∀n,b.wpIn (q3s B.ro) n P (qvx E B r) act X.w)
  {B:Base} (hI:qw3 P (f,k) B):YOK E P (qto evA evB ps.toList) B:=by
 intro args st r X act vargs hs hargs hr
 obtain⟨fn',c',x',ps',a',b',q1,q2,q3,ct,rest,D,fid,more,q4,q5,q6,q7⟩:=hI
 simp only at q1 q3
 rw[hf] at q1;cases q1
 rw[hb] at q2;cases q2
 rw[hk] at q3;cases q3
 unfold qto at hr
 cases hp:st.pend with
 | some e=>rw[hp] at hr;cases hr
 | none=>
 rw[hp] at hr
 cases hfs:st.fs with
 | nil=>rw[hfs] at hr;cases hr
 | cons ctA fsA=>
 rw[hfs] at hr
 simp only at hr
 cases hlen:Nat.beq args.length ps.toList.length with
 | false=>rw[hlen] at hr;cases hr
 | true=>
 rw[hlen] at hr
 simp only at hr
 have hlen':=Nat.eq_of_beq_eq_true hlen
 obtain⟨rA,h1,h2⟩:=bind_some hr
 obtain⟨xA,sA⟩:=rA
 cases xA with
 | exit i=>cases h2
 | ret=>cases h2
 | normal=>
 simp only at h2
 obtain⟨rB,h3,h4⟩:=bind_some h2
 have hpin:=hs.pin
 have hdf:=hs.df
 rw[hp,q5] at hpin hdf
 have hrec:(B.y,.loop (q5U fid ct ps a b D none))∈X.kept:=hpin _ List.mem_cons_self
 have hheap:=(hs.hs.kept _ hrec).1
 simp only at hheap
 have hfsR:=hs.fs
 rw[hfs,q4] at hfsR
 have hct:RepL X ctA ct.toList:=by cases hfsR with|cons g1 g2=>exact g1
 refine⟨B.y,fid,((ps.zip vargs.toArray).foldl (fun (tmps:Array Value) (p:Tmp×Value)=>tmps.setIfInBounds p.1 p.2) ct),a,b,?_,fun n=>?_⟩
 ·rw[hs.y]
  exact run_yield (r:=q5U fid ct ps a b D none) hheap (by simp only[q5U,List.size_toArray];rw[←hargs.length,hlen',Array.length_toList])
 rw[q7]
 apply roundIn_of_wpIn (F:=q3s none) trivial
 let BR:Base:={ B with ro:=some B.y,fs:=act.tmps.toList::B.fs,pin:=fun _=>X.kept }
 have hbR:∀pin,qy P E.iter f { BR with pin:=pin }:=by
  intro pin
  refine⟨fun _=>?_,?_⟩
  ·show 2≤(act.tmps.toList::B.fs).length
   rw[q4];simp
  ·unfold q73 at hni
   split at hni
   ·cases hni
   ·rename_i hn;rw[hn];trivial
 have hsR:Sim E BR X { t:=qoh ctA ps.toList args,fs:=st.t::ctA::fsA,h:=st.h,pend:=none } { tmps:=((ps.zip vargs.toArray).foldl (fun (tmps:Array Value) (p:Tmp×Value)=>tmps.setIfInBounds p.1 p.2) ct),defers:=[] }:=by
  refine⟨hs.hs.base rfl rfl rfl,hs.h,?_,?_,hs.glob,qvk.nil,hs.ni,hs.y,fun p hp=>hp⟩
  ·have:=qqh ps.toList hct hargs
   rw[←Array.foldl_toList,Array.toList_zip]
   exact this
  ·show RepLL X _ (act.tmps.toList::B.fs)
   rw[←hfs]
   exact .cons hs.t hs.fs
 refine wpIn_mono (hA BR X _ _ _ (hbR _) hsR h1 n) fun e a1 w1 ⟨he,X1,hw1,hs1⟩=>?_
 subst he hw1
 have hrec1:(B.y,.loop (q5U fid ct ps a b D none))∈X1.kept:=hs1.pin _ hrec
 obtain⟨g1,g2⟩:=qas hs1.hs (o':=.loop { q5U fid ct ps a b D none with state:=.busy }) hrec1 (fun _ _ _ h=>by cases h)
 refine⟨_,run_beginRound (r:=q5U fid ct ps a b D none) (hs1.hs.kept _ hrec1).1 rfl,?_⟩
 let pinB:List (Nat×Obj):=qbk B.y (.loop { q5U fid ct ps a b D none with state:=.busy }) X.kept
 obtain⟨Ds1,d1,d2,d3⟩:=hs1.df
 have hsB:Sim E { BR with pin:=fun _=>pinB } { X1 with w:=X1.w.putObj B.y (.loop { q5U fid ct ps a b D none with state:=.busy }),kept:=qbk B.y (.loop { q5U fid ct ps a b D none with state:=.busy }) X1.kept } sA a1:=by
  refine hs1.moveB (B':={ BR with pin:=fun _=>pinB }) (ds:=a1.defers) (g1.base rfl rfl rfl) g2 rfl rfl rfl rfl ⟨Ds1,d1,d2,fun D' hD'=>⟨q0v (d3 D' hD').1 (fun e=>(d3 D' hD').2 _ hrec e.symm),fun p hp=>?_⟩⟩ fun p hp=>?_
  ·rcases qil hp with hp|⟨hp,_⟩
   ·rw[hp];exact fun e=>(d3 D' hD').2 _ hrec e
   ·exact(d3 D' hD').2 _ hp
  ·rcases qil hp with rfl|⟨hp,hne⟩
   ·exact qeR hrec1
   ·exact q0v (hs1.pin _ hp) hne
 refine wpIn_mono (hB _ _ _ _ _ (hbR _) hsB h3 n) fun e2 a2 w2 ⟨he2,X2,hw2,hs2⟩=>?_
 subst he2 hw2
 obtain⟨xB,sB⟩:=rB
 have hrec2:(B.y,.loop { q5U fid ct ps a b D none with state:=.busy })∈X2.kept:=hs2.pin _ (qeR hrec)
 have hlie2:=(hs2.hs.kept _ hrec2).1
 simp only at hlie2
 simp only at h4
 cases hfs2:sB.fs with
 | nil=>rw[hfs2] at h4;cases h4
 | cons itA fs'=>
 rw[hfs2] at h4
 simp only at h4
 have fin:∀(e:Option Ex) (_:r=(.blit e.isNone,{ t:=itA,fs:=fs',h:=sB.h,pend:=e })) (_:e=none∨∃x,e=some x),
   ∃v w',(Instr.endRound B.y (e.map Ex.code)).run P X2.w=.ok v w'∧∃v' X',Ending.returned v=.returned v'∧X'.w=w'∧Rep X' r.1 v'∧Sim E B X' r.2 act:=by
  intro e hre _
  have hend:=run_endRound (P:=P) (r:={ q5U fid ct ps a b D none with state:=.busy }) (e.map Ex.code) hlie2
  have hobj:({ ({ q5U fid ct ps a b D none with state:=.busy }:Loop) with state:=if (e.map Ex.code).isNone then .ready else .done,pending:=e.map Ex.code }:Loop)=q5U fid ct ps a b D e:=by
   cases e<;>rfl
  rw[hobj] at hend
  obtain⟨k1,k2⟩:=qas hs2.hs (o':=.loop (q5U fid ct ps a b D e)) hrec2 (fun _ _ _ h=>by cases h)
  refine⟨_,_,hend,_,{ X2 with w:=X2.w.putObj B.y (.loop (q5U fid ct ps a b D e)),kept:=qbk B.y (.loop (q5U fid ct ps a b D e)) X2.kept },rfl,rfl,?_,?_⟩
  ·rw[hre]
   have:(e.map Ex.code).isNone=e.isNone:=by cases e<;>rfl
   rw[this];exact .blit _
  ·have hfs3:=hs2.fs
   rw[hfs2] at hfs3
   have hfs4:=hfs3.ext0 k2
   have hold:∀p,p∈X.kept→p.1≠B.y→p∈qbk B.y (.loop (q5U fid ct ps a b D e)) X2.kept:=fun p hp hne=>
    q0v (hs2.pin p (q0v hp hne)) hne
   rw[hre]
   refine⟨k1.base rfl rfl rfl,hs2.h,?_,?_,qeN k2 hs2.glob,?_,hs.ni,hs2.y,?_⟩
   ·cases hfs4 with|cons z1 z2=>exact z1
   ·cases hfs4 with|cons z1 z2=>exact z2
   ·obtain⟨Ds,m1,m2,m3⟩:=hdf
    refine⟨Ds,m1,m2,fun D' hD'=>⟨hold _ (m3 D' hD').1 (fun e'=>(m3 D' hD').2 _ List.mem_cons_self e'.symm),fun p hp=>?_⟩⟩
    rw[q5] at hp
    rcases List.mem_cons.1 hp with rfl|hp
    ·exact(m3 D' hD').2 (B.y,.loop (q5U fid ct ps a b D none)) List.mem_cons_self
    ·exact(m3 D' hD').2 p (List.mem_cons_of_mem _ hp)
   ·intro p hp
    rw[q5] at hp
    rcases List.mem_cons.1 hp with rfl|hp
    ·exact qeR hrec2
    ·exact hold p (hpin p (List.mem_cons_of_mem _ hp)) (q6 p hp)
 cases xB with
 | normal=>
  simp only[Tree.run,Option.some.injEq] at h4
  exact fin none h4.symm (.inl rfl)
 | ret=>
  simp only[Tree.run,Option.some.injEq] at h4
  exact fin (some .ret) h4.symm (.inr ⟨_,rfl⟩)
 | exit i=>
  simp only[Tree.run,Option.some.injEq] at h4
  exact fin (some (.exit i)) h4.symm (.inr ⟨_,rfl⟩)
theorem qtp{E:Env}{P:Program}{B:Base}{fn:Func}{st:St}{R:Ending→World→Prop}{n:Nat}:∀(Ds:List Nat) {X:Ctx} {a:Act},Sim E B X st a→a.defers=Ds.map qgV →
  (∀X',Sim E B X' st { a with defers:=[] }→∃v,(results fn a.tmps).run P X'.w=.ok v X'.w∧R (.returned v) X'.w)→LeavesInM (q3s none) n P fn a.tmps R (Ds.map qgV) .returning X.w
 | [],X,a,hs,hd,h=>by
  have:({ a with defers:=[] }:Act)=a:=by obtain⟨t,d⟩:=a;simp only[List.map_nil] at hd;rw[hd]
  rw[this] at h
  exact h X hs
 | D::Ds,X,a,hs,hd,h=>by
  obtain⟨Ds',d1,d2,d3⟩:=hs.df
  have hDs:Ds'=D::Ds:=by
   rw[hd] at d1
   have inj:∀(l m:List Nat),l.map qgV=m.map qgV→m=l:=by
    intro l
    induction l with
    | nil=>intro m hm;cases m with
     | nil=>rfl
     | cons _ _=>cases hm
    | cons x l ih=>intro m hm;cases m with
     | nil=>cases hm
     | cons y m=>
      simp only[List.map_cons,List.cons.injEq,qgV,Deferred.mk.injEq,Target.collected.injEq,and_true] at hm
      rw[ih m hm.2,hm.1]
   exact inj _ _ d1
  subst hDs
  obtain⟨m1,m2⟩:=d3 D List.mem_cons_self
  have hlie:=(hs.hs.kept _ m1).1
  simp only at hlie
  obtain⟨g1,g2⟩:=qas hs.hs (o':=.deferred none) m1 (fun _ _ _ h=>by cases h)
  have hnd:=List.nodup_cons.1 d2
  have hs':=hs.moveB (B':=B) (ds:=Ds.map qgV) g1 g2 rfl rfl rfl rfl ⟨Ds,rfl,hnd.2,fun D' hD'=>⟨q0v (d3 D' (List.mem_cons_of_mem _ hD')).1 (fun e=>hnd.1 (e▸hD')),(d3 D' (List.mem_cons_of_mem _ hD')).2⟩⟩
   (fun p hp=>q0v (hs.pin p hp) (m2 p hp))
  refine⟨by simp,.inl ⟨D,_,rfl,run_takeDeferred hlie,?_⟩⟩
  exact qtp Ds (a:={ a with defers:=Ds.map qgV }) hs' rfl h
end Go.Eng

namespace Go.Eng
theorem Sim.env{E E':Env}(he:E.glob=E'.glob)(hn:E.nimp=E'.nimp){B:Base}{X:Ctx}{st:St}{a:Act}(hs:Sim E B X st a):Sim E' B X st a:=
 ⟨hs.hs,hs.h,hs.t,hs.fs,he▸hs.glob,hs.df,hn▸hs.ni,hs.y,hs.pin⟩
theorem uq:∀c:Code,(zd c).length=zH c:=by
 intro c
 induction c<;>simp_all [zd,zH]
 all_goals omega
theorem qf6{f k:Nat}{L:St→Tree (Ex×St)}:∀{l:List ((Nat×Nat)×(St→Tree (Ex×St)))},q87 l f k=some L→((f,k),L)∈l
 | [],h=>by cases h
 | x::l,h=>by
  simp only[q87] at h
  split at h
  ·rename_i hb
   cases h
   simp only[Bool.and_eq_true] at hb
   have h1:=Nat.eq_of_beq_eq_true hb.1
   have h2:=Nat.eq_of_beq_eq_true hb.2
   have:x=((f,k),x.2):=by obtain⟨⟨a,b⟩,c⟩:=x;simp only at h1 h2;rw[h1,h2]
   exact this▸List.mem_cons_self
  ·exact List.mem_cons_of_mem _ (qf6 h)
def qp(P:Program)(gl:List (Nat×AV))(ni:Nat)(BO:Base→Prop)(c:Code)(L:St→Tree (Ex×St)):Prop:=
 ∀(E:Env) (B:Base) (X:Ctx) (st:St) (a:Act) (r:Ex×St),E.glob=gl→E.nimp=ni→BO B→Sim E B X st a→(L st).run=some r→∀(n0:Nat),c.wpIn (q3s B.ro) n0 P (qvx E B r) a X.w
def Env.loopsOK(E:Env)(P:Program):Prop:=
 ∀x,x∈E.loops→∃fn c c',P.funcs[x.1.1]?=some fn∧fn.body=some c∧(zd c)[x.1.2]?=some c'∧qp P E.glob E.nimp (qy P E.iter x.1.1) c' x.2
theorem qAO{E:Env}{P:Program}{rangeH:qce}(hrg:qij E P rangeH){f:FuncId}{fn:Func}(hf:P.funcs[f]?=some fn){cb:Code}(hb:fn.body=some cb){k:Nat}{x:Operand}{ps:Array Tmp}{a b:Code}
    (hk:(zd cb)[k]?=some (.rangeFunc x ps a b)) {evA evB:St→Tree (Ex×St)}
    (hA:∀(B:Base) (X:Ctx) (st:St) (act:Act) (r:Ex×St),qy P E.iter f B→Sim E B X st act→(evA st).run=some r→∀n,a.wpIn (q3s B.ro) n P (qvx E B r) act X.w)
    (hB:∀(B:Base) (X:Ctx) (st:St) (act:Act) (r:Ex×St),qy P E.iter f B→Sim E B X st act→(evB st).run=some r→∀n,b.wpIn (q3s B.ro) n P (qvx E B r) act X.w)
    {B:Base} {X:Ctx} {st:St} {act:Act} {r:Ex×St} {n0:Nat} (hbo:qy P E.iter f B) (hs:Sim E B X st act) {g:FuncId} {first caps:List AV} (hx:E.opd st.t x=.fn g first caps)
    (hc:(qqP E.iter g f k&&q73 E.iter f&&qvh st)=true) (h:((rangeH g (qto evA evB ps.toList) (first++[.yld]++caps) st).bind qzb).run=some r) :
    (Code.rangeFunc x ps a b).wpIn (q3s B.ro) n0 P (qvx E B r) act X.w:=by
  simp only[Bool.and_eq_true] at hc
  obtain⟨⟨hit,hni⟩,htop⟩:=hc
  have htop':st.fs=[[]]∧st.pend=none∧AV.noYL st.t=true∧st.h.all Blk.noY=true:=by
    unfold qvh at htop
    split at htop
    · rename_i h1 h2
      simp only[Bool.and_eq_true] at htop
      exact⟨h1,h2,htop.1,htop.2⟩
    · cases htop
  obtain⟨t1,t2,t3,t4⟩:=htop'
  have hBfs:B.fs=[[]]:=by
    have:=hs.fs
    rw[t1] at this
    generalize B.fs=l at this
    cases this with
    | cons g1 g2=>cases g1;cases g2;rfl
  have hro:B.ro=none:=by
    cases hr:B.ro with
    | none=>rfl
    | some l =>
      have:=hbo.1 (by rw[hr];rfl)
      rw[hBfs] at this
      simp at this
  have hfi:qge E.iter g=some (f,k):=by
    unfold qqP at hit
    split at hit
    · rename_i y hy
      simp only[Bool.and_eq_true] at hit
      rw[hy]
      obtain⟨y1,y2⟩:=y
      have e1:y1=f:=Nat.eq_of_beq_eq_true hit.1
      have e2:y2=k:=Nat.eq_of_beq_eq_true hit.2
      rw[e1,e2]
    · cases hit
  obtain⟨q,h1,h2⟩:=bind_some h
  have hvx:=q7t hs x
  rw[hx] at hvx
  generalize hev:act.eval x=vx at hvx
  cases hvx with
  | fn _ _ _ vf vc g1 g2 =>
  rw[hro]
  apply wpIn_rangeFunc
  intro fid _
  let D:=X.w.heap.size
  let l:=X.w.heap.size+1
  let rec0:Obj:=.loop (q5U fid act.tmps ps a b D none)
  obtain⟨k1,k2⟩:=qjg hs.hs (o:=.deferred (some [])) (fun _ _ _ h=>by cases h)
  obtain⟨k3,k4⟩:=qjg k1 (o:=rec0) (fun _ _ _ h=>Obj.noConfusion h)
  let X1:Ctx:={ X with w:=(X.w.alloc (.deferred (some []))).alloc rec0,kept:=(l,rec0)::(D,.deferred (some []))::X.kept }
  have hsz:(X.w.alloc (.deferred (some []))).heap.size=l:=by simp[l]
  have hX1:({ ({ X with w:=X.w.alloc (.deferred (some [])),kept:=(X.w.heap.size,.deferred (some []))::X.kept }:Ctx) with w:=(X.w.alloc (.deferred (some []))).alloc rec0,kept:=((X.w.alloc (.deferred (some []))).heap.size,rec0)::(X.w.heap.size,.deferred (some []))::X.kept }:Ctx)=X1:=by
    rw[hsz]
  have k3':HSim B X1:=hX1▸k3
  have k4':Move0 { X with w:=X.w.alloc (.deferred (some [])),kept:=(X.w.heap.size,.deferred (some []))::X.kept } X1 some:=hX1▸k4
  have hall:X1.h.all Blk.noY=true:=by show X.h.all Blk.noY=true;rw[hs.h];exact t4
  let X2:Ctx:={ X1 with y:=l }
  have hs2:HSim B X2:=k3'.setY l hall
  let B1:Base:={ B with fs:=act.tmps.toList::B.fs,ro:=none,y:=l,pin:=fun e=>(l,.loop (q5U fid act.tmps ps a b D e))::(D,.deferred (some []))::X.kept }
  have hlt:∀p,p∈(D,(.deferred (some []):Obj))::X.kept→p.1≠l:=by
    intro p hp
    rcases List.mem_cons.1 hp with rfl|hp
    · show D≠l;simp[D,l]
    · have:=quT hs.hs hp;simp only[l];omega
  have hI:qw3 P (f,k) B1:=⟨fn,cb,x,ps,a,b,hf,hb,hk,act.tmps,B.fs,D,fid,(D,.deferred (some []))::X.kept,rfl,fun e=>rfl,hlt,rfl⟩
  have hB1:qy P E.iter g B1:=⟨fun h=>(by cases h),by rw[hfi];exact hI⟩
  have hargs:RepL X2 (first++[.yld]++caps) (vf++[Value.func (.yield l) #[] #[]]++vc):=by
    have hno:AV.noYL first=true∧AV.noYL caps=true:=by
      have hn:(AV.fn g first caps).noY=true:=by
        rw[←hx]
        cases x with
        | tmp i =>
          simp only[Env.opd]
          rw[List.getD_eq_getElem?_getD]
          cases hi:st.t[i]? with
          | none=>rfl
          | some v =>
            have:∀(l:List AV),AV.noYL l=true→∀v,v∈l→v.noY=true:=by
              intro l
              induction l with
              | nil=>intro _ v hv;cases hv
              | cons y l ih =>
                intro hl v hv
                simp only[AV.noYL,Bool.and_eq_true] at hl
                rcases List.mem_cons.1 hv with rfl|hv
                · exact hl.1
                · exact ih hl.2 v hv
            exact this _ t3 v (List.mem_of_getElem? hi)
        | const v => rw [show E.opd st.t (.const v) = ofV v from rfl] at hx; unfold ofV at hx; split at hx; · cases hx
                     · unfold vL at hx;split at hx<;>first|cases hx|(split at hx<;>cases hx)
        | global g' =>
          simp only[Env.opd] at hx
          cases hg:E.glob.find? fun x=>x.1==g' with
          | none=>rw[hg] at hx;cases hx
          | some y =>
            rw[hg] at hx
            obtain⟨⟨sh,r',i,off,he⟩,_⟩:=hs.glob y (List.mem_of_find?_eq_some hg)
            simp only[Option.map_some,Option.getD_some] at hx
            rw[he] at hx;cases hx
        | func f'=>rw[show E.opd st.t (.func f')=.fn f' [] [] from rfl] at hx;cases hx;rfl
      simpa only [AV.noY,Bool.and_eq_true] using hn
    have m1:RepL X1 first vf:=(g1.ext0 k2).ext0 k4'
    have m2:RepL X1 caps vc:=(g2.ext0 k2).ext0 k4'
    exact((m1.setY l hno.1).append (.cons .yld .nil)).append (m2.setY l hno.2)
  have hF:SimF E B1 X2 st:=by
    have m1:RepL X1 st.t act.tmps.toList:=(hs.t.ext0 k2).ext0 k4'
    refine⟨hs2.base rfl rfl rfl,hs.h,?_,qu4 (qeN k4' (qeN k2 hs.glob)) l,hs.ni,rfl,fun p hp=>by rw[t2] at hp;exact hp⟩
    show RepLL X2 _ (act.tmps.toList::B.fs)
    rw[t1,hBfs]
    exact .cons (m1.setY l t3) (.cons .nil .nil)
  obtain⟨henter,hcalls⟩:=hrg g _ _ st q B1 X2 _ hF hB1 (fun B' hB'=>by
    obtain⟨_,h'⟩:=hB'
    rw[hfi] at h'
    exact qwm hf hb hk hni hA hB h') rfl hargs h1
  refine⟨l,[qgV D],X1.w,{ target:=.fn (.func g) vc.toArray,args:=vf.toArray++#[Value.func (.yield l) #[] #[]] },X1.w,g,(vf++[Value.func (.yield l) #[] #[]]++vc).toArray,X1.w,?_,?_,fun _ _=>trivial,?_,qcM none,?_⟩
  · exact run_enterLoop_outer fid act.tmps ps a b
  · simp only[resolve,hev,Deferred.ofValue,Sem.run_pure]
    simp[Act.eval]
  · simp only[invoke]
    have:vf.toArray++#[Value.func (.yield l) #[] #[]]++vc.toArray=(vf++[Value.func (.yield l) #[] #[]]++vc).toArray:=by
      apply Array.ext';simp
    rw[this]
    exact henter X1.w
  · refine qyX.2 (hcalls.mono fun e w' ⟨v,X',e1,e2,_,hF'⟩=>?_)
    subst e1 e2
    have hpin:=hF'.pin
    have hrec:(l,.loop (q5U fid act.tmps ps a b D q.2.pend))∈X'.kept:=hpin _ List.mem_cons_self
    have hlie:=(hF'.hs.kept _ hrec).1
    simp only at hlie
    have hbusy:(q5U fid act.tmps ps a b D q.2.pend).state≠.busy:=by
      simp only[q5U];split<;>simp
    obtain⟨m1,m2⟩:=qas hF'.hs (o':=.loop { q5U fid act.tmps ps a b D q.2.pend with state:=.exhausted }) hrec (fun _ _ _ h=>by cases h)
    refine⟨_,_,run_endLoop hlie hbusy,?_⟩
    unfold qzb at h2
    cases htq:qvh { q.2 with pend:=none } with
    | false=>rw[htq] at h2;cases h2
    | true =>
    rw[htq] at h2
    simp only at h2
    have htop2:q.2.fs=[[]]∧AV.noYL q.2.t=true∧q.2.h.all Blk.noY=true:=by
      unfold qvh at htq
      split at htq
      · rename_i h1 h2
        simp only[Bool.and_eq_true] at htq
        exact⟨h1,htq.1,htq.2⟩
      · cases htq
    obtain⟨u1,u2,u3⟩:=htop2
    let X3:Ctx:={ X' with w:=X'.w.putObj l (.loop { q5U fid act.tmps ps a b D q.2.pend with state:=.exhausted }),kept:=qbk l (.loop { q5U fid act.tmps ps a b D q.2.pend with state:=.exhausted }) X'.kept }
    have hsim:Sim E B { X3 with y:=B.y } { q.2 with pend:=none } { act with defers:=[qgV D]++act.defers }:=by
      have hfs':=hF'.fs.ext0 m2
      have hold:∀p,p∈(D,(.deferred (some []):Obj))::X.kept→p∈X3.kept:=fun p hp=>q0v (hpin p (List.mem_cons_of_mem _ hp)) (hlt p hp)
      have hfs2:RepLL X3 (q.2.t::q.2.fs) (act.tmps.toList::B.fs):=hfs'
      refine⟨((m1.base (B':=B) rfl rfl rfl).setY B.y (by show X'.h.all Blk.noY=true;rw[hF'.h];exact u3)),hF'.h,?_,?_,qu4 (qeN m2 hF'.glob) B.y,?_,hs.ni,rfl,?_⟩
      · cases hfs2 with|cons z1 z2=>exact z1.setY B.y u2
      · show RepLL _ q.2.fs B.fs
        rw[u1,hBfs];exact .cons .nil .nil
      · obtain⟨Ds,d1,d2,d3⟩:=hs.df
        rw[t2] at d3
        refine⟨D::Ds,by rw[d1];rfl,List.nodup_cons.2 ⟨fun hD=>?_,d2⟩,fun D' hD'=>?_⟩
        · have:=quT hs.hs (d3 D hD).1
          simp[D] at this
        · rcases List.mem_cons.1 hD' with rfl|hD'
          · refine⟨hold _ List.mem_cons_self,fun p hp=>?_⟩
            have hp':=hs.pin p (by rw[t2];exact hp)
            have:=quT hs.hs hp'
            simp only[D];omega
          · exact⟨hold _ (List.mem_cons_of_mem _ (d3 D' hD').1),(d3 D' hD').2⟩
      · intro p hp
        exact hold p (List.mem_cons_of_mem _ (hs.pin p (by rw[t2];exact hp)))
    cases hpe:q.2.pend with
    | none =>
      rw[hpe] at h2
      simp only[Tree.run,Option.some.injEq] at h2
      subst h2
      exact⟨rfl,{ X3 with y:=B.y },by show X'.w.putObj l _=_;rw[hpe],hsim⟩
    | some e =>
      rw[hpe] at h2
      cases e with
      | normal=>cases h2
      | ret =>
        simp only[Tree.run,Option.some.injEq] at h2
        subst h2
        exact wpIn_ret ⟨rfl,{ X3 with y:=B.y },by show X'.w.putObj l _=_;rw[hpe],hsim⟩
      | exit i =>
        simp only[Tree.run,Option.some.injEq] at h2
        subst h2
        exact wpIn_exit ⟨rfl,{ X3 with y:=B.y },by show X'.w.putObj l _=_;rw[hpe],hsim⟩
theorem qaj{E:Env}{P:Program}(hm:P.follows .mixedOrders=true)(hE:E.tok P)(hS:E.specs P)(hL:E.loopsOK P){f:FuncId}{fn:Func}(hf:P.funcs[f]?=some fn){cb:Code}(hb:fn.body=some cb)
  {callH:q7E} (hcH:∀B,qy P E.iter f B→CallOK E P callH B) {callS:List Blk→q8Y} (hc:qie E P callS) (hmo:q9s E callS) {rangeH:qce} (hrg:qij E P rangeH) :
  ∀(c:Code) (k:Nat),(∀j c',(zd c)[j]?=some c'→(zd cb)[k+j]?=some c') →
  ∀{B:Base} {X:Ctx} {st:St} {a:Act} {r:Ex×St} {n0:Nat},qy P E.iter f B→Sim E B X st a→(jS E callH callS rangeH f c k st).run=some r→c.wpIn (q3s B.ro) n0 P (qvx E B r) a X.w:=by
 intro c
 induction c with
 | skip=>
  intro k _ B X st a r n0 hbo hs h
  simp only[jS,Tree.run,Option.some.injEq] at h
  subst h
  exact wpIn_skip ⟨rfl,X,rfl,hs⟩
 | label _=>
  intro k _ B X st a r n0 hbo hs h
  simp only[jS,Tree.run,Option.some.injEq] at h
  subst h
  exact wpIn_label ⟨rfl,X,rfl,hs⟩
 | region id ops draw=>
  intro k _ B X st a r n0 hbo hs h
  simp only[jS] at h
  obtain⟨s,h1,h2⟩:=bind_some h
  simp only[Tree.run,Option.some.injEq] at h2
  subst h2
  cases draw with
  | true=>exact que hm hE hS (hcH B hbo) hc hmo hs h1 fun X' a' hs'=>⟨rfl,X',rfl,hs'⟩
  | false=>exact qpw hE (hcH B hbo) hs h1 fun X' a' hs'=>⟨rfl,X',rfl,hs'⟩
 | seq c d ihc ihd=>
  intro k hl B X st a r n0 hbo hs h
  simp only[jS] at h
  cases hfn:q87 E.loops f k with
  | some L=>
   rw[hfn] at h
   obtain⟨fn',c1,c2,q1,q2,q3,q4⟩:=hL _ (qf6 hfn)
   simp only at q1 q3 q4
   rw[hf] at q1;cases q1
   rw[hb] at q2;cases q2
   have:=hl 0 (.seq c d) (by simp[zd])
   rw[Nat.add_zero,q3] at this
   cases this
   exact q4 E B X st a r rfl rfl hbo hs h n0
  | none=>
  rw[hfn] at h
  obtain⟨r1,h1,h2⟩:=bind_some h
  apply wpIn_seq
  have g1:=ihc (k+1) (fun j c' hj=>by
   have:=hl (1+j) c' (by simp only[zd];rw[Nat.add_comm,List.getElem?_cons_succ,List.getElem?_append_left (qu hj)];exact hj)
   rw[show k+1+j=k+(1+j) by omega];exact this) (n0:=n0) hbo hs h1
  refine wpIn_mono g1 fun e a' w' ⟨he,X',hw,hs'⟩=>?_
  subst hw
  obtain⟨x1,s1⟩:=r1
  cases x1 with
  | normal=>
   subst he
   refine ihd (k+1+zH c) (fun j c' hj=>?_) hbo hs' h2
   have:=hl (1+zH c+j) c' (by
    simp only[zd]
    rw[show 1+zH c+j=(zH c+j)+1 by omega,List.getElem?_cons_succ,List.getElem?_append_right (by rw[uq];omega),uq]
    rw[show zH c+j-zH c=j by omega];exact hj)
   rw[show k+1+zH c+j=k+(1+zH c+j) by omega];exact this
  | exit i=>
   simp only[Tree.run,Option.some.injEq] at h2
   subst he h2
   exact⟨rfl,X',rfl,hs'⟩
  | ret=>
   simp only[Tree.run,Option.some.injEq] at h2
   subst he h2
   exact⟨rfl,X',rfl,hs'⟩
 | cond x c d ihc ihd=>
  intro k hl B X st a r n0 hbo hs h
  simp only[jS] at h
  have hlc:=fun j c' (hj:(zd c)[j]?=some c')=>hl j c' (by simp only[zd];rw[List.getElem?_append_left (qu hj)];exact hj)
  have hld:∀j c',(zd d)[j]?=some c'→(zd cb)[k+zH c+j]?=some c':=fun j c' hj=>by
   have:=hl (zH c+j) c' (by
    simp only[zd]
    rw[List.getElem?_append_right (by rw[uq];omega),uq]
    rw[show zH c+j-zH c=j by omega];exact hj)
   rw[show k+zH c+j=k+(zH c+j) by omega];exact this
  have hx:=q7t hs x
  cases hv:E.opd st.t x with
  | blit b=>
   rw[hv] at h hx
   generalize hev:a.eval x=vx at hx
   cases hx
   cases b with
   | true=>exact wpIn_cond_true hev (ihc k hlc hbo hs h)
   | false=>exact wpIn_cond_false hev (ihd _ hld hbo hs h)
  | bool b=>
   rw[hv] at h hx
   generalize hev:a.eval x=vx at hx
   cases hx
   cases x with
   | tmp t=>
    simp only at h
    have ht:st.t[t]?=some (.bool b):=by
     simp only[Env.opd,List.getD_eq_getElem?_getD] at hv
     cases hg:st.t[t]? with
     | none=>rw[hg] at hv;cases hv
     | some y=>rw[hg] at hv;simp at hv;rw[hv]
    have hs':=hs.lit ht
    cases b with
    | true=>exact wpIn_cond_true hev (ihc k hlc hbo hs' h)
    | false=>exact wpIn_cond_false hev (ihd _ hld hbo hs' h)
   | _=>cases h
  | _=>rw[hv] at h;cases h
 | block id c ihc=>
  intro k hl B X st a r n0 hbo hs h
  simp only[jS] at h
  obtain⟨r1,h1,h2⟩:=bind_some h
  apply wpIn_block
  have g1:=@ihc k hl _ _ _ _ _ n0 hbo hs h1
  refine wpIn_mono g1 fun e a' w' ⟨he,X',hw,hs'⟩=>?_
  subst hw he
  obtain⟨x1,s1⟩:=r1
  cases x1 with
  | normal=>
   simp only[Tree.run,Option.some.injEq] at h2
   subst h2
   exact⟨rfl,X',rfl,hs'⟩
  | ret=>
   simp only[Tree.run,Option.some.injEq] at h2
   subst h2
   exact⟨rfl,X',rfl,hs'⟩
  | exit i=>
   simp only[Ex.out,Exit.inBlock]
   simp only at h2
   by_cases hi:i=id
   ·rw[if_pos hi] at h2 ⊢
    simp only[Tree.run,Option.some.injEq] at h2
    subst h2
    exact⟨rfl,X',rfl,hs'⟩
   ·rw[if_neg hi] at h2 ⊢
    simp only[Tree.run,Option.some.injEq] at h2
    subst h2
    exact⟨rfl,X',rfl,hs'⟩
 | loop c ihc=>
  intro k hl B X st a r n0 hbo hs h
  simp only[jS] at h
  cases hfn:q87 E.loops f k with
  | none=>rw[hfn] at h;cases h
  | some L=>
   rw[hfn] at h
   obtain⟨fn',c1,c2,q1,q2,q3,q4⟩:=hL _ (qf6 hfn)
   simp only at q1 q3 q4
   rw[hf] at q1;cases q1
   rw[hb] at q2;cases q2
   have:=hl 0 (.loop c) (by simp[zd])
   rw[Nat.add_zero,q3] at this
   cases this
   exact q4 E B X st a r rfl rfl hbo hs h n0
 | exit id=>
  intro k _ B X st a r n0 hbo hs h
  simp only[jS,Tree.run,Option.some.injEq] at h
  subst h
  exact wpIn_exit ⟨rfl,X,rfl,hs⟩
 | ret  =>
  intro k _ B X st a r n0 hbo hs h
  simp only[jS,Tree.run,Option.some.injEq] at h
  subst h
  exact wpIn_ret ⟨rfl,X,rfl,hs⟩
 | goto _=>
  intro k _ B X st a r n0 hbo hs h
  simp only[jS] at h;cases h
 | scope _ ihc=>
  intro k _ B X st a r n0 hbo hs h
  simp only[jS] at h;cases h
 | rangeFunc x ps c d ihc ihd=>
  intro k hl B X st a r n0 hbo hs h
  simp only[jS] at h
  cases hx:E.opd st.t x with
  | fn g first caps=>
   rw[hx] at h
   simp only at h
   cases hcd:qqP E.iter g f k&&q73 E.iter f&&qvh st with
   | false=>rw[hcd] at h;cases h
   | true=>
    rw[hcd] at h
    simp only at h
    refine qAO hrg hf hb (hl 0 _ (by simp[zd])) (fun B X st act r hbo hs hr n=>?_) (fun B X st act r hbo hs hr n=>?_) hbo hs hx hcd h
    ·refine ihc (k+1) (fun j c' hj=>?_) hbo hs hr
     have:=hl (1+j) c' (by simp only[zd];rw[Nat.add_comm,List.getElem?_cons_succ,List.getElem?_append_left (qu hj)];exact hj)
     rw[show k+1+j=k+(1+j) by omega];exact this
    ·refine ihd (k+1+zH c) (fun j c' hj=>?_) hbo hs hr
     have:=hl (1+zH c+j) c' (by
      simp only[zd]
      rw[show 1+zH c+j=(zH c+j)+1 by omega,List.getElem?_cons_succ,List.getElem?_append_right (by rw[uq];omega),uq]
      rw[show zH c+j-zH c=j by omega];exact hj)
     rw[show k+1+zH c+j=k+(1+zH c+j) by omega];exact this
  | _=>rw[hx] at h;cases h
 | _=>
  intro k hl B X st a r n0 hbo hs h
  simp only[jS] at h;cases h
theorem quF{P:Program}{w:World}{t:TypeId}{v u:Value}(h:(Instr.loadAt t v).run P w=.ok u w):∃ad,v=.pointer (some ad)∧(loadVar t ad).run P w=.ok u w:=by
 cases v with
 | pointer p=>
  cases p with
  | some ad=>exact⟨ad,rfl,by simpa[Instr.loadAt,Instr.sureAddr] using h⟩
  | none=>simp[Instr.loadAt,Instr.sureAddr] at h
 | _=>simp[Instr.loadAt,Instr.sureAddr] at h
def qEg(tmps:Array Value):ResultVar→Sem Value
 | .tmp t=>pure (tmps.getD t undef)
 | .cell a t=>do loadVar t (←asAddr (tmps.getD a undef))
theorem qxX(fn:Func)(tmps:Array Value):results fn tmps=(fn.results.mapM (qEg tmps) >>= fun vs=>pure (if h:vs.size=1 then vs[0] else .tuple vs)):=by
 unfold results
 congr 1
theorem qhp{E:Env}{P:Program}(hE:E.tok P){B:Base}{X:Ctx}{st:St}{a:Act}(hs:Sim E B X st a):∀(l:List ResultVar) (vs:List AV),qmy E st.h st.t l=some vs →
  ∃us,(l.mapM (qEg a.tmps)).run P X.w=.ok us X.w∧RepL X vs us
 | [],vs,h=>by simp only[qmy,Option.some.injEq] at h;subst h;exact⟨[],by simp,.nil⟩
 | .tmp i::l,vs,h=>by
  simp only[qmy] at h
  split at h
  ·rename_i r hr
   cases h
   obtain⟨us,h1,h2⟩:=qhp hE hs l r hr
   have:=q7t hs (.tmp i)
   simp only[Env.opd,Act.eval] at this
   exact⟨_::us,by simp[List.mapM_cons,qEg,h1],.cons this h2⟩
  ·cases h
 | .cell i ty::l,vs,h=>by
  simp only[qmy] at h
  split at h
  ·rename_i v h' n r hld hr
   cases h
   obtain⟨us,h1,h2⟩:=qhp hE hs l r hr
   have hv:=q7t hs (.tmp i)
   simp only[Env.opd,Act.eval] at hv
   rw[←hs.h] at hld
   obtain⟨av,u,g1,g2,g3⟩:=qeS hE hs.hs hv (r:=(v,h',n)) (by rw[hld];rfl)
   obtain⟨ad,g4,g5⟩:=quF g2
   have:v=av:=congrArg Prod.fst g1
   subst this
   refine⟨u::us,?_,.cons g3 h2⟩
   simp only[List.mapM_cons,qEg,Sem.run_bind,g4,asAddr,Sem.run_pure,Result.andThen_ok,g5,h1]
  ·cases h
theorem RepL.len{X:Ctx}:∀{azz:List AV} {vs:List Value},RepL X azz vs→azz.length=vs.length
 | _,_,.nil=>rfl
 | _,_,.cons _ t=>by simp[t.len]
theorem qrl{E:Env}{P:Program}(hE:E.tok P){B:Base}{X:Ctx}{st:St}{a:Act}(hs:Sim E B X st a){fn:Func}{vs:List AV}(h:qmy E st.h st.t fn.results.toList=some vs) :
  ∃u,(results fn a.tmps).run P X.w=.ok u X.w∧Rep X (qyH vs) u:=by
 obtain⟨us,h1,h2⟩:=qhp hE hs _ _ h
 have hm:(fn.results.mapM (qEg a.tmps)).run P X.w=.ok us.toArray X.w:=by
  rw[Array.mapM_eq_mapM_toList,Sem.run_map,h1];rfl
 rw[qxX,Sem.run_bind,hm]
 simp only[Result.andThen_ok,Sem.run_pure]
 have hl:=h2.len
 cases h2 with
 | nil=>exact⟨_,rfl,.tuple [] [] .nil⟩
 | cons g1 g2=>
  cases g2 with
  | nil=>exact⟨_,rfl,by simpa[qyH] using g1⟩
  | cons g3 g4=>
   refine⟨_,rfl,?_⟩
   rw[dif_neg (by simp)]
   exact .tuple _ _ (.cons g1 (.cons g3 g4))
theorem qyM{X:Ctx}{fn:Func}{args:List AV}{vargs:List Value}(h:RepL X args vargs):RepL X (qxE fn args) (vargs.toArray++Array.replicate (fn.ntmps-vargs.toArray.size) undef).toList:=by
 have hrep:∀n,RepL X (List.replicate n .skip) (List.replicate n undef):=by
  intro n
  induction n with
  | zero=>exact .nil
  | succ n ih=>simp only[List.replicate_succ];exact .cons .skip ih
 unfold qxE
 simp only[Array.toList_append,Array.toList_replicate,List.size_toArray]
 rw[h.len]
 exact h.append (hrep _)
def Env.bodies(E:Env)(P:Program):Prop:=∀x,x∈E.body→P.funcs[x.1]?=some x.2∧(x.2.name == "runtime.NumGoroutine")=false
theorem qiR{E:Env}{P:Program}(hm:P.follows .mixedOrders=true)(hE:E.tok P)(hS:E.specs P)(hL:E.loopsOK P){f:FuncId}{fn:Func}(hf:P.funcs[f]?=some fn)
  {callH:q7E} (hcH:∀B,qy P E.iter f B→CallOK E P callH B) {callS:List Blk→q8Y} (hc:qie E P callS) (hmo:q9s E callS) {rangeH:qce} (hrg:qij E P rangeH)
  {args:List AV} {st:St} {r:AV×St} {B:Base} {X:Ctx} {vargs:List Value} (hro:B.ro=none) (hbo:qy P E.iter f B) (hs:SimF E B X st) (ha:RepL X args vargs) (h:(qss E callS callH rangeH f fn args st).run=some r) :
  fn.body.isNone=false∧Calls P f vargs.toArray X.w fun e w'=>∃v X',e=.returned v∧X'.w=w'∧Rep X' r.1 v∧SimF E B X' r.2:=by
 unfold qss at h
 cases hb:fn.body with
 | none=>rw[hb] at h;cases h
 | some c=>
  rw[hb] at h
  refine⟨rfl,qyX.1 (callsIn_of_wp_marks (F:=q3s none) (n:=0) hf hb trivial ?_)⟩
  obtain⟨r1,h1,h2⟩:=bind_some h
  have hsim:Sim E B X { t:=qxE fn args,fs:=st.t::st.fs,h:=st.h,pend:=st.pend } { tmps:=vargs.toArray++Array.replicate (fn.ntmps-vargs.toArray.size) undef,defers:=[] }:=
   ⟨hs.hs,hs.h,qyM ha,hs.fs,hs.glob,qvk.nil,hs.ni,hs.y,hs.pin⟩
  have hcode:=qaj (n0:=0) hm hE hS hL hf hb hcH hc hmo hrg c 0 (fun j c' hj=>by rw[Nat.zero_add];exact hj) hbo hsim h1
  rw[hro] at hcode
  refine wpIn_mono hcode fun e a' w' ⟨he,X',hw,hs'⟩=>?_
  subst he hw
  obtain⟨x1,s1⟩:=r1
  have fin:∀{vs:List AV} {caller:List AV} {fs:List (List AV)},qmy E s1.h s1.t fn.results.toList=some vs→s1.fs=caller::fs→r=(qyH vs,{ t:=caller,fs:=fs,h:=s1.h,pend:=s1.pend }) →
    LeavesInM (q3s none) 0 P fn a'.tmps (fun e w'=>∃v X',e=.returned v∧X'.w=w'∧Rep X' r.1 v∧SimF E B X' r.2) a'.defers .returning X'.w:=by
   intro vs caller fs hr hfs hre
   obtain⟨Ds,d1,_⟩:=hs'.df
   rw[d1]
   refine qtp Ds hs' d1 fun X2 hs2=>?_
   obtain⟨u,g1,g2⟩:=qrl hE hs2 hr
   refine⟨u,g1,u,X2,rfl,rfl,by rw[hre];exact g2,?_⟩
   rw[hre]
   exact⟨hs2.hs,hs2.h,by rw[←hfs];exact hs2.fs,hs2.glob,hs2.ni,hs2.y,hs2.pin⟩
  unfold qB8 at h2
  cases x1 with
  | exit i=>simp only at h2;cases h2
  | normal=>
   simp only at h2
   split at h2
   ·rename_i vs caller fs hr hfs;cases h2;exact fin hr hfs rfl
   ·cases h2
  | ret=>
   simp only at h2
   split at h2
   ·rename_i vs caller fs hr hfs;cases h2;exact fin hr hfs rfl
   ·cases h2
theorem q2n {P:Program} {f:FuncId} {fn:Func} (hf:P.funcs[f]?=some fn) (hn:(fn.name == "runtime.NumGoroutine")=false) (hb:fn.body.isNone=false):qju P f:=by
 intro args w
 unfold callFunc
 rw[Sem.run_bind]
 show (Result.ok P w).andThen _=_
 simp only[Result.andThen_ok,hf,hn,hb,Bool.false_eq_true,if_false,Sem.run_pure]
theorem qCA{all:Array Oper}{k:Nat}{o:Oper}{s s':St}(h:(qpi all k o s).run=some s')(u:St)(hu:u.t=s.t):(qpi all k o u).run=some { u with t:=s'.t }:=by
 unfold qpi at h ⊢
 split at h
 ·rename_i hg
  rw[if_pos hg]
  split at h
  ·rename_i d hd
   simp only[hu]
   split at h
   ·rename_i b hb
    simp only[Tree.run] at h ⊢
    cases b<;>(simp only[Option.some.injEq] at h ⊢;subst h;rfl)
   ·rename_i hb
    cases hx:s.t[d]? with
    | none=>simp only[Tree.run,Option.some.injEq] at h ⊢;subst h;rw[←hu]
    | some v=>
     rw[hx] at hb
     cases v<;>first|(exact absurd rfl (hb _))|(simp only[Tree.run,Option.some.injEq] at h ⊢;subst h;rw[←hu])
  ·simp only[Tree.run,Option.some.injEq] at h ⊢;subst h;rw[←hu]
 ·rename_i hg
  rw[if_neg hg]
  simp only[Tree.run,Option.some.injEq] at h ⊢;subst h;rw[←hu]
theorem qle{E:Env}{callH:q7E}{all:Array Oper}{st0:St}:∀(l:List Oper) (k:Nat) (t t':List AV),(qqt E st0.h all k l t).run=some t'→(qi7 E callH all k l { st0 with t:=t }).run=some { st0 with t:=t' }
 | [],k,t,t',h=>by simp only[qqt,Tree.run,Option.some.injEq] at h;subst h;rfl
 | o::rest,k,t,t',h=>by
  simp only[qqt] at h
  simp only[qi7]
  cases hw:q1X all o t with
  | none=>rw[hw] at h;cases h
  | some b=>
   rw[hw] at h
   cases b with
   | false=>
    simp only at h ⊢
    exact qle rest (k+1) _ t' h
   | true=>
    simp only at h ⊢
    cases hst:qbA E o.op with
    | false=>rw[hst] at h;cases h
    | true=>
     rw[hst] at h
     obtain⟨r,h1,h2⟩:=bind_some h
     obtain⟨s,h3,h4⟩:=bind_some h2
     have hr:=qqF hst h1
     have hstep:(qoY E callH o { st0 with t:=t }).run=some { st0 with t:=qgr t o.dst r.1 }:=by
      unfold qoY
      split
      ·rename_i x args tys hop;rw[hop] at hst;cases hst
      ·rw[Tree.run_bind,h1]
       obtain⟨r1,r2⟩:=r
       simp only at hr
       subst hr
       rfl
     rw[Tree.run_bind,hstep]
     simp only[Option.bind_some]
     rw[Tree.run_bind,qCA h3 { st0 with t:=qgr t o.dst r.1 } rfl]
     exact qle rest (k+1) _ t' h4
theorem qu5{E:Env}{callH:q7E}{callS:List Blk→q8Y}{rangeH:qce}{f:FuncId}{st0:St}:∀(c:Code) (k:Nat) (t:List AV) (r:Ex×List AV),(q1o E st0.h f c k t).run=some r →
  (jS E callH callS rangeH f c k { st0 with t:=t }).run=some (r.1,{ st0 with t:=r.2 }):=by
 intro c
 induction c with
 | skip=>intro k t r h;simp only[q1o,Tree.run,Option.some.injEq] at h;subst h;rfl
 | label _=>intro k t r h;simp only[q1o,Tree.run,Option.some.injEq] at h;subst h;rfl
 | region id ops draw=>
  intro k t r h
  simp only[q1o] at h
  cases draw with
  | true=>cases h
  | false=>
   obtain⟨s,h1,h2⟩:=bind_some h
   simp only[Tree.run,Option.some.injEq] at h2
   subst h2
   simp only[jS]
   rw[Tree.run_bind,qle (callH:=callH) _ _ _ _ h1]
   rfl
 | seq c d ihc ihd=>
  intro k t r h
  simp only[q1o] at h
  simp only[jS]
  cases hfn:q87 E.loops f k with
  | some L=>rw[hfn] at h;cases h
  | none=>
   rw[hfn] at h
   simp only at h ⊢
   obtain⟨s,h1,h2⟩:=bind_some h
   rw[Tree.run_bind,ihc _ _ _ h1]
   simp only[Option.bind_some]
   obtain⟨e,s2⟩:=s
   cases e with
   | normal=>exact ihd _ _ _ h2
   | ret=>simp only[Tree.run,Option.some.injEq] at h2 ⊢;subst h2;rfl
   | exit i=>simp only[Tree.run,Option.some.injEq] at h2 ⊢;subst h2;rfl
 | cond x c d ihc ihd=>
  intro k t r h
  simp only[q1o] at h
  simp only[jS]
  split at h
  ·exact ihc _ _ _ h
  ·exact ihd _ _ _ h
  ·rename_i b hx
   cases x with
   | tmp d'=>
    simp only[Tree.run] at h ⊢
    cases b with
    | true=>exact ihc _ _ _ h
    | false=>exact ihd _ _ _ h
   | _=>cases h
  ·cases h
 | block id c ihc=>
  intro k t r h
  simp only[q1o] at h
  simp only[jS]
  obtain⟨s,h1,h2⟩:=bind_some h
  rw[Tree.run_bind,ihc _ _ _ h1]
  simp only[Option.bind_some]
  obtain⟨e,s2⟩:=s
  cases e with
  | normal=>simp only[Tree.run,Option.some.injEq] at h2 ⊢;subst h2;rfl
  | ret=>simp only[Tree.run,Option.some.injEq] at h2 ⊢;subst h2;rfl
  | exit i=>
   simp only at h2 ⊢
   split at h2
   ·rename_i hi;rw[if_pos hi];simp only[Tree.run,Option.some.injEq] at h2 ⊢;subst h2;rfl
   ·rename_i hi;rw[if_neg hi];simp only[Tree.run,Option.some.injEq] at h2 ⊢;subst h2;rfl
 | exit id=>intro k t r h;simp only[q1o,Tree.run,Option.some.injEq] at h;subst h;rfl
 | ret=>intro k t r h;simp only[q1o,Tree.run,Option.some.injEq] at h;subst h;rfl
 | _=>intro k t r h;simp only[q1o] at h;cases h
theorem qsZ{E:Env}{callH:q7E}{rangeH:qce}{f:FuncId}{fn:Func}{args:List AV}{st:St}{v:AV}(h:(qvV E st.h f fn args).run=some v):(qss E qrg callH rangeH f fn args st).run=some (v,st):=by
 unfold qvV at h
 unfold qss
 cases hb:fn.body with
 | none=>rw[hb] at h;cases h
 | some c=>
  rw[hb] at h
  simp only at h ⊢
  obtain⟨r,h1,h2⟩:=bind_some h
  rw[Tree.run_bind,qu5 (callH:=callH) (callS:=qrg) (rangeH:=rangeH) (st0:={ t:=[],fs:=st.t::st.fs,h:=st.h,pend:=st.pend }) c 0 _ r h1]
  simp only[Option.bind_some]
  obtain⟨e,t'⟩:=r
  unfold qB8
  cases e with
  | exit i=>cases h2
  | normal=>
   simp only at h2 ⊢
   cases hr:qmy E st.h t' fn.results.toList with
   | none=>rw[hr] at h2;cases h2
   | some vs=>rw[hr] at h2;cases h2;rfl
  | ret=>
   simp only at h2 ⊢
   cases hr:qmy E st.h t' fn.results.toList with
   | none=>rw[hr] at h2;cases h2
   | some vs=>rw[hr] at h2;cases h2;rfl
theorem qhT{P:Program}{it:List (FuncId×FuncId×Nat)}{f:FuncId}(h:q73 it f=true){B:Base}(hB:B.ro.isSome=true→2≤B.fs.length):qy P it f B:=by
 refine⟨hB,?_⟩
 unfold q73 at h
 split at h
 ·cases h
 ·rename_i hn;rw[hn];trivial
theorem qkI(E:Env)(P:Program):qij E P qsf:=fun _ _ _ _ _ _ _ _ _ _ _ _ _ h=>by cases h
theorem qzm{E:Env}{P:Program}(B:Base):CallOK E P (fun _ _ _=>.fail) B:=⟨(fun f args st r X a vargs _ _ h=>by cases h),(fun args st r X a vargs _ _ h=>by cases h)⟩
theorem qai{E:Env}{P:Program}(hm:P.follows .mixedOrders=true)(hE:E.tok P)(hS:E.specs P)(hL:E.loopsOK P)(hb:E.bodies P):qie E P (q71 E):=by
 intro f args st v B X a vargs hs ha h
 unfold q71 at h
 cases hsp:E.spec.find? fun x=>x.1==f with
 | some G=>rw[hsp] at h;exact qr5 hS f args st v B X a vargs hs ha h
 | none=>
  rw[hsp] at h
  simp only at h
  cases hbd:E.body.find? fun x=>x.1==f with
  | none=>rw[hbd] at h;cases h
  | some fn=>
   rw[hbd] at h
   simp only at h
   cases hni:q73 E.iter f with
   | false=>rw[hni] at h;cases h
   | true=>
   rw[hni] at h
   simp only at h
   have hx:=hb fn (List.mem_of_find?_eq_some hbd)
   have hfe:fn.1=f:=by simpa using List.find?_some hbd
   rw[hfe] at hx
   let B':Base:={ B with fs:=a.tmps.toList::B.fs,ro:=none,pin:=fun _=>X.kept }
   have hF:SimF E B' X st:=⟨hs.hs.base rfl rfl rfl,hs.h,.cons hs.t hs.fs,hs.glob,hs.ni,hs.y,fun p hp=>hp⟩
   have h1:=qsZ (callH:=fun _ _ _=>.fail) (rangeH:=qsf) h
   obtain⟨g1,g2⟩:=qiR hm hE hS hL hx.1 (fun B _=>qzm B) (callS:=qrg) (fun _ _ _ _ _ _ _ _ _ _ h=>by cases h) (qsS E) (qkI E P) (B:=B') rfl (qhT hni (fun h=>by cases h)) hF ha h1
   refine⟨q2n hx.1 hx.2 g1 _,g2.mono fun e w' ⟨u,X',e1,e2,e3,e4⟩=>⟨u,X',e1,e2,e3,?_⟩⟩
   have hpin:∀p,p∈X.kept→p∈X'.kept:=e4.pin
   have hfs:RepLL X' (st.t::st.fs) (a.tmps.toList::B.fs):=e4.fs
   obtain⟨Ds,d1,d2,d3⟩:=hs.df
   refine⟨e4.hs.base rfl rfl rfl,e4.h,?_,?_,e4.glob,⟨Ds,d1,d2,fun D hD=>⟨hpin _ (d3 D hD).1,(d3 D hD).2⟩⟩,hs.ni,e4.y,fun p hp=>hpin p (hs.pin p hp)⟩
   ·cases hfs with|cons k1 k2=>exact k1
   ·cases hfs with|cons k1 k2=>exact k2
theorem qeY{E:Env}{P:Program}(hm:P.follows .mixedOrders=true)(hE:E.tok P)(hS:E.specs P)(hL:E.loopsOK P)(hbs:E.bodies P){f:FuncId}{fn:Func}(hf:P.funcs[f]?=some fn)
  {callH:q7E} (hcH:∀B,qy P E.iter f B→CallOK E P callH B) {rangeH:qce} (hrg:qij E P rangeH)
  {args:List AV} {st:St} {r:AV×St} {B:Base} {X:Ctx} {vargs:List Value} (hro:B.ro=none) (hbo:qy P E.iter f B) (hs:SimF E B X st) (ha:RepL X args vargs) (h:(qwz E callH rangeH f fn args st).run=some r) :
  fn.body.isNone=false∧Calls P f vargs.toArray X.w fun e w'=>∃v X',e=.returned v∧X'.w=w'∧Rep X' r.1 v∧SimF E B X' r.2:=
 qiR hm hE hS hL hf hcH (qai hm hE hS hL hbs) (q6j E) hrg hro hbo hs ha h
theorem qbT{E:Env}{P:Program}(hm:P.follows .mixedOrders=true)(hE:E.tok P)(hS:E.specs P)(hL:E.loopsOK P)(hb:E.bodies P){callH:q7E}(hcH:∀B,CallOK E P callH B):qij E P (qhQ E callH):=by
 intro g y args st r B X vargs hs hbo hy hro ha h
 unfold qhQ at h
 cases hbd:E.body.find? fun x=>x.1==g with
 | none=>rw[hbd] at h;cases h
 | some fn=>
  rw[hbd] at h
  have hx:=hb fn (List.mem_of_find?_eq_some hbd)
  have hfe:fn.1=g:=by simpa using List.find?_some hbd
  rw[hfe] at hx
  obtain⟨g1,g2⟩:=qeY hm hE hS hL hb hx.1 (callH:=qBr y callH) (fun B' hB'=>⟨(hcH B').fn,hy B' hB'⟩) (qkI E P) hro hbo hs ha h
  exact⟨q2n hx.1 hx.2 g1 _,g2⟩
theorem qf7{E:Env}{P:Program}(hm:P.follows .mixedOrders=true)(hE:E.tok P)(hS:E.specs P)(hL:E.loopsOK P)(hb:E.bodies P):∀n B,CallOK E P (q7K E n) B
 | 0,_=>⟨(fun f args st r X a vargs _ _ h=>by simp only[q7K] at h;cases h),(fun args st r X a vargs _ _ h=>by simp only[q7K] at h;cases h)⟩
 | n+1,B=>⟨(fun f args st r X a vargs hs ha h=>by
  simp only[q7K] at h
  cases hsp:E.spec.find? fun x=>x.1==f with
  | some G=>
   rw[hsp] at h
   have hG:=hS G (List.mem_of_find?_eq_some hsp)
   have hfe:G.1=f:=by simpa using List.find?_some hsp
   rw[hfe] at hG
   exact⟨hG.1 _,qbp hG hs ha h⟩
  | none=>
   rw[hsp] at h
   cases hbd:E.body.find? fun x=>x.1==f with
   | none=>rw[hbd] at h;cases h
   | some fn=>
    rw[hbd] at h
    simp only at h
    cases hni:q73 E.iter f with
    | false=>rw[hni] at h;cases h
    | true=>
    rw[hni] at h
    simp only at h
    obtain⟨r1,h1,h2⟩:=bind_some h
    simp only[Tree.run,Option.some.injEq] at h2
    subst h2
    have hx:=hb fn (List.mem_of_find?_eq_some hbd)
    have hfe:fn.1=f:=by simpa using List.find?_some hbd
    rw[hfe] at hx
    let B':Base:={ B with fs:=a.tmps.toList::B.fs,ro:=none,pin:=fun _=>X.kept }
    have hF:SimF E B' X st:=⟨hs.hs.base rfl rfl rfl,hs.h,.cons hs.t hs.fs,hs.glob,hs.ni,hs.y,fun p hp=>hp⟩
    obtain⟨g1,g2⟩:=qeY hm hE hS hL hb hx.1 (fun B _=>qf7 hm hE hS hL hb n B) (qbT hm hE hS hL hb (qf7 hm hE hS hL hb n)) (B:=B') rfl (qhT hni (fun h=>by cases h)) hF ha h1
    refine⟨q2n hx.1 hx.2 g1 _,g2.mono fun e w' ⟨v,X',e1,e2,e3,e4⟩=>⟨v,X',e1,e2,e3,?_⟩⟩
    have hpin:∀p,p∈X.kept→p∈X'.kept:=e4.pin
    have hfs:RepLL X' (r1.2.t::r1.2.fs) (a.tmps.toList::B.fs):=e4.fs
    obtain⟨Ds,d1,d2,d3⟩:=hs.df
    refine⟨e4.hs.base rfl rfl rfl,e4.h,?_,?_,e4.glob,⟨Ds,d1,d2,fun D hD=>⟨hpin _ (d3 D hD).1,(d3 D hD).2⟩⟩,hs.ni,e4.y,fun p hp=>hpin p (hs.pin p hp)⟩
    ·cases hfs with|cons k1 k2=>exact k1
    ·cases hfs with|cons k1 k2=>exact k2),
  (fun args st r X a vargs _ _ h=>by simp only[q7K] at h;cases h)⟩
theorem qt6{E:Env}{P:Program}(hm:P.follows .mixedOrders=true)(hE:E.tok P)(hS:E.specs P)(hL:E.loopsOK P)(hb:E.bodies P){f:FuncId}{fn:Func}(hf:P.funcs[f]?=some fn)
  {n:Nat} {B:Base} {X:Ctx} {args:List AV} {vargs:List Value} {r:AV×List Blk} (hs:HSim B X) (h0:B.imps.length≤E.nimp) (hgl:qbK E.glob X) (ha:RepL X args vargs)
  (h:(qwj E n f fn args X.h).run=some r) :
  Calls P f vargs.toArray X.w fun e w'=>∃v X',e=.returned v∧X'.w=w'∧Rep X' r.1 v∧X'.h=r.2∧HSim B X'∧X'.y=X.y:=by
 unfold qwj at h
 cases hni:q73 E.iter f with
 | false=>rw[hni] at h;cases h
 | true=>
 rw[hni] at h
 simp only at h
 obtain⟨r1,h1,h2⟩:=bind_some h
 simp only[Tree.run,Option.some.injEq] at h2
 subst h2
 let B0:Base:={ B with fs:=[[]],ro:=none,y:=X.y,pin:=fun _=>[] }
 have hF:SimF E B0 X { t:=[],fs:=[],h:=X.h,pend:=none }:=⟨hs.base rfl rfl rfl,rfl,.cons .nil .nil,hgl,h0,rfl,fun p hp=>by cases hp⟩
 obtain⟨_,g2⟩:=qeY hm hE hS hL hb hf (fun B _=>qf7 hm hE hS hL hb n B) (qbT hm hE hS hL hb (qf7 hm hE hS hL hb n)) (B:=B0) rfl (qhT hni (fun h=>by cases h)) hF ha h1
 refine g2.mono fun e w' ⟨v,X',e1,e2,e3,e4⟩=>⟨v,X',e1,e2,e3,e4.h,e4.hs.base rfl rfl rfl,e4.y⟩
end Go.Eng

namespace Go.Eng
inductive PK where
 | i|b|s|r
inductive PV where
 | i (n:Int)|b (x:Bool)|s (l:List UInt8)|r (l:R)
def PV.kind:PV→PK|.i _=>.i|.b _=>.b|.s _=>.s|.r _=>.r
def PV.toI:PV→Int|.i n=>n|_=>0
def PV.toB:PV→Bool|.b x=>x|_=>false
def PV.toS:PV→List UInt8|.s x=>x|_=>[]
def PV.toR:PV→R|.r x=>x|_=>[]
inductive AP where
 | any|yld
 | int (k:IntKind)|bool|str|blit (b:Bool)
 | nilp|ptr (b off:Nat)|eptr (sh:List Sh) (off:Nat)|mptr (sh:List Sh) (off:Nat)|vptr (b off:Nat)
 | nils|imm (sh:List Sh)|vec (b:Nat)
 | nilf|fn (f:FuncId) (first caps:List AP)
 | agg (l:List AP)|tuple (l:List AP)
def qz:Nat→List AP→List AP
 | 0,l=>l
 | n+1,l=>.any::qz n l
def qAH:Option (List PV)→Option (List PV)→Option (List PV)
 | some a,some b=>some (a++b)
 | _,_=>none
mutual
def AP.take:AP→AV→Option (List PV)
 | .any,_=>some []
 | .yld,.yld=>some []
 | .int k,.int k' n=>if k=k' then some [.i n] else none
 | .int k,.ilit k' n=>if k=k' then some [.i n] else none
 | .bool,.bool b=>some [.b b]
 | .bool,.blit b=>some [.b b]
 | .str,.str s=>some [.s s]
 | .blit b,.blit b'=>if b=b' then some [] else none
 | .nilp,.nilp=>some []
 | .ptr b off,.ptr b' off'=>if b=b'∧off=off' then some [] else none
 | .eptr sh off,.eptr sh' l i off'=>if Sh.beqL sh sh'=true∧off=off' then some [.r l,.i i] else none
 | .mptr _ _,.nilp=>some [.b false,.r [],.i 0]
 | .mptr sh off,.eptr sh' l i off'=>if Sh.beqL sh sh'=true∧off=off' then some [.b true,.r l,.i i] else none
 | .mptr sh off,.mptr c sh' l i off'=>if Sh.beqL sh sh'=true∧off=off' then some [.b c,.r l,.i i] else none
 | .vptr b off,.vptr b' i off'=>if b=b'∧off=off' then some [.i i] else none
 | .nils,.nils=>some []
 | .imm sh,.imm sh' l=>if Sh.beqL sh sh'=true then some [.r l] else none
 | .imm _,.nils=>some [.r []]
 | .vec b,.vec b'=>if b=b' then some [] else none
 | .nilf,.nilf=>some []
 | .fn f p q,.fn g a c=>if f=g then qAH (AP.takeL p a) (AP.takeL q c) else none
 | .agg l,.agg a=>AP.takeL l a
 | .tuple l,.tuple a=>AP.takeL l a
 | _,_=>none
def AP.takeL:List AP→List AV→Option (List PV)
 | [],[]=>some []
 | p::l,a::azz=>qAH (p.take a) (AP.takeL l azz)
 | _,_=>none
end
mutual
def AP.make:AP→List PV→AV×List PV
 | .any,ps=>(.undef,ps)
 | .yld,ps=>(.yld,ps)
 | .int k,.i n::ps=>(.int k n,ps)
 | .bool,.b x::ps=>(.bool x,ps)
 | .str,.s x::ps=>(.str x,ps)
 | .blit b,ps=>(.blit b,ps)
 | .nilp,ps=>(.nilp,ps)
 | .ptr b off,ps=>(.ptr b off,ps)
 | .eptr sh off,.r l::.i i::ps=>(.eptr sh l i off,ps)
 | .mptr sh off,.b c::.r l::.i i::ps=>(.mptr c sh l i off,ps)
 | .vptr b off,.i i::ps=>(.vptr b i off,ps)
 | .nils,ps=>(.nils,ps)
 | .imm sh,.r l::ps=>(.imm sh l,ps)
 | .vec b,ps=>(.vec b,ps)
 | .nilf,ps=>(.nilf,ps)
 | .fn f p q,ps=>let x:=AP.makeL p ps;let y:=AP.makeL q x.2;(.fn f x.1 y.1,y.2)
 | .agg l,ps=>let x:=AP.makeL l ps;(.agg x.1,x.2)
 | .tuple l,ps=>let x:=AP.makeL l ps;(.tuple x.1,x.2)
 | _,ps=>(.undef,ps)
def AP.makeL:List AP→List PV→List AV×List PV
 | [],ps=>([],ps)
 | p::l,ps=>let x:=p.make ps;let y:=AP.makeL l x.2;(x.1::y.1,y.2)
end
mutual
def AP.kinds:AP→List PK
 | .int _=>[.i]|.bool=>[.b]|.str=>[.s]
 | .eptr _ _=>[.r,.i]|.mptr _ _=>[.b,.r,.i]|.vptr _ _=>[.i]|.imm _=>[.r]
 | .fn _ p q=>AP.kindsL p++AP.kindsL q
 | .agg l=>AP.kindsL l
 | .tuple l=>AP.kindsL l
 | _=>[]
def AP.kindsL:List AP→List PK
 | []=>[]
 | p::l=>p.kinds++AP.kindsL l
end
theorem q3o{a b:Option (List PV)}{c:List PV}(h:qAH a b=some c):∃x y,a=some x∧b=some y∧c=x++y:=by
 cases a<;>cases b<;>simp[qAH] at h
 exact⟨_,_,rfl,rfl,h.symm⟩
mutual
theorem AP.take_ok{X:Ctx}:∀(p:AP) (a:AV) (ps rest:List PV),p.take a=some ps→(p.make (ps++rest)).2=rest∧ps.map PV.kind=p.kinds∧∀v,Rep X a v→Rep X (p.make (ps++rest)).1 v
 | .any,a,ps,rest,h=>by simp only[AP.take,Option.some.injEq] at h;subst h;exact⟨rfl,rfl,fun v _=>.undef v⟩
 | .yld,a,ps,rest,h=>by
  cases a<;>simp only[AP.take] at h<;>first|(cases h;done)|skip
  cases h;exact⟨rfl,rfl,fun v hv=>hv⟩
 | .int k,a,ps,rest,h=>by
  cases a<;>simp only[AP.take] at h<;>first|(cases h;done)|skip
  all_goals
   split at h
   ·rename_i hk;cases h;subst hk
    refine⟨rfl,rfl,fun v hv=>?_⟩
    cases hv
    exact .int _ _
   ·cases h
 | .bool,a,ps,rest,h=>by
  cases a<;>simp only[AP.take] at h<;>first|(cases h;done)|skip
  all_goals
   cases h
   refine⟨rfl,rfl,fun v hv=>?_⟩
   cases hv
   exact .bool _
 | .str,a,ps,rest,h=>by
  cases a<;>simp only[AP.take] at h<;>first|(cases h;done)|skip
  cases h
  exact⟨rfl,rfl,fun v hv=>hv⟩
 | .blit b,a,ps,rest,h=>by
  cases a<;>simp only[AP.take] at h<;>first|(cases h;done)|skip
  split at h
  ·rename_i hb;cases h;subst hb;exact⟨rfl,rfl,fun v hv=>hv⟩
  ·cases h
 | .nilp,a,ps,rest,h=>by
  cases a<;>simp only[AP.take] at h<;>first|(cases h;done)|skip
  cases h;exact⟨rfl,rfl,fun v hv=>hv⟩
 | .ptr b off,a,ps,rest,h=>by
  cases a<;>simp only[AP.take] at h<;>first|(cases h;done)|skip
  split at h
  ·rename_i hb;cases h;obtain⟨rfl,rfl⟩:=hb;exact⟨rfl,rfl,fun v hv=>hv⟩
  ·cases h
 | .eptr sh off,a,ps,rest,h=>by
  cases a<;>simp only[AP.take] at h<;>first|(cases h;done)|skip
  split at h
  ·rename_i hb;cases h;obtain⟨hb,rfl⟩:=hb;have:=Sh.beqL_eq _ _ hb;subst this;exact⟨rfl,rfl,fun v hv=>hv⟩
  ·cases h
 | .mptr sh off,a,ps,rest,h=>by
  cases a<;>simp only[AP.take] at h<;>first|(cases h;done)|skip
  ·cases h
   refine⟨rfl,rfl,fun v hv=>?_⟩
   cases hv
   exact .mnil _ _ _ _
  ·split at h
   ·rename_i hb;cases h;obtain⟨hb,rfl⟩:=hb;have:=Sh.beqL_eq _ _ hb;subst this
    refine⟨rfl,rfl,fun v hv=>?_⟩
    cases hv with
    | eptr _ _ _ _ a h1 h2 h3 h4=>exact .mptr _ _ _ _ a h1 h2 h3 h4
   ·cases h
  ·split at h
   ·rename_i hb;cases h;obtain⟨hb,rfl⟩:=hb;have:=Sh.beqL_eq _ _ hb;subst this;exact⟨rfl,rfl,fun v hv=>hv⟩
   ·cases h
 | .vptr b off,a,ps,rest,h=>by
  cases a<;>simp only[AP.take] at h<;>first|(cases h;done)|skip
  split at h
  ·rename_i hb;cases h;obtain⟨rfl,rfl⟩:=hb;exact⟨rfl,rfl,fun v hv=>hv⟩
  ·cases h
 | .nils,a,ps,rest,h=>by
  cases a<;>simp only[AP.take] at h<;>first|(cases h;done)|skip
  cases h;exact⟨rfl,rfl,fun v hv=>hv⟩
 | .imm sh,a,ps,rest,h=>by
  cases a<;>simp only[AP.take] at h<;>first|(cases h;done)|skip
  ·cases h
   refine⟨rfl,rfl,fun v hv=>?_⟩
   cases hv
   exact .imm _ _ _ (.inl ⟨rfl,rfl⟩)
  ·split at h
   ·rename_i hb;cases h;have:=Sh.beqL_eq _ _ hb;subst this;exact⟨rfl,rfl,fun v hv=>hv⟩
   ·cases h
 | .vec b,a,ps,rest,h=>by
  cases a<;>simp only[AP.take] at h<;>first|(cases h;done)|skip
  split at h
  ·rename_i hb;cases h;subst hb;exact⟨rfl,rfl,fun v hv=>hv⟩
  ·cases h
 | .nilf,a,ps,rest,h=>by
  cases a<;>simp only[AP.take] at h<;>first|(cases h;done)|skip
  cases h;exact⟨rfl,rfl,fun v hv=>hv⟩
 | .fn f p q,a,ps,rest,h=>by
  cases a<;>simp only[AP.take] at h<;>first|(cases h;done)|skip
  rename_i g a c
  split at h
  ·rename_i hf;subst hf
   obtain⟨x,y,h1,h2,rfl⟩:=q3o h
   obtain⟨a1,a2,a3⟩:=AP.takeL_ok (X:=X) p a x (y++rest) h1
   obtain⟨b1,b2,b3⟩:=AP.takeL_ok (X:=X) q c y rest h2
   simp only[AP.make,List.append_assoc,a1,b1,AP.kinds,List.map_append,a2,b2,true_and]
   intro v hv
   cases hv with
   | fn _ _ _ vf vc g1 g2=>exact .fn _ _ _ vf vc (a3 _ g1) (b3 _ g2)
  ·cases h
 | .agg l,a,ps,rest,h=>by
  cases a<;>simp only[AP.take] at h<;>first|(cases h;done)|skip
  obtain⟨a1,a2,a3⟩:=AP.takeL_ok (X:=X) l _ ps rest h
  simp only[AP.make,a1,AP.kinds,a2,true_and]
  intro v hv
  cases hv with
  | agg _ vs g=>exact .agg _ vs (a3 _ g)
 | .tuple l,a,ps,rest,h=>by
  cases a<;>simp only[AP.take] at h<;>first|(cases h;done)|skip
  obtain⟨a1,a2,a3⟩:=AP.takeL_ok (X:=X) l _ ps rest h
  simp only[AP.make,a1,AP.kinds,a2,true_and]
  intro v hv
  cases hv with
  | tuple _ vs g=>exact .tuple _ vs (a3 _ g)
theorem AP.takeL_ok{X:Ctx}:∀(p:List AP) (a:List AV) (ps rest:List PV),AP.takeL p a=some ps→(AP.makeL p (ps++rest)).2=rest∧ps.map PV.kind=AP.kindsL p∧∀v,RepL X a v→RepL X (AP.makeL p (ps++rest)).1 v
 | [],a,ps,rest,h=>by
  cases a<;>simp only[AP.takeL] at h<;>cases h
  exact⟨rfl,rfl,fun v hv=>hv⟩
 | p::l,a,ps,rest,h=>by
  cases a with
  | nil=>simp only[AP.takeL] at h;cases h
  | cons a azz=>
   simp only[AP.takeL] at h
   obtain⟨x,y,h1,h2,rfl⟩:=q3o h
   obtain⟨a1,a2,a3⟩:=AP.take_ok (X:=X) p a x (y++rest) h1
   obtain⟨b1,b2,b3⟩:=AP.takeL_ok (X:=X) l azz y rest h2
   simp only[AP.makeL,List.append_assoc,a1,b1,AP.kindsL,List.map_append,a2,b2,true_and]
   intro v hv
   cases hv with
   | cons g1 g2=>exact .cons (a3 _ g1) (b3 _ g2)
end
def AP.takeLL:List (List AP)→List (List AV)→Option (List PV)
 | [],[]=>some []
 | p::l,a::azz=>qAH (AP.takeL p a) (AP.takeLL l azz)
 | _,_=>none
def AP.makeLL:List (List AP)→List PV→List (List AV)×List PV
 | [],ps=>([],ps)
 | p::l,ps=>let x:=AP.makeL p ps;let y:=AP.makeLL l x.2;(x.1::y.1,y.2)
def AP.kindsLL:List (List AP)→List PK
 | []=>[]
 | p::l=>AP.kindsL p++AP.kindsLL l
theorem AP.takeLL_ok{X:Ctx}:∀(p:List (List AP)) (a:List (List AV)) (ps rest:List PV),AP.takeLL p a=some ps→(AP.makeLL p (ps++rest)).2=rest∧ps.map PV.kind=AP.kindsLL p∧∀v,RepLL X a v→RepLL X (AP.makeLL p (ps++rest)).1 v
 | [],a,ps,rest,h=>by
  cases a<;>simp only[AP.takeLL] at h<;>cases h
  exact⟨rfl,rfl,fun v hv=>hv⟩
 | p::l,a,ps,rest,h=>by
  cases a with
  | nil=>simp only[AP.takeLL] at h;cases h
  | cons a azz=>
   simp only[AP.takeLL] at h
   obtain⟨x,y,h1,h2,rfl⟩:=q3o h
   obtain⟨a1,a2,a3⟩:=AP.takeL_ok (X:=X) p a x (y++rest) h1
   obtain⟨b1,b2,b3⟩:=AP.takeLL_ok (X:=X) l azz y rest h2
   simp only[AP.makeLL,List.append_assoc,a1,b1,AP.kindsLL,List.map_append,a2,b2,true_and]
   intro v hv
   cases hv with
   | cons g1 g2=>exact .cons (a3 _ g1) (b3 _ g2)
inductive BP where
 | cells (l:List AP)|big (l:List AP) (k:IntKind) (n:Nat)|vec (e:TypeId) (sh:List Sh)|frz (e:TypeId) (sh:List Sh)|dead
def BP.take:BP→Blk→Option (List PV)
 | .cells l,.cells cs=>AP.takeL l cs
 | .big l k n,.big cs k' n' r=>if k=k'∧n=n' then qAH (AP.takeL l cs) (some [.r r]) else none
 | .vec e sh,.vec e' sh' l=>if e=e'∧Sh.beqL sh sh'=true then some [.r l] else none
 | .frz e sh,.frz e' sh' l=>if e=e'∧Sh.beqL sh sh'=true then some [.r l] else none
 | .dead,_=>some []
 | _,_=>none
def BP.make:BP→List PV→Blk×List PV
 | .cells l,ps=>let x:=AP.makeL l ps;(.cells x.1,x.2)
 | .big l k n,ps=>let x:=AP.makeL l ps;match x.2 with
  | .r r::qs=>(.big x.1 k n r,qs)
  | qs=>(.dead,qs)
 | .vec e sh,.r l::ps=>(.vec e sh l,ps)
 | .frz e sh,.r l::ps=>(.frz e sh l,ps)
 | _,ps=>(.dead,ps)
def BP.kinds:BP→List PK
 | .cells l=>AP.kindsL l
 | .big l _ _=>AP.kindsL l++[.r]
 | .vec _ _=>[.r]
 | .frz _ _=>[.r]
 | .dead=>[]
def BP.takeL:List BP→List Blk→Option (List PV)
 | [],[]=>some []
 | p::l,b::bs=>qAH (p.take b) (BP.takeL l bs)
 | _,_=>none
def BP.makeL:List BP→List PV→List Blk×List PV
 | [],ps=>([],ps)
 | p::l,ps=>let x:=p.make ps;let y:=BP.makeL l x.2;(x.1::y.1,y.2)
def BP.kindsL:List BP→List PK
 | []=>[]
 | p::l=>p.kinds++BP.kindsL l
def BP.isCells:BP→Bool
 | .cells _|.big _ _ _=>true
 | _=>false
theorem BP.take_ok{X:Ctx}(p:BP)(k:Blk)(ps rest:List PV)(h:p.take k=some ps):(p.make (ps++rest)).2=rest∧ps.map PV.kind=p.kinds∧Wk X k (p.make (ps++rest)).1 ∧
  (p.isCells=true→(p.make (ps++rest)).1.solid=true):=by
 cases p with
 | cells l=>
  cases k<;>simp only[BP.take] at h<;>first|(cases h;done)|skip
  obtain⟨a1,a2,a3⟩:=AP.takeL_ok (X:=X) l _ ps rest h
  simp only[BP.make,a1,BP.kinds,a2,true_and]
  exact⟨.inr (.inr (.inl ⟨_,_,rfl,rfl,a3⟩)),fun _=>rfl⟩
 | big l kk n=>
  cases k<;>simp only[BP.take] at h<;>first|(cases h;done)|skip
  split at h
  ·rename_i hb;obtain⟨rfl,rfl⟩:=hb
   obtain⟨x,y,h1,h2,rfl⟩:=q3o h
   cases h2
   rename_i cs r
   obtain⟨a1,a2,a3⟩:=AP.takeL_ok (X:=X) l _ x ([.r r]++rest) h1
   simp only[List.cons_append,List.nil_append] at a1 a3
   simp only[BP.make,List.append_assoc,a1,List.cons_append,List.nil_append,BP.kinds,List.map_append,a2,List.map_cons,List.map_nil,PV.kind,true_and]
   exact⟨.inr (.inr (.inr ⟨_,_,_,_,_,rfl,rfl,a3⟩)),fun _=>rfl⟩
  ·cases h
 | vec e sh=>
  cases k<;>simp only[BP.take] at h<;>first|(cases h;done)|skip
  split at h
  ·rename_i hb;cases h;obtain⟨rfl,hb⟩:=hb;have:=Sh.beqL_eq _ _ hb;subst this;exact⟨rfl,rfl,.inr (.inl rfl),fun h=>by cases h⟩
  ·cases h
 | frz e sh=>
  cases k<;>simp only[BP.take] at h<;>first|(cases h;done)|skip
  split at h
  ·rename_i hb;cases h;obtain⟨rfl,hb⟩:=hb;have:=Sh.beqL_eq _ _ hb;subst this;exact⟨rfl,rfl,.inr (.inl rfl),fun h=>by cases h⟩
  ·cases h
 | dead=>
  have:ps=[]:=by cases k<;>simp[BP.take] at h<;>exact h
  subst this
  exact⟨rfl,rfl,.inl rfl,fun h=>by cases h⟩
theorem BP.takeL_ok{X:Ctx}:∀(p:List BP) (k:List Blk) (ps rest:List PV),BP.takeL p k=some ps→(BP.makeL p (ps++rest)).2=rest∧ps.map PV.kind=BP.kindsL p ∧
  (BP.makeL p (ps++rest)).1.length=k.length∧p.length=k.length∧∀(b:Nat) (k':Blk),(BP.makeL p (ps++rest)).1[b]?=some k'→∃k0,k[b]?=some k0∧Wk X k0 k'∧∀q:BP,p[b]?=some q→q.isCells=true→k'.solid=true
 | [],k,ps,rest,h=>by
  cases k<;>simp only[BP.takeL] at h<;>cases h
  exact⟨rfl,rfl,rfl,rfl,fun b k' hb=>by simp[BP.makeL] at hb⟩
 | p::l,k,ps,rest,h=>by
  cases k with
  | nil=>simp only[BP.takeL] at h;cases h
  | cons k ks=>
   simp only[BP.takeL] at h
   obtain⟨x,y,h1,h2,rfl⟩:=q3o h
   obtain⟨a1,a2,a3,a4⟩:=BP.take_ok (X:=X) p k x (y++rest) h1
   obtain⟨b1,b2,b3,b4,b5⟩:=BP.takeL_ok (X:=X) l ks y rest h2
   simp only[BP.makeL,List.append_assoc,a1,b1,BP.kindsL,List.map_append,a2,b2,List.length_cons,b3,b4,true_and]
   intro b k' hb
   cases b with
   | zero=>
    simp only[List.getElem?_cons_zero,Option.some.injEq] at hb
    subst hb
    exact⟨k,rfl,a3,fun q hq hc=>by simp only[List.getElem?_cons_zero,Option.some.injEq] at hq;subst hq;exact a4 hc⟩
   | succ b=>
    simp only[List.getElem?_cons_succ] at hb ⊢
    exact b5 b k' hb
def quC(n:Nat):Nat→Option Nat:=fun b=>if Nat.blt b n then some b else none
theorem qz7{n b b':Nat}(h:quC n b=some b'):b'=b∧b<n:=by
 unfold quC at h
 split at h
 ·rename_i hb;cases h;exact⟨rfl,by simpa[Nat.blt_eq] using hb⟩
 ·cases h
def Ctx.cut(X:Ctx)(n:Nat):Ctx:={ X with h:=(X.h.take n).map (Blk.ren (quC n)) }
theorem Ctx.cut_get{X:Ctx}{n b:Nat}{k:Blk}(h:(X.cut n).h[b]?=some k):b<n∧∃k0,X.h[b]?=some k0∧k=k0.ren (quC n):=by
 have h':((X.h.take n).map (Blk.ren (quC n)))[b]?=some k:=h
 rw[List.getElem?_map,List.getElem?_take] at h'
 split at h'
 ·rename_i hb
  refine⟨hb,?_⟩
  cases hk:X.h[b]? with
  | none=>rw[hk] at h';cases h'
  | some k0=>rw[hk] at h';exact⟨k0,rfl,(Option.some.inj h').symm⟩
 ·cases h'
theorem qwP{B:Base}{X:Ctx}(hs:HSim B X){n:Nat}(hn:B.imps.length≤n):HSim B (X.cut n)∧Move X (X.cut n) (quC n):=by
 have hvec:∀b sh m,(X.cut n).isVec b sh m→X.isVec b sh m:=by
  intro b sh m ⟨e,l,h1,h2⟩
  refine⟨e,l,?_,h2⟩
  rcases h1 with h1|h1
  ·obtain⟨_,k0,h3,h4⟩:=Ctx.cut_get h1
   cases k0<;>simp[Blk.ren] at h4
   obtain⟨rfl,rfl,rfl⟩:=h4;exact .inl h3
  ·obtain⟨_,k0,h3,h4⟩:=Ctx.cut_get h1
   cases k0<;>simp[Blk.ren] at h4
   obtain⟨rfl,rfl,rfl⟩:=h4;exact .inr h3
 have hm:Move X (X.cut n) (quC n):=by
  refine Move.of (fun _ h=>h) (fun _ _=>rfl) (fun b b' hb hf=>?_)
  obtain⟨rfl,hlt⟩:=qz7 hf
  exact⟨by simp[Ctx.cut];omega,rfl,hvec b',fun sh m _ k hk c T fr hc=>⟨c,T,fr,hc,rfl⟩⟩
 have hown:∀b m,(X.cut n).own b m→X.own b m:=by
  intro b m ⟨h1,k,h2,h3⟩
  obtain⟨_,k0,h4,h5⟩:=Ctx.cut_get h2
  exact⟨h1,k0,h4,by rw[h5,Blk.mut_ren] at h3;exact h3⟩
 refine⟨⟨?_,fun b b' m h h'=>hs.inj b b' m (hown _ _ h) (hown _ _ h'),fun b m h=>hs.notM b m (hown _ _ h),hs.ltM,hs.M0,hs.newM,hs.os,hs.tape,hs.output,hs.size,hs.frame,hs.imps,?_,fun b m h=>hs.fresh b m (hown _ _ h),hs.kept⟩,hm⟩
 ·intro b k hk
  obtain⟨_,k0,h1,h2⟩:=Ctx.cut_get hk
  rw[h2]
  exact yt.move hm.toMove0 rfl (fun _ _=>rfl) (hs.blk b k0 h1)
 ·intro b hb
  obtain⟨cs,h1,h2⟩:=hs.impc b hb
  refine⟨cs.ren (quC n),?_,by rw[Blk.solid_ren];exact h2⟩
  show ((X.h.take n).map (Blk.ren (quC n)))[b]?=_
  rw[List.getElem?_map,List.getElem?_take,if_pos (by omega),h1]
  rfl
end Go.Eng

namespace Go.Eng
def Ex.beq:Ex→Ex→Bool
 | .normal,.normal=>true
 | .ret,.ret=>true
 | .exit i,.exit j=>Nat.beq i j
 | _,_=>false
theorem Ex.beq_eq{x y:Ex}(h:x.beq y=true):x=y:=by
 cases x<;>cases y<;>simp[Ex.beq] at h ⊢
 exact h
def peq:Option Ex→Option Ex→Bool
 | none,none=>true
 | some x,some y=>x.beq y
 | _,_=>false
theorem qDY{x y:Option Ex}(h:peq x y=true):x=y:=by
 cases x<;>cases y<;>simp[peq] at h ⊢
 exact Ex.beq_eq h
structure Tmpl where
 t:List AP
 h:List BP
 pro:List (Nat×TypeId×List Sh):=[]
 fs:List (List AP):=[[]]
 pend:Option Ex:=none
 sw:List (Nat×Nat):=[]
 swn:Nat:=0
 prc:List (Nat×Nat×TypeId×List Sh):=[]
def qyk:List (Nat×TypeId×List Sh)→St→St
 | [],st=>st
 | (i,e,sh)::l,st=>match st.t[i]? with
  | some .nils=>qyk l { st with t:=st.t.set i (.vec st.h.length),h:=st.h++[.vec e sh []] }
  | _=>qyk l st
def qlC:List (Nat×Nat×TypeId×List Sh)→St→St
 | [],st=>st
 | (i,off,e,sh)::l,st=>match st.t[i]? with
  | some (.ptr b _)=>(match st.h[b]? with
   | some (.cells cs)=>(match cs[off]? with
    | some .nils=>qlC l { st with h:=(st.h++[Blk.vec e sh []]).set b (.cells (cs.set off (.vec st.h.length))) }
    | _=>qlC l st)
   | _=>qlC l st)
  | _=>qlC l st
def qaI(n:Nat)(h:List BP):Bool:=Nat.ble n h.length&&(h.take n).all BP.isCells
def swp(b c x:Nat):Nat:=if Nat.beq x b then c else if Nat.beq x c then b else x
def swB(b c:Nat):Nat→Option Nat:=fun x=>some (swp b c x)
def quJ(b c:Nat)(h:List Blk):List Blk:=(h.set b (h.getD c .dead)).set c (h.getD b .dead)
def St.swap(b c:Nat)(st:St):St:={ t:=AV.renL (swB b c) st.t,fs:=st.fs.map (AV.renL (swB b c)),h:=(quJ b c st.h).map (Blk.ren (swB b c)),pend:=st.pend }
def qDl:AV→Option Nat
 | .ptr b _=>some b
 | .vec b=>some b
 | _=>none
def qEy(st:St)(i:Nat):Option Nat:=match Nat.blt i 1000000 with
 | true=>(st.t[i]?).bind qDl
 | false=>match st.t[i%1000000]? with
  | some (.ptr b _)=>(match st.h[b]? with
   | some (.cells cs)=>(cs[i/1000000-1]?).bind qDl
   | _=>none)
  | _=>none
def qna(n:Nat):List (Nat×Nat)→St→St
 | [],st=>st
 | (i,b)::l,st=>match qEy st i with
  | some c=>(match Nat.ble n b&&Nat.ble n c&&Nat.blt b st.h.length&&Nat.blt c st.h.length&&!(Nat.beq b c) with
   | true=>qna n l (st.swap b c)
   | false=>qna n l st)
  | none=>qna n l st
def Tmpl.take1(tm:Tmpl)(st:St):Option (List PV):=match peq tm.pend st.pend with
 | true=>qAH (AP.takeL tm.t (AV.renL (quC tm.h.length) st.t)) (qAH (AP.takeLL tm.fs (st.fs.map (AV.renL (quC tm.h.length)))) (BP.takeL tm.h ((st.h.take tm.h.length).map (Blk.ren (quC tm.h.length)))))
 | false=>none
def Tmpl.take(tm:Tmpl)(st:St):Option (List PV):=tm.take1 (qna tm.swn tm.sw (qlC tm.prc (qyk tm.pro st)))
def Tmpl.ok(n:Nat)(tm:Tmpl):Bool:=qaI n tm.h&&(tm.sw.isEmpty||Nat.ble n tm.swn)
def Tmpl.make(tm:Tmpl)(ps:List PV):St:=let x:=AP.makeL tm.t ps;let y:=AP.makeLL tm.fs x.2;{ t:=x.1,fs:=y.1,h:=(BP.makeL tm.h y.2).1,pend:=tm.pend }
def Tmpl.kinds(tm:Tmpl):List PK:=AP.kindsL tm.t++(AP.kindsLL tm.fs++BP.kindsL tm.h)
theorem qop{n:Nat}{h:List BP}(hc:qaI n h=true):n≤h.length∧∀b,b<n→∃q,h[b]?=some q∧q.isCells=true:=by
 simp only[qaI,Bool.and_eq_true,Nat.ble_eq,List.all_eq_true] at hc
 refine⟨hc.1,fun b hb=>?_⟩
 have hlt:b<h.length:=by omega
 refine⟨h[b],List.getElem?_eq_getElem hlt,hc.2 _ ?_⟩
 rw[List.mem_take_iff_getElem]
 exact⟨b,by omega,rfl⟩
theorem qnl{E:Env}{X X':Ctx}(hM:∀n,X.M n→X'.M n)(hw:X'.w=X.w)(hy:X'.y=X.y)
  (h:∀x,x∈E.glob→(∃sh l i off,x.2=.eptr sh l i off)∧qBi X x) :
  ∀x,x∈E.glob→(∃sh l i off,x.2=.eptr sh l i off)∧qBi X' x:=by
 intro x hx
 obtain⟨⟨sh,l,i,off,he⟩,hr⟩:=h x hx
 refine⟨⟨sh,l,i,off,he⟩,hr.move hM (fun _ _=>by rw[hw]) ?_⟩
 have hr:=hr.1
 rw[he] at hr ⊢
 exact hr.noMen rfl hM (fun _ _=>by rw[hw]) hy
theorem qkr{E:Env}{B:Base}{a:Act}:∀(l:List (Nat×TypeId×List Sh)) {X:Ctx} {st:St},Sim E B X st a→∃X',X'.w=X.w∧Sim E B X' (qyk l st) a
 | [],X,st,hs=>⟨X,rfl,hs⟩
 | (i,e,sh)::l,X,st,hs=>by
  simp only[qyk]
  split
  ·rename_i hi
   have hw:=PushW.same X
   have hk:yt (X.pushW (.vec e sh []) none X.w) X.h.length (.vec e sh []):=.inl ⟨by simp[Ctx.pushW],rfl⟩
   have hs1:=HSim.push hs.hs hw hk
   have hx:=Ctx.push_ext hs.hs (.vec e sh []) hw
   have hsim:=hs.ext hx hs1
   obtain⟨v,g1,g2⟩:=hs.t.get i _ hi
   have hv:v=.slice none 0 0:=by cases g2;rfl
   subst hv
   have hrep:Rep (X.pushW (.vec e sh []) none X.w) (.vec st.h.length) (.slice none 0 0):=by
    rw[←hs.h]
    refine .vec _ _ _ _ (by simp[Ctx.pushW]) fun sh' m hv=>?_
    unfold qv8
    simp[Ctx.pushW]
   have hset:=RepL.set hrep hsim.t i
   have he:a.tmps.toList.set i (.slice none 0 0)=a.tmps.toList:=by
    apply List.ext_getElem?
    intro j
    by_cases hj:j=i
    ·subst hj;rw[List.getElem?_set_self (qu g1),g1]
    ·rw[List.getElem?_set_ne (Ne.symm hj)]
   rw[he] at hset
   obtain⟨X2,q1,q2⟩:=qkr l (X:=X.pushW (.vec e sh []) none X.w) (st:={ st with t:=st.t.set i (.vec st.h.length),h:=st.h++[.vec e sh []] })
    ⟨hs1,by simp[Ctx.pushW,hs.h],hset,hsim.fs,hsim.glob,hsim.df,hsim.ni,hsim.y,hsim.pin⟩
   exact⟨X2,q1,q2⟩
  ·exact qkr l hs
theorem q9T{E:Env}{B:Base}{a:Act}:∀(l:List (Nat×Nat×TypeId×List Sh)) {X:Ctx} {st:St},Sim E B X st a→∃X',X'.w=X.w∧Sim E B X' (qlC l st) a
 | [],X,st,hs=>⟨X,rfl,hs⟩
 | (i,off,e,sh)::l,X,st,hs=>by
  simp only[qlC]
  split
  ·rename_i b o hi
   split
   ·rename_i cs hb
    split
    ·rename_i hc
     have hw:=PushW.same X
     have hk:yt (X.pushW (.vec e sh []) none X.w) X.h.length (.vec e sh []):=.inl ⟨by simp[Ctx.pushW],rfl⟩
     have hs1:=HSim.push hs.hs hw hk
     have hx:=Ctx.push_ext hs.hs (.vec e sh []) hw
     have hsim:=hs.ext hx hs1
     have hbX:X.h[b]?=some (.cells cs):=by rw[hs.h];exact hb
     have hbl:=qu hbX
     obtain⟨n,c,T,g1,g2,g3⟩:=hs.hs.blk b _ hbX
     have hb1:(X.pushW (.vec e sh []) none X.w).h[b]?=some (.cells cs):=by
      show (X.h++[Blk.vec e sh []])[b]?=_
      rw[List.getElem?_append_left hbl];exact hbX
     have g1':(X.pushW (.vec e sh []) none X.w).σ b=some n:=by
      show (if b=X.h.length then none else X.σ b)=_
      rw[if_neg (by omega)];exact g1
     have g3':=g3.ext hx
     have hrep:Rep (X.pushW (.vec e sh []) none X.w) (.vec st.h.length) (.slice none 0 0):=by
      rw[←hs.h]
      refine .vec _ _ _ _ (by simp[Ctx.pushW]) fun sh' m hv=>?_
      unfold qv8
      simp[Ctx.pushW]
     obtain⟨v,k1,k2⟩:=g3'.get off _ hc
     have hv:v=.slice none 0 0:=by cases k2;rfl
     subst hv
     have hset:=RepL.set hrep g3' off
     have he:c.toList.set off (.slice none 0 0)=c.toList:=by
      apply List.ext_getElem?
      intro j
      by_cases hj:j=off
      ·subst hj;rw[List.getElem?_set_self (qu k1),k1]
      ·rw[List.getElem?_set_ne (Ne.symm hj)]
     rw[he] at hset
     have hup:UpdW (X.pushW (.vec e sh []) none X.w) n c c T X.w:=⟨g2,g2,rfl,fun _ _=>rfl,rfl,rfl,rfl,rfl⟩
     have hown:(X.pushW (.vec e sh []) none X.w).own b n:=⟨g1',_,hb1,rfl⟩
     have hx2:=Ctx.upd_ext (k':=.cells (cs.set off (.vec st.h.length))) hs1 hb1 hown hup trivial
     have hs2:=hs1.upd (k':=.cells (cs.set off (.vec st.h.length))) hb1 hown hup trivial ⟨n,c,T,g1',g2,hset.ext hx2⟩
     have hsim2:=hsim.ext hx2 hs2
     have hh:((X.pushW (.vec e sh []) none X.w).upd b (.cells (cs.set off (.vec st.h.length))) X.w).h=(st.h++[Blk.vec e sh []]).set b (.cells (cs.set off (.vec st.h.length))):=by
      show (X.h++[Blk.vec e sh []]).set b _=_
      rw[hs.h]
     obtain⟨X3,q1,q2⟩:=q9T l hsim2
     refine⟨X3,q1,?_⟩
     rw[hh] at q2
     exact q2
    ·exact q9T l hs
   ·exact q9T l hs
  ·exact q9T l hs
theorem qo4(b c x:Nat):swp b c (swp b c x)=x:=by
 unfold swp
 simp only[Nat.beq_eq]
 by_cases h1:x=b
 ·subst h1
  by_cases h2:c=x
  ·simp[h2]
  ·simp[h2]
 ·by_cases h2:x=c
  ·subst h2;simp[h1]
  ·simp[h1,h2]
theorem qDx{b c x n:Nat}(hb:n≤b)(hc:n≤c):n≤swp b c x↔n≤x:=by
 unfold swp
 simp only[Nat.beq_eq]
 split
 ·rename_i h;subst h;exact⟨fun _=>hb,fun _=>hc⟩
 ·split
  ·rename_i h;subst h;exact⟨fun _=>hc,fun _=>hb⟩
  ·exact Iff.rfl
theorem qDA{b c x n:Nat}(hb:b<n)(hc:c<n):swp b c x<n↔x<n:=by
 unfold swp
 simp only[Nat.beq_eq]
 split
 ·rename_i h;subst h;exact⟨fun _=>hb,fun _=>hc⟩
 ·split
  ·rename_i h;subst h;exact⟨fun _=>hc,fun _=>hb⟩
  ·exact Iff.rfl
theorem qC2{b c x n:Nat}(hb:n≤b)(hc:n≤c)(hx:x<n):swp b c x=x:=by
 unfold swp
 simp only[Nat.beq_eq]
 rw[if_neg (by omega),if_neg (by omega)]
theorem qzj{b c:Nat}{h:List Blk}(hb:b<h.length)(hc:c<h.length)(hbc:b≠c)(i:Nat):(quJ b c h)[i]?=h[swp b c i]?:=by
 have e1:h.getD c .dead=h[c]:=by simp[List.getD_eq_getElem?_getD,hc]
 have e2:h.getD b .dead=h[b]:=by simp[List.getD_eq_getElem?_getD,hb]
 unfold quJ swp
 simp only[Nat.beq_eq]
 rw[e1,e2]
 by_cases h1:i=b
 ·subst h1
  rw[if_pos rfl,List.getElem?_set_ne (Ne.symm hbc),List.getElem?_set_self hb,List.getElem?_eq_getElem hc]
 ·by_cases h2:i=c
  ·subst h2
   rw[if_neg h1,if_pos rfl,List.getElem?_set_self (by simpa using hc),List.getElem?_eq_getElem hb]
  ·rw[if_neg h1,if_neg h2,List.getElem?_set_ne (Ne.symm h2),List.getElem?_set_ne (Ne.symm h1)]
def Ctx.swap(X:Ctx)(b c:Nat):Ctx:={ X with σ:=fun x=>X.σ (swp b c x),h:=(quJ b c X.h).map (Blk.ren (swB b c)) }
theorem qyv{B:Base}{X:Ctx}(hs:HSim B X){b c:Nat}(hb:B.imps.length≤b)(hc:B.imps.length≤c)(hbl:b<X.h.length)(hcl:c<X.h.length)(hbc:b≠c) :
  HSim B (X.swap b c)∧Move X (X.swap b c) (swB b c):=by
 have hget:∀i,(X.swap b c).h[i]?=(X.h[swp b c i]?).map (Blk.ren (swB b c)):=fun i=>by
  show ((quJ b c X.h).map _)[i]?=_
  rw[List.getElem?_map,qzj hbl hcl hbc]
 have hget':∀i k,(X.swap b c).h[i]?=some k→∃k0,X.h[swp b c i]?=some k0∧k=k0.ren (swB b c):=by
  intro i k h
  rw[hget] at h
  cases hk:X.h[swp b c i]? with
  | none=>rw[hk] at h;cases h
  | some k0=>rw[hk] at h;exact⟨k0,rfl,(Option.some.inj h).symm⟩
 have hσ:∀i,(X.swap b c).σ i=X.σ (swp b c i):=fun _=>rfl
 have hm:Move X (X.swap b c) (swB b c):=by
  refine Move.of (fun _ h=>h) (fun _ _=>rfl) (fun b1 b2 hb1 hf=>?_)
  have hf':b2=swp b c b1:=(Option.some.inj hf).symm
  subst hf'
  refine⟨?_,by rw[hσ,qo4],fun sh m ⟨e,l,h1,h2⟩=>⟨e,l,?_,h2⟩,fun sh m _ n hn c T fr hc=>⟨c,T,fr,hc,rfl⟩⟩
  ·show _<((quJ b c X.h).map _).length
   simp only[quJ,List.length_map,List.length_set]
   exact(qDA hbl hcl).2 hb1
  ·rcases h1 with h1|h1
   ·obtain⟨k0,h3,h4⟩:=hget' _ _ h1
    rw[qo4] at h3
    rcases ql4 (.inl h4) with rfl|rfl
    ·exact .inl h3
    ·exact .inr h3
   ·obtain⟨k0,h3,h4⟩:=hget' _ _ h1
    rw[qo4] at h3
    rcases ql4 (.inr h4) with rfl|rfl
    ·exact .inl h3
    ·exact .inr h3
 have hown:∀i n,(X.swap b c).own i n→X.own (swp b c i) n:=by
  intro i n ⟨h1,k,h2,h3⟩
  obtain⟨k0,h4,h5⟩:=hget' i k h2
  exact⟨h1,k0,h4,by rw[h5,Blk.mut_ren] at h3;exact h3⟩
 refine⟨⟨?_,?_,fun i n h=>hs.notM _ n (hown _ _ h),hs.ltM,hs.M0,hs.newM,hs.os,hs.tape,hs.output,hs.size,hs.frame,?_,?_,?_,hs.kept⟩,hm⟩
 ·intro i k hk
  obtain⟨k0,h1,h2⟩:=hget' i k hk
  rw[h2]
  exact yt.move hm.toMove0 (hσ i) (fun _ _=>rfl) (hs.blk _ k0 h1)
 ·intro i j n h1 h2
  have:=hs.inj _ _ n (hown _ _ h1) (hown _ _ h2)
  rw[←qo4 b c i,this,qo4]
 ·intro i hi
  rw[hσ,qC2 hb hc hi];exact hs.imps i hi
 ·intro i hi
  obtain⟨k,h1,h2⟩:=hs.impc i hi
  exact⟨k.ren (swB b c),by rw[hget,qC2 hb hc hi,h1];rfl,by rw[Blk.solid_ren];exact h2⟩
 ·intro i n h1 h2
  exact hs.fresh _ n (hown _ _ h1) ((qDx hb hc).2 h2)
theorem qdf{E:Env}{B:Base}{a:Act}{n:Nat}(hn:B.imps.length≤n):∀(l:List (Nat×Nat)) {X:Ctx} {st:St},Sim E B X st a→∃X',X'.w=X.w∧Sim E B X' (qna n l st) a
 | [],X,st,hs=>⟨X,rfl,hs⟩
 | (i,b)::l,X,st,hs=>by
  simp only[qna]
  split
  ·rename_i c hc
   split
   ·rename_i hcond
    simp only[Bool.and_eq_true,Nat.ble_eq,Nat.blt_eq,Bool.not_eq_true'] at hcond
    obtain⟨⟨⟨⟨c1,c2⟩,c3⟩,c4⟩,c5⟩:=hcond
    have hne:b≠c:=fun e=>by subst e;simp at c5
    obtain⟨g1,g2⟩:=qyv hs.hs (b:=b) (c:=c) (by omega) (by omega) (by rw[hs.h];exact c3) (by rw[hs.h];exact c4) hne
    obtain⟨X2,q1,q2⟩:=qdf hn l (X:=X.swap b c) (st:=st.swap b c) ⟨g1,by simp[Ctx.swap,St.swap,hs.h],hs.t.ren g2.toMove0,hs.fs.ren g2.toMove0,qnl (X:=X) (fun _ h=>h) rfl rfl hs.glob,hs.df,hs.ni,hs.y,hs.pin⟩
    exact⟨X2,q1,q2⟩
   ·exact qdf hn l hs
  ·exact qdf hn l hs
theorem Tmpl.weaken1{tm:Tmpl}{E:Env}{B:Base}{X:Ctx}{st:St}{a:Act}{ps:List PV}(hk:qaI E.nimp tm.h=true)(h:tm.take1 st=some ps)(hs:Sim E B X st a) :
  ps.map PV.kind=tm.kinds∧∃X',X'.w=X.w∧Sim E B X' (tm.make ps) a:=by
 unfold Tmpl.take1 at h
 split at h
 ·rename_i hpe
  have hpe':=qDY hpe
  obtain⟨x,yz,h1,h0,rfl⟩:=q3o h
  obtain⟨y,z,h2,h3,rfl⟩:=q3o h0
  obtain⟨hc1,hc2⟩:=qop hk
  obtain⟨c1,c2⟩:=qwP hs.hs (n:=tm.h.length) (Nat.le_trans hs.ni hc1)
  obtain⟨a1,a2,a3⟩:=AP.takeL_ok (X:=X.cut tm.h.length) _ _ x (y++z) h1
  obtain⟨d1,d2,d3⟩:=AP.takeLL_ok (X:=X.cut tm.h.length) _ _ y z h2
  obtain⟨b1,b2,b3,b4,b5⟩:=BP.takeL_ok (X:=X.cut tm.h.length) _ _ z [] h3
  have hch:(X.cut tm.h.length).h=(st.h.take tm.h.length).map (Blk.ren (quC tm.h.length)):=by rw[←hs.h];rfl
  rw[←hch] at b3 b5
  rw[List.append_nil] at b3 b5
  obtain⟨e1,e2⟩:=qc0 c1 (h':=(BP.makeL tm.h z).1) b3 (fun b k' hb=>by obtain⟨k0,e1,e2,_⟩:=b5 b k' hb;exact⟨k0,e1,e2⟩)
   (fun b hb k' hk'=>by
    obtain⟨q,q1,q2⟩:=hc2 b (by have:=hs.ni;omega)
    obtain⟨k0,_,_,e3⟩:=b5 b k' hk'
    exact e3 q q1 q2)
  refine⟨by simp[Tmpl.kinds,a2,d2,b2],{ X.cut tm.h.length with h:=(BP.makeL tm.h z).1 },rfl,⟨e1,?_,?_,?_,?_,?_,hs.ni,hs.y,?_⟩⟩
  ·simp only[Tmpl.make,a1,d1]
  ·simp only[Tmpl.make]
   exact(a3 _ (hs.t.ren c2.toMove0)).ext e2
  ·simp only[Tmpl.make,a1]
   exact(d3 _ (hs.fs.ren c2.toMove0)).ext e2
  ·exact qnl (X:=X) (fun _ h=>h) rfl rfl hs.glob
  ·show qvk X.kept (B.pin tm.pend) a.defers
   rw[hpe'];exact hs.df
  ·show ∀p,p∈B.pin tm.pend→p∈X.kept
   rw[hpe'];exact hs.pin
 ·cases h
theorem Tmpl.weaken{tm:Tmpl}{E:Env}{B:Base}{X:Ctx}{st:St}{a:Act}{ps:List PV}(hk:tm.ok E.nimp=true)(h:tm.take st=some ps)(hs:Sim E B X st a) :
  ps.map PV.kind=tm.kinds∧∃X',X'.w=X.w∧Sim E B X' (tm.make ps) a:=by
 unfold Tmpl.ok at hk
 simp only[Bool.and_eq_true,Bool.or_eq_true,List.isEmpty_iff,Nat.ble_eq] at hk
 obtain⟨X0,h0,h2'⟩:=qkr tm.pro hs
 obtain⟨X1,h1',h2⟩:=q9T tm.prc h2'
 have h1:=h1'.trans h0
 have:∃X',X'.w=X1.w∧Sim E B X' (qna tm.swn tm.sw (qlC tm.prc (qyk tm.pro st))) a:=by
  rcases hk.2 with h0|h0
  ·rw[h0];exact⟨X1,rfl,h2⟩
  ·exact qdf (Nat.le_trans hs.ni h0) tm.sw h2
 obtain⟨X1',h1',h2'⟩:=this
 obtain⟨g1,X2,g2,g3⟩:=Tmpl.weaken1 hk.1 h h2'
 exact⟨g1,X2,(g2.trans h1').trans h1,g3⟩
structure Out where
 x:Ex
 tm:Tmpl
abbrev TR:=Tree (Nat×List PV)
def qDg:List Out→Nat→Ex×St→TR
 | [],_,_=>.fail
 | o::l,j,r=>match Ex.beq o.x r.1,o.tm.take r.2 with
  | true,some ps=>.leaf (j,ps)
  | _,_=>qDg l (j+1) r
def okR(R:TR):Bool:=R.run.isSome
def jR(R:TR):Nat:=match R.run with|some r=>r.1|none=>0
def pR(R:TR)(i:Nat):PV:=match R.run with|some r=>r.2.getD i (.i 0)|none=>.i 0
def gI(R:TR)(i:Nat):Int:=(pR R i).toI
def gB(R:TR)(i:Nat):Bool:=(pR R i).toB
def gS(R:TR)(i:Nat):List UInt8:=(pR R i).toS
def gR(R:TR)(i:Nat):Go.Eng.R:=(pR R i).toR
def jIs(R:TR)(j:Nat):Bool:=Nat.beq (jR R) j
def qmm(R:TR):List PK→Nat→List PV
 | [],_=>[]
 | .i::l,n=>.i (gI R n)::qmm R l (n+1)
 | .b::l,n=>.b (gB R n)::qmm R l (n+1)
 | .s::l,n=>.s (gS R n)::qmm R l (n+1)
 | .r::l,n=>.r (gR R n)::qmm R l (n+1)
theorem qje{R:TR}{j:Nat}{ps:List PV}(hR:R.run=some (j,ps)):∀(ks:List PK) (n:Nat),(ps.drop n).map PV.kind=ks→qmm R ks n=ps.drop n
 | [],n,h=>by simp at h;simp[qmm];exact h
 | k::ks,n,h=>by
  cases hd:ps.drop n with
  | nil=>rw[hd] at h;cases h
  | cons v rest=>
   rw[hd] at h
   simp only[List.map_cons,List.cons.injEq] at h
   have hn:ps[n]?=some v:=by
    have:(ps.drop n)[0]?=some v:=by rw[hd];rfl
    rwa [List.getElem?_drop,Nat.add_zero] at this
   have hr:ps.drop (n+1)=rest:=by rw[←List.drop_drop,hd];rfl
   have ih:=qje hR ks (n+1) (by rw[hr];exact h.2)
   have hp:pR R n=v:=by simp[pR,hR,List.getD_eq_getElem?_getD,hn]
   rw[hr] at ih
   cases v<;>simp only[PV.kind] at h<;>obtain⟨rfl,_⟩:=h<;>simp only[qmm,ih,gI,gB,gS,gR,hp,PV.toI,PV.toB,PV.toS,PV.toR]
def qDP(R:TR):List Out→Nat→Tree (Ex×St)
 | [],_=>.fail
 | o::l,j=>match l with
  | []=>.leaf (o.x,o.tm.make (qmm R o.tm.kinds 0))
  | _::_=>.br (jIs R j) (.leaf (o.x,o.tm.make (qmm R o.tm.kinds 0))) (qDP R l (j+1))
theorem qwi{R:TR}{j:Nat}{ps:List PV}(hR:R.run=some (j,ps)):∀(outs:List Out) (k:Nat) (o:Out) (r:Ex×St),k≤j→outs[j-k]?=some o→ps.map PV.kind=o.tm.kinds →
  (qDP R outs k).run=some r→r=(o.x,o.tm.make ps)
 | [],k,o,r,_,h,_,_=>by simp at h
 | o'::l,k,o,r,hk,h,hp,hr=>by
  have hj:jR R=j:=by simp[jR,hR]
  simp only[qDP] at hr
  cases l with
  | nil=>
   have:j-k=0:=by
    rcases Nat.eq_zero_or_pos (j-k) with h0|h0
    ·exact h0
    ·rw[List.getElem?_eq_none (by simp;omega)] at h;cases h
   rw[this] at h
   simp only[List.getElem?_cons_zero,Option.some.injEq] at h
   subst h
   simp only[Tree.run,Option.some.injEq] at hr
   rw[←hr,qje hR _ 0 (by simpa using hp)];rfl
  | cons o2 l=>
   simp only[Tree.run] at hr
   by_cases hjk:j=k
   ·have hb:jIs R k=true:=by simp[jIs,hj,hjk]
    rw[hb] at hr
    simp only[Option.some.injEq] at hr
    subst hjk
    simp only[Nat.sub_self,List.getElem?_cons_zero,Option.some.injEq] at h
    subst h
    rw[←hr,qje hR _ 0 (by simpa using hp)];rfl
   ·have hb:jIs R k=false:=by
     simp only[jIs,hj]
     cases hq:Nat.beq j k with
     | false=>rfl
     | true=>exact absurd (Nat.eq_of_beq_eq_true hq) hjk
    rw[hb] at hr
    simp only at hr
    refine qwi hR (o2::l) (k+1) o r (by omega) ?_ hp hr
    rw[show j-k=(j-(k+1))+1 by omega,List.getElem?_cons_succ] at h
    exact h
theorem qxe:∀(outs:List Out) (k:Nat) (r:Ex×St) (j:Nat) (ps:List PV),(qDg outs k r).run=some (j,ps)→k≤j∧∃o,outs[j-k]?=some o∧o.x=r.1∧o.tm.take r.2=some ps
 | [],k,r,j,ps,h=>by simp only[qDg] at h;cases h
 | o::l,k,r,j,ps,h=>by
  simp only[qDg] at h
  split at h
  ·rename_i ps' hb ht
   simp only[Tree.run,Option.some.injEq,Prod.mk.injEq] at h
   obtain⟨rfl,rfl⟩:=h
   exact⟨Nat.le_refl _,o,by simp,Ex.beq_eq hb,ht⟩
  ·obtain⟨h1,o',h2,h3,h4⟩:=qxe l (k+1) r j ps h
   refine⟨by omega,o',?_,h3,h4⟩
   rw[show j-k=(j-(k+1))+1 by omega,List.getElem?_cons_succ]
   exact h2
def qk(tin:Tmpl)(outs:List Out)(T:List PV→TR):St→Tree (Ex×St):=fun st=>match tin.take st with
 | none=>.fail
 | some ps=>.br (okR (T ps)) (qDP (T ps) outs 0) .fail
theorem qyq{tin:Tmpl}{outs:List Out}{T:List PV→TR}{st:St}{r:Ex×St}(h:(qk tin outs T st).run=some r) :
  ∃ps j qs,tin.take st=some ps∧(T ps).run=some (j,qs)∧(qDP (T ps) outs 0).run=some r:=by
 unfold qk at h
 cases ht:tin.take st with
 | none=>rw[ht] at h;cases h
 | some ps=>
  rw[ht] at h
  simp only[Tree.run] at h
  cases hr:(T ps).run with
  | none=>simp[okR,hr] at h
  | some q=>
   obtain⟨j,qs⟩:=q
   simp only[okR,hr,Option.isSome_some] at h
   exact⟨ps,j,qs,rfl,hr,h⟩
theorem qvx.env{E E':Env}(he:E.glob=E'.glob)(hn:E.nimp=E'.nimp){B:Base}{r:Ex×St}{e:Exit}{a:Act}{w:World}(h:qvx E B r e a w):qvx E' B r e a w:=by
 obtain⟨h1,X',h2,h3⟩:=h
 exact⟨h1,X',h2,h3.env he hn⟩
theorem qCk{ni:Nat}{outs:List Out}(h:(outs.all fun o=>o.tm.ok ni)=true){j:Nat}{o:Out}(ho:outs[j]?=some o):o.tm.ok ni=true:=
 List.all_eq_true.1 h o (List.mem_of_getElem? ho)
theorem qrz{p:Nat→Prop}(h:∃n,p n):∃n,p n∧∀m,p m→n≤m:=by
 obtain⟨n,hn⟩:=h
 induction n using Nat.strongRecOn with
 | _ n ih=>
  by_cases hlt:∃m,m<n∧p m
  ·obtain⟨m,h1,h2⟩:=hlt;exact ih m h1 h2
  ·exact⟨n,hn,fun m hm=>Nat.le_of_not_lt fun h=>hlt ⟨m,h,hm⟩⟩
open Classical in
noncomputable def qrj(p:Nat→Prop):Nat:=if h:∃n,p n then Classical.choose (qrz h) else 0
theorem qln{p:Nat→Prop}(h:∃n,p n):p (qrj p)∧∀m,p m→qrj p≤m:=by
 unfold qrj
 rw[dif_pos h]
 exact Classical.choose_spec (qrz h)
def qBy(tin:Tmpl)(outs:List Out)(r:Ex×St):TR:=match r.1 with
 | .normal=>match tin.take r.2 with
  | some ps=>.leaf (0,ps)
  | none=>.fail
 | _=>qDg outs 1 r
def qiE(S:List PV→TR):Nat→List PV→TR
 | 0,_=>.fail
 | n+1,ps=>(S ps).bind fun r=>match r.1 with
  | 0=>qiE S n r.2
  | j+1=>.leaf (j,r.2)
theorem qA1{E:Env}{P:Program}{c:Code}{BO:Base→Prop}{ev:St→Tree (Ex×St)}(hev:∀(n0:Nat) B X st a r,BO B→Sim E B X st a→(ev st).run=some r→c.wpIn (q3s B.ro) n0 P (qvx E B r) a X.w)
  {tin:Tmpl} {outs:List Out} {S T:List PV→TR} (hk:tin.ok E.nimp=true) (hko:(outs.all fun o=>o.tm.ok E.nimp)=true)
  (hS:∀ps r,ps.map PV.kind=tin.kinds→(S ps).run=some r→((ev (tin.make ps)).bind (qBy tin outs)).run=some r) (hT:∀ps,∃n,T ps=qiE S n ps) :
  qp P E.glob E.nimp BO (.loop c) (qk tin outs T):=by
 intro E' B X st a r he hn hbo hs h nf
 obtain⟨ps,j,qs,h1,h2,h3⟩:=qyq h
 obtain⟨hkd,X',hw,hs'⟩:=Tmpl.weaken hk h1 (hs.env he hn)
 obtain⟨n0,hn0⟩:=hT ps
 have hend:∀(o:Out) (X3:Ctx) (a':Act),outs[j]?=some o→qs.map PV.kind=o.tm.kinds→Sim E B X3 (o.tm.make qs) a'→qvx E' B r o.x.out a' X3.w:=by
  intro o X3 a' q1 hkd2 hs3
  have hr:=qwi h2 outs 0 o r (Nat.zero_le _) q1 hkd2 h3
  subst hr
  exact qvx.env he.symm hn.symm ⟨rfl,X3,rfl,hs3⟩
 rw[hn0] at h2
 let I:Nat→Act→World→Prop:=fun n a' w'=>∃X1 ps1,X1.w=w'∧ps1.map PV.kind=tin.kinds∧Sim E B X1 (tin.make ps1) a'∧(qiE S n ps1).run=some (j,qs)
 have key:∀a' w',(∃n,I n a' w')→c.wpIn (q3s B.ro) nf P (Exit.then (fun a'' w''=>∃n,I n a'' w''∧∀m,I m a' w'→n<m) (qvx E' B r)) a' w':=by
  intro a' w' hex
  have hmin:=qrz hex
  obtain⟨n,⟨X1,ps1,rfl,hk1,hs1,hit⟩,hleast⟩:=hmin
  cases n with
  | zero=>simp only[qiE] at hit;cases hit
  | succ n=>
   simp only[qiE] at hit
   obtain⟨s,g1,g2⟩:=bind_some hit
   obtain⟨r1,g3,g4⟩:=bind_some (hS ps1 s hk1 g1)
   refine wpIn_mono (hev nf B X1 _ a' r1 hbo hs1 g3) fun e a'' w'' ⟨p1,X2,p2,p3⟩=>?_
   subst p1 p2
   obtain⟨x1,s1⟩:=r1
   have other:∀(_:(qDg outs 1 (x1,s1)).run=some s),qvx E' B r x1.out a'' X2.w:=by
    intro hf
    obtain⟨sj,sps⟩:=s
    obtain⟨f1,o,f2,f3,f4⟩:=qxe _ _ _ _ _ hf
    cases sj with
    | zero=>omega
    | succ sj=>
     simp only[Tree.run,Option.some.injEq,Prod.mk.injEq] at g2
     obtain⟨rfl,rfl⟩:=g2
     simp only[Nat.add_sub_cancel] at f2
     obtain⟨hkd2,X3,hw3,hs3⟩:=Tmpl.weaken (qCk hko f2) f4 p3
     have f3':o.x=x1:=f3
     rw[←f3',←hw3]
     exact hend o X3 a'' f2 hkd2 hs3
   cases x1 with
   | normal=>
    simp only[qBy] at g4
    cases htk:tin.take s1 with
    | none=>rw[htk] at g4;cases g4
    | some ps2=>
     rw[htk] at g4
     simp only[Tree.run,Option.some.injEq] at g4
     subst g4
     obtain⟨hkd2,X3,hw3,hs3⟩:=Tmpl.weaken hk htk p3
     refine⟨n,⟨X3,ps2,hw3,hkd2,hs3,g2⟩,fun m hm=>?_⟩
     have:=hleast m hm
     omega
   | exit i=>exact other g4
   | ret=>exact other g4
 rw[←hw]
 have hI0:∃n,I n a X'.w:=⟨n0,X',ps,rfl,hkd,hs',h2⟩
 refine wpIn_loop (fun a' w'=>∃n,I n a' w') (fun a' w'=>qrj fun n=>I n a' w') hI0 fun a' w' hex=>?_
 refine wpIn_mono (key a' w' hex) fun e a'' w'' hq=>?_
 cases e with
 | normal=>
  obtain⟨n,hn1,hn2⟩:=hq
  exact⟨⟨n,hn1⟩,Nat.lt_of_le_of_lt ((qln ⟨n,hn1⟩).2 n hn1) (hn2 _ (qln hex).1)⟩
 | exit i=>exact hq
 | goto i=>exact hq
 | ret=>exact hq
 | panic ch=>exact hq
 | outgrown=>exact hq
end Go.Eng

namespace Go.Eng
structure FOut where
 res:AP
 h:List BP
 pro:Option (Nat×TypeId×List Sh):=none
def qCp:Nat→AV→Bool
 | i,.tuple vs=>match vs[i]? with|some .nils=>true|_=>false
 | 0,.nils=>true
 | _,_=>false
def qEL(i:Nat)(v:AV):AV→AV
 | .tuple vs=>.tuple (vs.set i v)
 | .nils=>v
 | x=>x
def qEm(p:Option (Nat×TypeId×List Sh))(r:AV×List Blk):AV×List Blk:=match p with
 | none=>r
 | some (i,e,sh)=>match qCp i r.1 with
  | true=>(qEL i (.vec r.2.length) r.1,r.2++[.vec e sh []])
  | false=>r
def quN(h:List Blk):Blk→Blk
 | .cells cs=>.cells (AV.lendL h cs)
 | k=>k
def qbS(fz:Bool)(r:AV×List Blk):AV×List Blk:=match fz with
 | false=>r
 | true=>let h1:=zr r.2 (List.range r.2.length);(r.1.lend h1,h1.map (quN h1))
def FOut.take1(o:FOut)(r:AV×List Blk):Option (List PV):=
 qAH (o.res.take (r.1.ren (quC o.h.length))) (BP.takeL o.h ((r.2.take o.h.length).map (Blk.ren (quC o.h.length))))
def FOut.take(o:FOut)(r:AV×List Blk):Option (List PV):=o.take1 (qEm o.pro r)
def FOut.make(o:FOut)(ps:List PV):AV×List Blk:=let x:=o.res.make ps;(x.1,(BP.makeL o.h x.2).1)
def FOut.kinds(o:FOut):List PK:=o.res.kinds++BP.kindsL o.h
def qDf:List FOut→Nat→AV×List Blk→TR
 | [],_,_=>.fail
 | o::l,j,r=>match o.take r with
  | some ps=>.leaf (j,ps)
  | none=>qDf l (j+1) r
def qDe(R:TR):List FOut→Nat→Tree (AV×List Blk)
 | [],_=>.fail
 | o::l,j=>match l with
  | []=>.leaf (o.make (qmm R o.kinds 0))
  | _::_=>.br (jIs R j) (.leaf (o.make (qmm R o.kinds 0))) (qDe R l (j+1))
structure FIn where
 args:List AP
 h:List BP
def FIn.take(i:FIn)(args:List AV)(h:List Blk):Option (List PV):=qAH (AP.takeL i.args args) (BP.takeL i.h h)
def FIn.make(i:FIn)(ps:List PV):List AV×List Blk:=let x:=AP.makeL i.args ps;(x.1,(BP.makeL i.h x.2).1)
def FIn.kinds(i:FIn):List PK:=AP.kindsL i.args++BP.kindsL i.h
def q8(i:FIn)(outs:List FOut)(T:List PV→TR):q0A:=fun args h=>match i.take args h with
 | none=>.fail
 | some ps=>.br (okR (T ps)) (qDe (T ps) outs 0) .fail
theorem qr6{R:TR}{j:Nat}{ps:List PV}(hR:R.run=some (j,ps)):∀(outs:List FOut) (k:Nat) (o:FOut) (r:AV×List Blk),k≤j→outs[j-k]?=some o→ps.map PV.kind=o.kinds →
  (qDe R outs k).run=some r→r=o.make ps
 | [],k,o,r,_,h,_,_=>by simp at h
 | o'::l,k,o,r,hk,h,hp,hr=>by
  have hj:jR R=j:=by simp[jR,hR]
  simp only[qDe] at hr
  cases l with
  | nil=>
   have:j-k=0:=by
    rcases Nat.eq_zero_or_pos (j-k) with h0|h0
    ·exact h0
    ·rw[List.getElem?_eq_none (by simp;omega)] at h;cases h
   rw[this] at h
   simp only[List.getElem?_cons_zero,Option.some.injEq] at h
   subst h
   simp only[Tree.run,Option.some.injEq] at hr
   rw[←hr,qje hR _ 0 (by simpa using hp)];rfl
  | cons o2 l=>
   simp only[Tree.run] at hr
   by_cases hjk:j=k
   ·have hb:jIs R k=true:=by simp[jIs,hj,hjk]
    rw[hb] at hr
    simp only[Option.some.injEq] at hr
    subst hjk
    simp only[Nat.sub_self,List.getElem?_cons_zero,Option.some.injEq] at h
    subst h
    rw[←hr,qje hR _ 0 (by simpa using hp)];rfl
   ·have hb:jIs R k=false:=by
     simp only[jIs,hj]
     cases hq:Nat.beq j k with
     | false=>rfl
     | true=>exact absurd (Nat.eq_of_beq_eq_true hq) hjk
    rw[hb] at hr
    simp only at hr
    refine qr6 hR (o2::l) (k+1) o r (by omega) ?_ hp hr
    rw[show j-k=(j-(k+1))+1 by omega,List.getElem?_cons_succ] at h
    exact h
theorem qwo:∀(outs:List FOut) (k:Nat) (r:AV×List Blk) (j:Nat) (ps:List PV),(qDf outs k r).run=some (j,ps)→k≤j∧∃o,outs[j-k]?=some o∧o.take r=some ps
 | [],k,r,j,ps,h=>by simp only[qDf] at h;cases h
 | o::l,k,r,j,ps,h=>by
  simp only[qDf] at h
  split at h
  ·rename_i ps' ht
   simp only[Tree.run,Option.some.injEq,Prod.mk.injEq] at h
   obtain⟨rfl,rfl⟩:=h
   exact⟨Nat.le_refl _,o,by simp,ht⟩
  ·obtain⟨h1,o',h2,h4⟩:=qwo l (k+1) r j ps h
   refine⟨by omega,o',?_,h4⟩
   rw[show j-k=(j-(k+1))+1 by omega,List.getElem?_cons_succ]
   exact h2
theorem quw{i:FIn}{outs:List FOut}{T:List PV→TR}{args:List AV}{h:List Blk}{r:AV×List Blk}(hr:(q8 i outs T args h).run=some r) :
  ∃ps j qs,i.take args h=some ps∧(T ps).run=some (j,qs)∧(qDe (T ps) outs 0).run=some r:=by
 unfold q8 at hr
 cases ht:i.take args h with
 | none=>rw[ht] at hr;cases hr
 | some ps=>
  rw[ht] at hr
  simp only[Tree.run] at hr
  cases hq:(T ps).run with
  | none=>simp[okR,hq] at hr
  | some q=>
   obtain⟨j,qs⟩:=q
   simp only[okR,hq,Option.isSome_some] at hr
   exact⟨ps,j,qs,rfl,hq,hr⟩
theorem qpH{B:Base}{X:Ctx}(hs:HSim B X)(fz:Bool){r:AV×List Blk}{v:Value}(hr:Rep X r.1 v)(hh:X.h=r.2) :
  ∃X',X'.w=X.w∧X'.h=(qbS fz r).2∧HSim B X'∧Rep X' (qbS fz r).1 v∧X'.y=X.y:=by
 cases fz with
 | false=>exact⟨X,rfl,hh,hs,hr,rfl⟩
 | true=>
  obtain⟨X1,f⟩:=q7e (List.range r.2.length) hs
  have hf:X1.h=zr r.2 (List.range r.2.length):=by rw[f.h,hh]
  obtain⟨d1,d2⟩:=qc0 f.hs (h':=X1.h.map (quN X1.h)) (by simp) (fun b k' hb=>by
   rw[List.getElem?_map] at hb
   cases hk:X1.h[b]? with
   | none=>rw[hk] at hb;cases hb
   | some k0=>
    rw[hk] at hb
    simp only[Option.map_some,Option.some.injEq] at hb
    refine⟨k0,rfl,?_⟩
    cases k0 with
    | cells cs=>exact .inr (.inr (.inl ⟨cs,_,rfl,hb.symm,fun vs hv=>qcx f.hs hv⟩))
    | _=>exact .inr (.inl hb.symm)) (fun b hb k' hk'=>by
   obtain⟨cs,hc,hc2⟩:=f.hs.impc b hb
   rw[List.getElem?_map,hc] at hk'
   simp only[Option.map_some,Option.some.injEq] at hk'
   subst hk'
   cases cs<;>first|(cases hc2;done)|rfl)
  refine⟨{ X1 with h:=X1.h.map (quN X1.h) },f.w,?_,d1,?_,f.ext.y⟩
  ·simp only[qbS,hf]
  ·have:=(qwZ f.hs (hr.ext f.ext)).ext d2
   simp only[qbS]
   rw[←hf]
   exact this
theorem qAy{B:Base}{X:Ctx}(hs:HSim B X)(p:Option (Nat×TypeId×List Sh)){r:AV×List Blk}{v:Value}(hr:Rep X r.1 v)(hh:X.h=r.2) :
  ∃X',X'.w=X.w∧X'.h=(qEm p r).2∧HSim B X'∧Rep X' (qEm p r).1 v∧X'.y=X.y:=by
 cases p with
 | none=>exact⟨X,rfl,hh,hs,hr,rfl⟩
 | some p=>
  obtain⟨i,e,sh⟩:=p
  obtain⟨a,h⟩:=r
  simp only at hr hh
  subst hh
  simp only[qEm]
  cases hn:qCp i a with
  | false=>exact⟨X,rfl,rfl,hs,hr,rfl⟩
  | true=>
   simp only
   have hw:=PushW.same X
   have hk:yt (X.pushW (.vec e sh []) none X.w) X.h.length (.vec e sh []):=.inl ⟨by simp[Ctx.pushW],rfl⟩
   have hs1:=HSim.push hs hw hk
   have hx:=Ctx.push_ext hs (.vec e sh []) hw
   have hrep:Rep (X.pushW (.vec e sh []) none X.w) (.vec X.h.length) (.slice none 0 0):=by
    refine .vec _ _ _ _ (by simp[Ctx.pushW]) fun sh' m hv=>?_
    unfold qv8
    simp[Ctx.pushW]
   refine⟨X.pushW (.vec e sh []) none X.w,rfl,by simp[Ctx.pushW],hs1,?_,rfl⟩
   cases a with
   | nils=>
    cases hr
    exact hrep
   | tuple vs=>
    cases hr with
    | tuple _ us hu=>
     simp only[qCp] at hn
     cases hg:vs[i]? with
     | none=>rw[hg] at hn;cases hn
     | some x=>
      rw[hg] at hn
      cases x<;>first|(cases hn;done)|skip
      obtain⟨u,g1,g2⟩:=hu.get i _ hg
      have hue:u=.slice none 0 0:=by cases g2;rfl
      subst hue
      have hset:=RepL.set hrep (hu.ext hx) i
      have he:us.set i (.slice none 0 0)=us:=by
       apply List.ext_getElem?
       intro j
       by_cases hj:j=i
       ·subst hj;rw[List.getElem?_set_self (qu g1),g1]
       ·rw[List.getElem?_set_ne (Ne.symm hj)]
      rw[he] at hset
      exact .tuple _ _ hset
   | _=>cases i<;>cases hn
theorem FOut.weaken1{o:FOut}{B:Base}{X:Ctx}{r:AV×List Blk}{ps:List PV}{v:Value}(hk:qaI B.imps.length o.h=true)(h:o.take1 r=some ps)(hs:HSim B X)(hr:Rep X r.1 v)(hh:X.h=r.2) :
  ps.map PV.kind=o.kinds∧∃X',X'.w=X.w∧X'.h=(o.make ps).2∧HSim B X'∧Rep X' (o.make ps).1 v∧X'.y=X.y:=by
 unfold FOut.take1 at h
 obtain⟨x,y,h1,h2,rfl⟩:=q3o h
 obtain⟨hc1,hc2⟩:=qop hk
 obtain⟨c1,c2⟩:=qwP hs (n:=o.h.length) hc1
 obtain⟨a1,a2,a3⟩:=AP.take_ok (X:=X.cut o.h.length) _ _ x y h1
 obtain⟨b1,b2,b3,b4,b5⟩:=BP.takeL_ok (X:=X.cut o.h.length) _ _ y [] h2
 have hch:(X.cut o.h.length).h=(r.2.take o.h.length).map (Blk.ren (quC o.h.length)):=by rw[←hh];rfl
 rw[←hch] at b3 b5
 rw[List.append_nil] at b3 b5
 obtain⟨d1,d2⟩:=qc0 c1 (h':=(BP.makeL o.h y).1) b3 (fun b k' hb=>by obtain⟨k0,e1,e2,_⟩:=b5 b k' hb;exact⟨k0,e1,e2⟩)
  (fun b hb k' hk'=>by
   obtain⟨q,q1,q2⟩:=hc2 b hb
   obtain⟨k0,_,_,e3⟩:=b5 b k' hk'
   exact e3 q q1 q2)
 refine⟨by simp[FOut.kinds,a2,b2],{ X.cut o.h.length with h:=(BP.makeL o.h y).1 },rfl,?_,d1,?_,rfl⟩
 ·simp only[FOut.make,a1]
 ·simp only[FOut.make]
  exact(a3 _ (hr.ren c2.toMove0)).ext d2
theorem FOut.weaken{o:FOut}{B:Base}{X:Ctx}{r:AV×List Blk}{ps:List PV}{v:Value}(hk:qaI B.imps.length o.h=true)(h:o.take r=some ps)(hs:HSim B X)(hr:Rep X r.1 v)(hh:X.h=r.2) :
  ps.map PV.kind=o.kinds∧∃X',X'.w=X.w∧X'.h=(o.make ps).2∧HSim B X'∧Rep X' (o.make ps).1 v∧X'.y=X.y:=by
 obtain⟨X1,h1,h2,h3,h4,h5⟩:=qAy hs o.pro hr hh
 obtain⟨g1,X2,g2,g3,g4,g5,g6⟩:=FOut.weaken1 hk h h3 h4 h2
 exact⟨g1,X2,g2.trans h1,g3,g4,g5,g6.trans h5⟩
theorem qAG{E:Env}{P:Program}(hm:P.follows .mixedOrders=true)(hE:E.tok P)(hS:E.specs P)(hL:E.loopsOK P)(hb:E.bodies P){f:FuncId}{fn:Func}(hf:P.funcs[f]?=some fn)
  (hn:(fn.name == "runtime.NumGoroutine")=false) (hbd:fn.body.isNone=false) {n:Nat} {fz:Bool} {i:FIn} {outs:List FOut} {T:List PV→TR}
  (hi:i.h.length=E.nimp∧i.h.all BP.isCells=true) (ho:(outs.all fun o=>qaI E.nimp o.h)=true)
  (hT:∀ps r,ps.map PV.kind=i.kinds→(T ps).run=some r→((qwj E n f fn (i.make ps).1 (i.make ps).2).bind fun q=>qDf outs 0 (qbS fz q)).run=some r) :
  zb P E.glob f (q8 i outs T):=by
 refine⟨q2n hf hn hbd,fun B X args vargs r hs hen hgl ha h=>?_⟩
 obtain⟨ps,j,qs,h1,h2,h3⟩:=quw h
 unfold FIn.take at h1
 obtain⟨x,y,g1,g2,rfl⟩:=q3o h1
 obtain⟨a1,a2,a3⟩:=AP.takeL_ok (X:=X) _ _ x y g1
 obtain⟨b1,b2,b3,b4,b5⟩:=BP.takeL_ok (X:=X) _ _ y [] g2
 rw[List.append_nil] at b3 b5
 have himp:B.imps.length=X.h.length:=by rw[hen.imps];simp
 obtain⟨d1,d2⟩:=qc0 hs (h':=(BP.makeL i.h y).1) b3 (fun b k' hb=>by obtain⟨k0,e1,e2,_⟩:=b5 b k' hb;exact⟨k0,e1,e2⟩)
  (fun b hb k' hk'=>by
   obtain⟨k0,_,_,e3⟩:=b5 b k' hk'
   have hlt:b<i.h.length:=by omega
   exact e3 i.h[b] (List.getElem?_eq_getElem hlt) (List.all_eq_true.1 hi.2 _ (List.getElem_mem hlt)))
 have hkd:(x++y).map PV.kind=i.kinds:=by simp[FIn.kinds,a2,b2]
 have hgl1:qbK E.glob ({ X with h:=(BP.makeL i.h y).1 }:Ctx):=qnl (X:=X) (fun _ h=>h) rfl rfl hgl
 obtain⟨q,k1,k2⟩:=bind_some (hT _ _ hkd h2)
 have hmk:i.make (x++y)=((AP.makeL i.args (x++y)).1,(BP.makeL i.h y).1):=by simp only[FIn.make,a1]
 rw[hmk] at k1
 have hcalls:=qt6 hm hE hS hL hb hf (n:=n) d1 (by omega) hgl1 ((a3 _ ha).ext d2) k1
 refine hcalls.mono fun e w' ⟨v,X',e1,e2,e3,e4,e5,e6⟩=>?_
 obtain⟨X2,p1,p2,p3,p4,p5⟩:=qpH e5 fz e3 e4
 obtain⟨_,o,q1,q2⟩:=qwo _ _ _ _ _ k2
 have hco:qaI B.imps.length o.h=true:=by
  rw[himp,←b4,hi.1]
  exact List.all_eq_true.1 ho o (List.mem_of_getElem? q1)
 obtain⟨m1,X3,m2,m3,m4,m5,m6⟩:=FOut.weaken hco q2 p3 p4 p2
 have hre:=qr6 h2 outs 0 o r (Nat.zero_le _) q1 m1 h3
 subst hre
 exact⟨v,X3,e1,by rw[m2,p1,e2],m5,m3,m4,(m6.trans p5).trans e6⟩
def qEC(l:List (FIn×q0A)):q0A:=fun args h=>match l.find? fun c=>(c.1.take args h).isSome with
 | some c=>c.2 args h
 | none=>.fail
theorem qBd{P:Program}{gl:List (Nat×AV)}{f:FuncId}{l:List (FIn×q0A)}(he:qju P f)(hl:∀c,c∈l→zb P gl f c.2):zb P gl f (qEC l):=by
 refine⟨he,fun B X args vargs r hs hen hg ha h=>?_⟩
 unfold qEC at h
 cases hc:l.find? fun c=>(c.1.take args X.h).isSome with
 | none=>rw[hc] at h;cases h
 | some c=>
  rw[hc] at h
  exact(hl c (List.mem_of_find?_eq_some hc)).2 B X args vargs r hs hen hg ha h
theorem qCh{P:Program}{gl:List (Nat×AV)}{f:FuncId}:∀c,c∈([]:List (FIn×q0A))→zb P gl f c.2:=fun _ h=>by cases h
theorem qwu{P:Program}{gl:List (Nat×AV)}{f:FuncId}{i:FIn}{G:q0A}{l:List (FIn×q0A)}(h:zb P gl f G)(t:∀c,c∈l→zb P gl f c.2):∀c,c∈(i,G)::l→zb P gl f c.2:=fun c hc=>by
 rcases List.mem_cons.1 hc with rfl|hc
 ·exact h
 ·exact t c hc
end Go.Eng

namespace Go.Eng
def q4E(fn:Func):Code:=fn.body.getD .skip
def zu(fn:Func)(k:Nat):Code:=((zd (q4E fn))[k]?).getD .skip
def qiV:Code→Code
 | .loop c=>c
 | c=>c
def qEU(E:Env)(f:FuncId)(fn:Func)(k:Nat):qy8:=match zu fn k with
 | .rangeFunc _ ps a b=>qto (jS E (q7K E 9) (q71 E) (qhQ E (q7K E 9)) f a (k+1)) (jS E (q7K E 9) (q71 E) (qhQ E (q7K E 9)) f b (k+1+zH a)) ps.toList
 | _=>fun _ _=>.fail
def hdl(E:Env):Option (FuncId×Func×Nat)→q7E
 | none=>q7K E 9
 | some (fc,fnc,kc)=>qBr (qEU E fc fnc kc) (q7K E 9)
def rgh(E:Env):Option (FuncId×Func×Nat)→qce
 | none=>qhQ E (q7K E 9)
 | some _=>qsf
def qky(E:Env)(y:Option (FuncId×Func×Nat))(f:FuncId)(fn:Func)(k:Nat)(st:St):Tree (Ex×St):=jS E (hdl E y) (q71 E) (rgh E y) f (qiV (zu fn k)) (k+1) st
def vd(E:Env)(f:FuncId)(fn:Func)(k:Nat)(tin:Tmpl)(outs:List Out)(ps:List PV):TR:=(qky E none f fn k (tin.make ps)).bind (qBy tin outs)
def qtj(E:Env)(y:Option (FuncId×Func×Nat))(f:FuncId)(fn:Func)(k:Nat)(tin:Tmpl)(outs:List Out)(ps:List PV):TR:=(qky E y f fn k (tin.make ps)).bind (qBy tin outs)
def qo(E:Env)(f:FuncId)(fn:Func)(fz:Bool)(i:FIn)(outs:List FOut)(ps:List PV):TR:=(qwj E 9 f fn (i.make ps).1 (i.make ps).2).bind fun q=>qDf outs 0 (qbS fz q)
def qfU:Nat:=2^70
def qg(S:List PV→TR)(ps:List PV):TR:=qiE S qfU ps
structure EnvOK (E:Env) (P:Program):Prop where
 tok:E.tok P
 specs:E.specs P
 loops:E.loopsOK P
 bodies:E.bodies P
theorem q9n{P:Program}{E:Env}(h:E.tt.map (fun x=>qtT P x.1)=E.tt.map (·.2)):E.tok P:=by
 intro x hx
 have:∀(l:List (TypeId×TI)),l.map (fun x=>qtT P x.1)=l.map (·.2)→∀x,x∈l→qtT P x.1=x.2:=by
  intro l
  induction l with
  | nil=>intro _ x hx;cases hx
  | cons y l ih=>
   intro h x hx
   simp only[List.map_cons,List.cons.injEq] at h
   rcases List.mem_cons.1 hx with rfl|hx
   ·exact h.1
   ·exact ih h.2 x hx
 exact this _ h x hx
theorem aln{α:Type}{p:α→Prop}:∀x,x∈([]:List α)→p x:=fun _ h=>by cases h
theorem alc{α:Type}{p:α→Prop}{a:α}{l:List α}(h:p a)(t:∀x,x∈l→p x):∀x,x∈a::l→p x:=fun x hx=>by
 rcases List.mem_cons.1 hx with rfl|hx
 ·exact h
 ·exact t x hx
theorem qAz {P:Program} {f:FuncId} {fn:Func} (h:P.funcs[f]?=some fn) (hn:(fn.name == "runtime.NumGoroutine")=false):P.funcs[(f,fn).1]?=some (f,fn).2∧((f,fn).2.name == "runtime.NumGoroutine")=false:=⟨h,hn⟩
theorem qCO{P:Program}{gl:List (Nat×AV)}{ni:Nat}{f k:Nat}{fn:Func}{L:St→Tree (Ex×St)}(hf:P.funcs[f]?=some fn)(hb:fn.body.isSome=true)
  (hn:((zd (q4E fn))[k]?).isSome=true) {it:List (FuncId×FuncId×Nat)} (hg:qp P gl ni (qy P it f) (zu fn k) L) :
  ∃fn' c c',P.funcs[((f,k),L).1.1]?=some fn'∧fn'.body=some c∧(zd c)[((f,k),L).1.2]?=some c'∧qp P gl ni (qy P it ((f,k),L).1.1) c' ((f,k),L).2:=by
 refine⟨fn,q4E fn,zu fn k,hf,?_,?_,hg⟩
 ·unfold q4E
  cases h:fn.body with
  | none=>rw[h] at hb;cases hb
  | some c=>rfl
 ·show (zd (q4E fn))[k]?=some (zu fn k)
  unfold zu
  cases h:(zd (q4E fn))[k]? with
  | none=>rw[h] at hn;cases hn
  | some c=>rfl
def qtr:Code→Bool
 | .loop _=>true
 | _=>false
theorem qvS{A C:List Code}(hA:∀(k:Nat) (d:Code),A[k]?=some d→∀(j:Nat) (c':Code),(zd d)[j]?=some c'→A[k+j]?=some c')(hC:∀(k:Nat) (d:Code),C[k]?=some d→∀(j:Nat) (c':Code),(zd d)[j]?=some c'→C[k+j]?=some c') :
  ∀(k:Nat) (d:Code),(A++C)[k]?=some d→∀(j:Nat) (c':Code),(zd d)[j]?=some c'→(A++C)[k+j]?=some c':=by
 intro k d hd j c' hc
 rcases Nat.lt_or_ge k A.length with h|h
 ·rw[List.getElem?_append_left h] at hd
  have:=hA k d hd j c' hc
  rw[List.getElem?_append_left (qu this)];exact this
 ·rw[List.getElem?_append_right h] at hd
  have:=hC _ d hd j c' hc
  rw[List.getElem?_append_right (by omega),show k+j-A.length=k-A.length+j by omega];exact this
theorem qsq{c:Code}{l:List Code}(hc:zd c=c::l)(hl:∀(k:Nat) (d:Code),l[k]?=some d→∀(j:Nat) (c':Code),(zd d)[j]?=some c'→l[k+j]?=some c') :
  ∀(k:Nat) (d:Code),(c::l)[k]?=some d→∀(j:Nat) (c':Code),(zd d)[j]?=some c'→(c::l)[k+j]?=some c':=by
 intro k d hd j c' hj
 cases k with
 | zero=>
  simp only[List.getElem?_cons_zero,Option.some.injEq] at hd
  subst hd
  rw[hc] at hj
  simpa using hj
 | succ k=>
  simp only[List.getElem?_cons_succ] at hd
  have:=hl k d hd j c' hj
  rw[show k+1+j=(k+j)+1 by omega,List.getElem?_cons_succ];exact this
theorem qtR:∀(c:Code) (k:Nat) (d:Code),(zd c)[k]?=some d→∀(j:Nat) (c':Code),(zd d)[j]?=some c'→(zd c)[k+j]?=some c':=by
 intro c
 induction c with
 | seq a b iha ihb=>exact qsq rfl (qvS iha ihb)
 | cond x a b iha ihb=>exact qvS iha ihb
 | block id c ih=>exact ih
 | scope c ih=>exact ih
 | loop c ih=>exact qsq rfl ih
 | rangeFunc x ps a b iha ihb=>exact qsq rfl (qvS iha ihb)
 | _=>intro k d hd;simp[zd] at hd
theorem qAg{fn:Func}{k:Nat}(h:((zd (q4E fn))[k]?).isSome=true):(zd (q4E fn))[k]?=some (zu fn k):=by
 unfold zu
 cases h':(zd (q4E fn))[k]? with
 | none=>rw[h'] at h;cases h
 | some c=>rfl
def qE5(E:Env)(P:Program)(f:FuncId):Option (FuncId×Func×Nat)→Prop
 | none=>q73 E.iter f=true
 | some (fc,fnc,kc)=>P.funcs[fc]?=some fnc∧(qqP E.iter f fc kc&&(q73 E.iter fc&&(fnc.body.isSome&&((zd (q4E fnc))[kc]?).isSome)))=true
theorem qs1{fn:Func}(h:fn.body.isSome=true):fn.body=some (q4E fn):=by
 unfold q4E
 cases hb:fn.body with
 | none=>rw[hb] at h;cases h
 | some c=>rfl
theorem qCI{E:Env}{P:Program}(hm:P.follows .mixedOrders=true)(h:EnvOK E P){f:FuncId}{y:Option (FuncId×Func×Nat)}(hy:qE5 E P f y):(∀B,qy P E.iter f B→CallOK E P (hdl E y) B)∧qij E P (rgh E y):=by
 have hcall:=qf7 hm h.tok h.specs h.loops h.bodies 9
 cases y with
 | none=>exact⟨fun B _=>hcall B,qbT hm h.tok h.specs h.loops h.bodies hcall⟩
 | some y=>
  obtain⟨fc,fnc,kc⟩:=y
  obtain⟨hf,hc⟩:=hy
  simp only[Bool.and_eq_true] at hc
  obtain⟨c1,c2,c3,c4⟩:=hc
  refine⟨fun B hB=>⟨(hcall B).fn,?_⟩,qkI E P⟩
  have hfi:qge E.iter f=some (fc,kc):=by
   unfold qqP at c1
   split at c1
   ·rename_i z hz
    simp only[Bool.and_eq_true] at c1
    rw[hz]
    obtain⟨z1,z2⟩:=z
    have e1:z1=fc:=Nat.eq_of_beq_eq_true c1.1
    have e2:z2=kc:=Nat.eq_of_beq_eq_true c1.2
    rw[e1,e2]
   ·cases c1
  obtain⟨_,hI⟩:=hB
  rw[hfi] at hI
  have hnode:=qAg c4
  have hsub:=qtR (q4E fnc) kc _ hnode
  intro args st r X a vargs hs ha hr
  simp only[hdl,qBr,qEU] at hr
  cases hn:zu fnc kc with
  | rangeFunc x ps c d=>
   rw[hn] at hr hnode hsub
   refine qwm hf (qs1 c3) hnode c2 (fun B X st act r hbo hs hr n=>?_) (fun B X st act r hbo hs hr n=>?_) hI args st r X a vargs hs ha hr
   ·refine qaj hm h.tok h.specs h.loops hf (qs1 c3) (fun B _=>hcall B) (qai hm h.tok h.specs h.loops h.bodies) (q6j E) (qbT hm h.tok h.specs h.loops h.bodies hcall) c (kc+1) (fun j c' hj=>?_) hbo hs hr
    have:=hsub (1+j) c' (by simp only[zd];rw[Nat.add_comm,List.getElem?_cons_succ,List.getElem?_append_left (qu hj)];exact hj)
    rw[show kc+1+j=kc+(1+j) by omega];exact this
   ·refine qaj hm h.tok h.specs h.loops hf (qs1 c3) (fun B _=>hcall B) (qai hm h.tok h.specs h.loops h.bodies) (q6j E) (qbT hm h.tok h.specs h.loops h.bodies hcall) d (kc+1+zH c) (fun j c' hj=>?_) hbo hs hr
    have:=hsub (1+zH c+j) c' (by
     simp only[zd]
     rw[show 1+zH c+j=(zH c+j)+1 by omega,List.getElem?_cons_succ,List.getElem?_append_right (by rw[uq];omega),uq]
     rw[show zH c+j-zH c=j by omega];exact hj)
    rw[show kc+1+zH c+j=kc+(1+zH c+j) by omega];exact this
  | _=>rw[hn] at hr;cases hr
theorem q7b{E:Env}{P:Program}(hm:P.follows .mixedOrders=true)(h:EnvOK E P){f k:Nat}{fn:Func}(hf:P.funcs[f]?=some fn)
  (hlp:qtr (zu fn k)=true) {tin:Tmpl} {outs:List Out} {S:List PV→TR} {y:Option (FuncId×Func×Nat)} (hy:qE5 E P f y)
  (hk:(tin.ok E.nimp&&outs.all fun o=>o.tm.ok E.nimp)=true)
  (hnk:(fn.body.isSome&&((zd (q4E fn))[k]?).isSome)=true)
  (hS:∀ps,S ps=qtj E y f fn k tin outs ps):qp P E.glob E.nimp (qy P E.iter f) (zu fn k) (qk tin outs (qg S)):=by
 simp only[Bool.and_eq_true] at hk hnk
 have hnode:=qAg hnk.2
 have hsub:∀j c',(zd (qiV (zu fn k)))[j]?=some c'→(zd (q4E fn))[k+1+j]?=some c':=by
  intro j c' hj
  have:=qtR (q4E fn) k _ hnode (1+j) c' (by
   cases hn:zu fn k<;>simp[hn,qtr] at hlp
   rw[hn] at hj
   simp only[zd,qiV] at hj ⊢
   rw[Nat.add_comm,List.getElem?_cons_succ];exact hj)
  rw[show k+1+j=k+(1+j) by omega];exact this
 have hc:zu fn k=.loop (qiV (zu fn k)):=by
  cases hn:zu fn k<;>simp[hn,qtr] at hlp
  rfl
 rw[hc]
 refine qA1 (ev:=qky E y f fn k) (S:=S) ?_ hk.1 hk.2 (fun ps r _ hr=>by rw[hS] at hr;exact hr) (fun ps=>⟨qfU,rfl⟩)
 intro n0 B X st a r hbo hs hr
 obtain⟨w1,w2⟩:=qCI hm h hy
 exact qaj hm h.tok h.specs h.loops hf (qs1 hnk.1) w1 (qai hm h.tok h.specs h.loops h.bodies) (q6j E) w2 (qiV (zu fn k)) (k+1) hsub hbo hs hr
theorem qvz{E:Env}{P:Program}(hm:P.follows .mixedOrders=true)(h:EnvOK E P){f k:Nat}{fn:Func}(hf:P.funcs[f]?=some fn)
  (hlp:qtr (zu fn k)=true) {tin:Tmpl} {outs:List Out} {S:List PV→TR} (hni:q73 E.iter f=true)
  (hk:(tin.ok E.nimp&&outs.all fun o=>o.tm.ok E.nimp)=true)
  (hnk:(fn.body.isSome&&((zd (q4E fn))[k]?).isSome)=true)
  (hS:∀ps,S ps=vd E f fn k tin outs ps):qp P E.glob E.nimp (qy P E.iter f) (zu fn k) (qk tin outs (qg S)):=
 q7b hm h hf hlp (y:=none) hni hk hnk hS
theorem qnO{E:Env}{P:Program}(hm:P.follows .mixedOrders=true)(h:EnvOK E P){f:FuncId}{fn:Func}(hf:P.funcs[f]?=some fn)
  (hn:((fn.name == "runtime.NumGoroutine")||fn.body.isNone)=false) {fz:Bool} {i:FIn} {outs:List FOut} {T:List PV→TR}
  (hk:(Nat.beq i.h.length E.nimp&&i.h.all BP.isCells&&outs.all fun o=>qaI E.nimp o.h)=true)
  (hT:∀ps,T ps=qo E f fn fz i outs ps):zb P E.glob f (q8 i outs T):=by
 simp only[Bool.or_eq_false_iff] at hn
 simp only[Bool.and_eq_true] at hk
 exact qAG hm h.tok h.specs h.loops h.bodies hf hn.1 hn.2 (n:=9) (fz:=fz) ⟨Nat.eq_of_beq_eq_true hk.1.1,hk.1.2⟩ hk.2 (fun ps r _ hr=>by rw[hT] at hr;exact hr)
theorem b1 {P:Program} {f:FuncId} {fn:Func} (h:P.funcs[f]?=some fn) (hn:(fn.name == "runtime.NumGoroutine")=false:=by kernel_rfl):∀x,x∈[(f,fn)]→P.funcs[x.1]?=some x.2∧(x.2.name == "runtime.NumGoroutine")=false:=alc (qAz h hn) aln
theorem bk {P:Program} {f:FuncId} {fn:Func} (h:P.funcs[f]?=some fn) (hn:(fn.name == "runtime.NumGoroutine")=false:=by kernel_rfl):P.funcs[(f,fn).1]?=some (f,fn).2∧((f,fn).2.name == "runtime.NumGoroutine")=false:=qAz h hn
theorem lk{P:Program}{gl:List (Nat×AV)}{ni:Nat}{f k:Nat}{fn:Func}{L:St→Tree (Ex×St)}(hf:P.funcs[f]?=some fn)
  {it:List (FuncId×FuncId×Nat)} (hg:qp P gl ni (qy P it f) (zu fn k) L) (hb:fn.body.isSome=true:=by kernel_rfl) (hn:((zd (q4E fn))[k]?).isSome=true:=by kernel_rfl) :
  ∃fn' c c',P.funcs[((f,k),L).1.1]?=some fn'∧fn'.body=some c∧(zd c)[((f,k),L).1.2]?=some c'∧qp P gl ni (qy P it ((f,k),L).1.1) c' ((f,k),L).2:=qCO hf hb hn hg
theorem sk(E:Env){P:Program}(hm:P.follows .mixedOrders=true)(ht:E.tt.map (fun x=>qtT P x.1)=E.tt.map (·.2))(hs:E.specs P)(hl:E.loopsOK P)(hb:E.bodies P){f:FuncId}{fn:Func}(hf:P.funcs[f]?=some fn)
  {i:FIn} {outs:List FOut} {T:List PV→TR} (hT:∀ps,T ps=qo E f fn true i outs ps:=by exact fun _=>rfl) (hn:((fn.name == "runtime.NumGoroutine")||fn.body.isNone)=false:=by kernel_rfl)
  (hk:(Nat.beq i.h.length E.nimp&&i.h.all BP.isCells&&outs.all fun o=>qaI E.nimp o.h)=true:=by kernel_rfl):zb P E.glob f (q8 i outs T):=
 qnO hm ⟨q9n ht,hs,hl,hb⟩ hf hn hk hT
theorem gk(E:Env){P:Program}(hm:P.follows .mixedOrders=true)(ht:E.tt.map (fun x=>qtT P x.1)=E.tt.map (·.2))(hs:E.specs P)(hl:E.loopsOK P)(hb:E.bodies P){f k:Nat}{fn:Func}(hf:P.funcs[f]?=some fn)
  {tin:Tmpl} {outs:List Out} {S:List PV→TR} (hS:∀ps,S ps=vd E f fn k tin outs ps:=by exact fun _=>rfl) (hlp:qtr (zu fn k)=true:=by kernel_rfl) (hni:q73 E.iter f=true:=by kernel_rfl)
  (hk:(tin.ok E.nimp&&outs.all fun o=>o.tm.ok E.nimp)=true:=by kernel_rfl) (hnk:(fn.body.isSome&&((zd (q4E fn))[k]?).isSome)=true:=by kernel_rfl) :
  qp P E.glob E.nimp (qy P E.iter f) (zu fn k) (qk tin outs (qg S)):=
 qvz hm ⟨q9n ht,hs,hl,hb⟩ hf hlp hni hk hnk hS
end Go.Eng

