/- Texts of the proof, merged: what the code computes, and plain laws. No statement stands here. -/
import Derived.Orders
import Derived.RangeFuncRecord
import Derived.Test.YtngkcfeldallkaaGreatDoorU1
namespace Go.Eng
structure Entry (B:Base) (X:Ctx):Prop where
 w0:B.w0=X.w
 imps:B.imps=(List.range X.h.length).map X.σ
 M0:∀n,X.M n→B.M0 n
def qjh(P:Program)(f:FuncId):Prop:=∀(args:Array Value) (w:World),(callFunc f args).run P w=.ok (.enter f args) w
def zb(P:Program)(gl:List (Nat×AV))(f:FuncId)(G:q1h):Prop:=
 qjh P f∧∀(B:Base) (X:Ctx) (args:List AV) (vargs:List Value) (r:AV×List Blk),HSim B X→Entry B X→qaI gl X→RepL X args vargs→(G args X.h).run=some r →
  Calls P f vargs.toArray X.w fun e w'=>∃v X',e=.returned v∧X'.w=w'∧Rep X' r.1 v∧X'.h=r.2∧HSim B X'∧X'.y=X.y
mutual
theorem qww{B:Base}{X:Ctx}(hs:HSim B X):∀{av:AV} {v:Value},Rep X av v→Rep X (av.lend X.h) v
 | .vec b,v,h=>by
  unfold AV.lend
  split
  ·rename_i e sh l hb;exact .imm _ _ _ (qgg hs hb h)
  ·exact .undef v
 | .agg cs,_,.agg _ vs h=>.agg _ vs (qcv hs h)
 | .tuple cs,_,.tuple _ vs h=>.tuple _ vs (qcv hs h)
 | .undef,_,h|.skip,_,h|.yld,_,h|.blit _,_,h|.bool _,_,h|.ilit _ _,_,h|.int _ _,_,h|.str _,_,h|.nilp,_,h|.ptr _ _,_,h|.eptr _ _ _ _,_,h|.mptr _ _ _ _ _,_,h|.vptr _ _ _,_,h|.vsub _ _,_,h|.aptr _ _ _,_,h|.asub _ _ _ _ _,_,h|.bagg _ _ _ _,_,h
 | .nils,_,h|.imm _ _,_,h|.full _ _,_,h|.nilf,_,h|.fn _ _ _,_,h=>h
theorem qcv{B:Base}{X:Ctx}(hs:HSim B X):∀{azz:List AV} {vs:List Value},RepL X azz vs→RepL X (AV.lendL X.h azz) vs
 | _,_,.nil=>.nil
 | _,_,.cons h t=>.cons (qww hs h) (qcv hs t)
end
def Wk(X:Ctx)(k k':Blk):Prop:=k'=.dead∨k'=k∨(∃cs cs',k=.cells cs∧k'=.cells cs'∧∀vs,RepL X cs vs→RepL X cs' vs)∨∃cs cs' kk n l,k=.big cs kk n l∧k'=.big cs' kk n l∧∀vs,RepL X cs vs→RepL X cs' vs
theorem qc0{B:Base}{X:Ctx}(hs:HSim B X){h':List Blk}(hl:h'.length=X.h.length)(hw:∀(b:Nat) (k':Blk),h'[b]?=some k'→∃k0,X.h[b]?=some k0∧Wk X k0 k')
  (hc:∀b:Nat,b<B.imps.length→∀k':Blk,h'[b]?=some k'→k'.solid=true):HSim B { X with h:=h' }∧Ext X { X with h:=h' }:=by
 have hvec:∀b sh m,({ X with h:=h' }:Ctx).isVec b sh m→X.isVec b sh m:=by
  intro b sh m ⟨e,l,h1,h2⟩
  refine⟨e,l,?_,h2⟩
  rcases h1 with h1|h1
  ·obtain⟨k0,h3,h4⟩:=hw b _ h1
   rcases h4 with h4|h4|⟨_,_,_,h4,_⟩|⟨_,_,_,_,_,_,h4,_⟩
   ·cases h4
   ·exact .inl (h4▸h3)
   ·cases h4
   ·cases h4
  ·obtain⟨k0,h3,h4⟩:=hw b _ h1
   rcases h4 with h4|h4|⟨_,_,_,h4,_⟩|⟨_,_,_,_,_,_,h4,_⟩
   ·cases h4
   ·exact .inr (h4▸h3)
   ·cases h4
   ·cases h4
 have hx:Ext X { X with h:=h' }:=by
  refine Move.of (fun _ h=>h) (fun _ _=>rfl) (fun b b' hb hf=>?_)
  cases hf
  exact⟨by show b<h'.length;omega,rfl,hvec b,fun sh m _ k hk c T fr hc=>⟨c,T,fr,hc,rfl⟩⟩
 have hown:∀b m,({ X with h:=h' }:Ctx).own b m→X.own b m:=by
  intro b m ⟨h1,k,h2,h3⟩
  obtain⟨k0,h4,h5⟩:=hw b k h2
  refine⟨h1,k0,h4,?_⟩
  rcases h5 with h5|h5|⟨_,_,h5,_,_⟩|⟨_,_,_,_,_,h5,_,_⟩
  ·subst h5;cases h3
  ·exact h5▸h3
  ·subst h5;rfl
  ·subst h5;rfl
 refine⟨⟨?_,fun b b' m h h'=>hs.inj b b' m (hown _ _ h) (hown _ _ h'),fun b m h=>hs.notM b m (hown _ _ h),hs.ltM,hs.M0,hs.newM,hs.os,hs.tape,hs.output,hs.size,hs.frame,hs.imps,?_,fun b m h=>hs.fresh b m (hown _ _ h),hs.kept⟩,hx⟩
 ·intro b k hk
  obtain⟨k0,h1,h2⟩:=hw b k hk
  have h3:=hs.blk b k0 h1
  rcases h2 with h2|h2|⟨cs,cs',h2,h4,h5⟩|⟨cs,cs',kk,N,l,h2,h4,h5⟩
  ·subst h2;trivial
  ·subst h2;exact yQ.ext hx rfl (fun _ _=>rfl) h3
  ·subst h2 h4
   obtain⟨m,c,T,e1,e2,e3⟩:=h3
   exact⟨m,c,T,e1,e2,(h5 _ e3).ext hx⟩
  ·subst h2 h4
   obtain⟨m,c,T,vs,e1,e2,e3,e4,e5⟩:=h3
   exact⟨m,c,T,vs,e1,e2,(h5 _ e3).ext hx,e4,e5⟩
 ·intro b hb
  have hlt:b<h'.length:=by have:=hs.hlen;omega
  exact⟨_,List.getElem?_eq_getElem hlt,hc b hb _ (List.getElem?_eq_getElem hlt)⟩
theorem Frozen.trans{B:Base}{X Y Z:Ctx}{h h':List Blk}(f:Frozen B X Y h)(g:Frozen B Y Z h'):Frozen B X Z h':=
 ⟨g.h,g.w.trans f.w,g.σ.trans f.σ,g.hs,Move.trans f.ext g.ext⟩
theorem qi1{B:Base}:∀(l:List Nat) {X:Ctx} (_:HSim B X),∃X',Frozen B X X' (qgE X.h l)
 | [],X,hs=>⟨X,rfl,rfl,rfl,hs,Ext.refl X⟩
 | b::l,X,hs=>by
  simp only[qgE]
  split
  ·rename_i cs hb
   obtain⟨d1,d2⟩:=qc0 hs (h':=X.h.set b (.cells (AV.lendL X.h cs))) (by simp) (fun b' k' hk=>by
    by_cases hbb:b'=b
    ·subst hbb
     rw[List.getElem?_set_self (qp hb)] at hk
     exact⟨.cells cs,hb,.inr (.inr (.inl ⟨cs,_,rfl,(Option.some.inj hk).symm,fun vs hv=>qcv hs hv⟩))⟩
    ·rw[List.getElem?_set_ne (Ne.symm hbb)] at hk
     exact⟨k',hk,.inr (.inl rfl)⟩) (fun b' hb' k' hk=>by
    by_cases hbb:b'=b
    ·subst hbb
     rw[List.getElem?_set_self (qp hb)] at hk
     rw[←Option.some.inj hk];rfl
    ·rw[List.getElem?_set_ne (Ne.symm hbb)] at hk
     obtain⟨cs',h1,h2⟩:=hs.impc b' hb'
     rw[h1] at hk
     rw[←Option.some.inj hk];exact h2)
   obtain⟨X2,f⟩:=qi1 l d1
   have f0:Frozen B X { X with h:=X.h.set b (.cells (AV.lendL X.h cs)) } (X.h.set b (.cells (AV.lendL X.h cs))):=⟨rfl,rfl,rfl,d1,d2⟩
   exact⟨X2,f0.trans f⟩
  ·exact qi1 l hs
theorem qqs{B:Base}(args:List AV){X:Ctx}(hs:HSim B X):∃X',Frozen B X X' (q5H X.h args):=by
 unfold q5H
 obtain⟨X1,f1⟩:=q79 (args.flatMap yK) hs
 simp only
 rw[←f1.h]
 obtain⟨X2,f2⟩:=q79 (qaF X1.h (AV.menL (AV.lendL X1.h args))) f1.hs
 rw[←f2.h]
 obtain⟨X3,f3⟩:=qi1 (AV.menL (AV.lendL X1.h args)) f2.hs
 exact⟨X3,(f1.trans f2).trans f3⟩
mutual
theorem AV.ren_of_men(f:Nat→Option Nat):∀av:AV,av.men=[]→av.ren f=av
 | .undef,_|.skip,_|.yld,_|.blit _,_|.bool _,_|.ilit _ _,_|.int _ _,_|.str _,_|.nilp,_|.eptr _ _ _ _,_|.mptr _ _ _ _ _,_|.nils,_|.imm _ _,_|.full _ _,_|.nilf,_=>rfl
 | .ptr _ _,h=>by simp[AV.men] at h
 | .vptr _ _ _,h=>by simp[AV.men] at h
 | .vsub _ _,h=>by simp[AV.men] at h
 | .aptr _ _ _,h=>by simp[AV.men] at h
 | .asub _ _ _ _ _,h=>by simp[AV.men] at h
 | .bagg cs k n l,h=>by simp only[AV.men] at h;simp only[AV.ren,AV.renL_of_men f cs h]
 | .vec _,h=>by simp[AV.men] at h
 | .fn g a b,h=>by
  simp only[AV.men,List.append_eq_nil_iff] at h
  simp only[AV.ren,AV.renL_of_men f a h.1,AV.renL_of_men f b h.2]
 | .agg cs,h=>by simp only[AV.men] at h;simp only[AV.ren,AV.renL_of_men f cs h]
 | .tuple cs,h=>by simp only[AV.men] at h;simp only[AV.ren,AV.renL_of_men f cs h]
theorem AV.renL_of_men(f:Nat→Option Nat):∀l:List AV,AV.menL l=[]→AV.renL f l=l
 | [],_=>rfl
 | a::l,h=>by
  simp only[AV.menL,List.append_eq_nil_iff] at h
  simp only[AV.renL,AV.ren_of_men f a h.1,AV.renL_of_men f l h.2]
end
theorem RepL.noMen{X X':Ctx}{azz:List AV}{vs:List Value}(h:RepL X azz vs)(hm:AV.menL azz=[])(hM:∀n,X.M n→X'.M n)(hw:∀a:Addr,X.M a.block→X'.w.cell? a=X.w.cell? a)(hy:X'.y=X.y:=by rfl):RepL X' azz vs:=by
 have:=h.ren (X':=X') (f:=fun _=>none) ⟨hM,hw,(fun _ _ _ h=>by cases h),hy⟩
 rwa [AV.renL_of_men _ _ hm] at this
theorem Rep.noMen{X X':Ctx}{a:AV}{v:Value}(h:Rep X a v)(hm:a.men=[])(hM:∀n,X.M n→X'.M n)(hw:∀a:Addr,X.M a.block→X'.w.cell? a=X.w.cell? a)(hy:X'.y=X.y:=by rfl):Rep X' a v:=by
 have:=h.ren (X':=X') (f:=fun _=>none) ⟨hM,hw,(fun _ _ _ h=>by cases h),hy⟩
 rwa [AV.ren_of_men _ _ hm] at this
theorem qhI:∀l:List Nat,(qiZ l).Nodup
 | []=>List.nodup_nil
 | a::l=>by
  simp only[qiZ]
  split
  ·exact qhI l
  ·rename_i h
   exact List.nodup_cons.2 ⟨by simpa using h,qhI l⟩
theorem qwU{l:List Nat}{b k:Nat}(h:qyg l b=some k):l[k]?=some b:=by
 simp only[qyg] at h
 split at h
 ·rename_i hlt
  cases h
  rw[List.getElem?_eq_getElem hlt]
  have:=List.findIdx_getElem (p:=(·==b)) (w:=hlt)
  simpa using this
 ·cases h
theorem qji:∀{fp:List Nat} {h:List Blk} {hin:List Blk},q5s h fp=some hin→hin.length=fp.length ∧
  ∀(k:Nat) (b:Nat),fp[k]?=some b→∃cs,h[b]?=some cs∧hin[k]?=some cs∧cs.plain=true
 | [],h,hin,e=>by simp[q5s] at e;subst e;exact⟨rfl,fun k b hk=>by simp at hk⟩
 | b::l,h,hin,e=>by
  simp only[q5s] at e
  split at e
  ·rename_i cs r h1 h2
   split at e
   ·rename_i hm
    cases e
    obtain⟨g1,g2⟩:=qji h2
    refine⟨by simp[g1],fun k b' hk=>?_⟩
    cases k with
    | zero=>simp at hk;subst hk;exact⟨cs,h1,by simp,hm⟩
    | succ k=>
     obtain⟨cs',q1,q2,q3⟩:=g2 k b' (by simpa using hk)
     exact⟨cs',q1,by simpa using q2,q3⟩
   ·cases e
  ·cases e
theorem qla:∀{fp:List Nat} {h hout h2:List Blk},yX h fp hout=some h2→fp.Nodup→(∀b∈fp,b<h.length)→h2.length=h.length∧fp.length≤hout.length ∧
  (∀b,b∉fp→h2[b]?=h[b]?)∧∀(k:Nat) (b:Nat),fp[k]?=some b→∃cs,hout[k]?=some cs∧h2[b]?=some cs∧cs.plain=true
 | [],h,hout,h2,e,_,_=>by
  simp[yX] at e;subst e
  exact⟨rfl,by simp,fun _ _=>rfl,fun k b hk=>by simp at hk⟩
 | b::l,h,hout,h2,e,hn,hl=>by
  cases hout with
  | nil=>simp[yX] at e
  | cons cs r=>
    simp only[yX] at e
    by_cases hm:cs.plain=true
    ·rw[if_pos hm] at e
     cases hp:yX h l r with
     | none=>rw[hp] at e;cases e
     | some h'=>
      rw[hp] at e
      simp only[Option.map_some,Option.some.injEq] at e
      subst e
      obtain⟨hn1,hn2⟩:=List.nodup_cons.1 hn
      obtain⟨g1,g2,g3,g4⟩:=qla hp hn2 (fun x hx=>hl x (List.mem_cons_of_mem _ hx))
      have hb:=hl b List.mem_cons_self
      refine⟨by simp[g1],by simp;omega,fun x hx=>?_,fun k b' hk=>?_⟩
      ·have:x≠b:=fun e=>hx (e▸List.mem_cons_self)
       rw[List.getElem?_set_ne (Ne.symm this)]
       exact g3 x fun h=>hx (List.mem_cons_of_mem _ h)
      ·cases k with
       | zero=>simp at hk;subst hk;exact⟨cs,by simp,by rw[List.getElem?_set_self (by omega)],hm⟩
       | succ k=>
        have hk':l[k]?=some b':=by simpa using hk
        obtain⟨cs',q1,q2,q3⟩:=g4 k b' hk'
        have:b'≠b:=fun e=>hn1 (e▸List.mem_of_getElem? hk')
        exact⟨cs',by simpa using q1,by rw[List.getElem?_set_ne (Ne.symm this)];exact q2,q3⟩
    ·rw[if_neg hm] at e;cases e
theorem qxL{X:Ctx}{b:Nat}{k:Blk}(hp:k.plain=true)(h:yQ X b k):∃n,X.σ b=some n:=by
 cases k with
 | cells cs=>obtain⟨n,_,_,e,_⟩:=h;exact⟨n,e⟩
 | big cs k N l=>obtain⟨n,_,_,_,e,_⟩:=h;exact⟨n,e⟩
 | _=>cases hp
theorem qpq{X X':Ctx}{b b':Nat}{k:Blk}(hp:k.plain=true)(h:yQ X b k)(hσ:X'.σ b'=X.σ b)(hw:∀n,X.σ b=some n→X'.w.heap[n]?=X.w.heap[n]?)
  (hM:∀n,X.M n→X'.M n) (hc:∀a:Addr,X.M a.block→X'.w.cell? a=X.w.cell? a) (hy:X'.y=X.y):yQ X' b' k:=by
 cases k with
 | cells cs=>
  obtain⟨n,c,T,e1,e2,e3⟩:=h
  exact⟨n,c,T,by rw[hσ];exact e1,by rw[hw n e1];exact e2,e3.noMen (by simpa[Blk.plain] using hp) hM hc hy⟩
 | big cs k N l=>
  obtain⟨n,c,T,vs,e1,e2,e3,e4,e5⟩:=h
  exact⟨n,c,T,vs,by rw[hσ];exact e1,by rw[hw n e1];exact e2,e3.noMen (by simpa[Blk.plain] using hp) hM hc hy,e4,e5⟩
 | _=>cases hp
theorem qhX{k:Blk}(hp:k.plain=true):k.solid=true∧k.mut=true∧(∀e sh l,k≠.vec e sh l∧k≠.frz e sh l):=by
 cases k<;>first|(cases hp;done)|exact⟨rfl,rfl,fun _ _ _=>⟨(nomatch ·),(nomatch ·)⟩⟩
theorem qbu{E:Env}{P:Program}{f:FuncId}{G:q1h}(hG:zb P E.glob f G){args:List AV}{st:St}{r:AV×St}{B:Base}{X:Ctx}{a:Act}{vargs:List Value}
  (hsim:Sim E B X st a) (hargs:RepL X args vargs) (h:(q39 G args st).run=some r) :
  Calls P f vargs.toArray X.w fun e w'=>∃v X',e=.returned v∧X'.w=w'∧Rep X' r.1 v∧Sim E B X' r.2 a:=by
 unfold q39 at h
 obtain⟨X1,fz⟩:=qqs args hsim.hs
 rw[←hsim.h] at h
 rw[←fz.h] at h
 simp only at h
 have hs1:=fz.hs
 generalize hfp:qiZ (AV.menL (AV.lendL X1.h args))=fp at h
 have hnd:fp.Nodup:=hfp▸qhI _
 cases htk:q5s X1.h fp with
 | none=>rw[htk] at h;cases h
 | some hin=>
  rw[htk] at h
  obtain⟨r0,h1,h2⟩:=bind_some h
  cases hput:yX X1.h fp r0.2 with
  | none=>rw[hput] at h2;cases h2
  | some hh2=>
   rw[hput] at h2;cases h2
   obtain⟨k1,k2⟩:=qji htk
   have hfpl:∀b∈fp,b<X1.h.length:=by
    intro b hb
    obtain⟨k,hk⟩:=List.getElem?_of_mem hb
    obtain⟨cs,q1,_⟩:=k2 k b hk
    exact qp q1
   obtain⟨p1,p2,p3,p4⟩:=qla hput hnd hfpl
   have hcell:∀(k b:Nat),fp[k]?=some b→∃cs n,X1.h[b]?=some cs∧hin[k]?=some cs∧cs.plain=true∧X1.σ b=some n∧X1.own b n:=by
    intro k b hk
    obtain⟨cs,q1,q2,q3⟩:=k2 k b hk
    obtain⟨n,e1⟩:=qxL q3 (hs1.blk b _ q1)
    exact⟨cs,n,q1,q2,q3,e1,e1,_,q1,(qhX q3).2.1⟩
   let X0:Ctx:={ σ:=fun k=>(fp[k]?).bind X1.σ,h:=hin,w:=X1.w,M:=X1.M,y:=X1.y }
   let B0:Base:={ w0:=X1.w,imps:=(List.range hin.length).map X0.σ,M0:=X1.M,fs:=[] }
   have hget0:∀(k:Nat) (blk:Blk),X0.h[k]?=some blk→∃(b:Nat) (cs:Blk) (n:Nat),fp[k]?=some b∧blk=cs∧X1.h[b]?=some cs∧cs.plain=true∧X1.σ b=some n∧X1.own b n:=by
    intro k blk hk
    have hlt:k<fp.length:=by rw[←k1];exact qp hk
    have hfk:fp[k]?=some fp[k]:=List.getElem?_eq_getElem hlt
    obtain⟨cs,n,q1,q2,q3,q4,q5⟩:=hcell k _ hfk
    have:blk=cs:=by
     have hk':hin[k]?=some blk:=hk
     rw[q2] at hk';exact(Option.some.inj hk').symm
    exact⟨fp[k],cs,n,hfk,this,q1,q3,q4,q5⟩
   have hσ0:∀(k b:Nat),fp[k]?=some b→X0.σ k=X1.σ b:=by intro k b hk;show (fp[k]?).bind X1.σ=_;rw[hk];rfl
   have hown0:∀(k n:Nat),X0.own k n→∃b:Nat,fp[k]?=some b∧X1.own b n:=by
    intro k n ⟨e1,blk,e2,e3⟩
    obtain⟨b,cs,n',q1,q2,q3,q4,q5,q6⟩:=hget0 k blk e2
    rw[hσ0 k b q1,q5] at e1;cases e1
    exact⟨b,q1,q6⟩
   have hs0:HSim B0 X0:=by
    constructor
    ·intro k blk hk
     obtain⟨b,cs,n,q1,q2,q3,q4,q5,q6⟩:=hget0 k blk hk
     subst q2
     exact qpq q4 (hs1.blk b _ q3) (hσ0 k b q1) (fun _ _=>rfl) (fun _ h=>h) (fun _ _=>rfl) rfl
    ·intro k k' n hk hk'
     obtain⟨b,q1,q2⟩:=hown0 k n hk
     obtain⟨b',q3,q4⟩:=hown0 k' n hk'
     have:=hs1.inj b b' n q2 q4
     subst this
     have hlt:=qp q1
     exact(List.getElem?_inj hlt hnd).1 (q1.trans q3.symm)
    ·intro k n hk
     obtain⟨b,_,q2⟩:=hown0 k n hk
     exact hs1.notM b n q2
    ·exact hs1.ltM
    ·exact fun n hn=>hn
    ·exact fun n hn=>.inl hn
    ·rfl
    ·rfl
    ·rfl
    ·exact Nat.le_refl _
    ·intro _ _ _;rfl
    ·intro k hk
     have hk':k<hin.length:=by simpa[B0] using hk
     simp[B0,hk']
    ·intro k hk
     have hk':k<hin.length:=by simpa[B0] using hk
     obtain⟨b,cs,n,q1,q2,q3,q4,q5,q6⟩:=hget0 k _ (List.getElem?_eq_getElem hk')
     exact⟨cs,by rw[←q2];exact List.getElem?_eq_getElem hk',(qhX q4).1⟩
    ·intro k n hk hk2
     obtain⟨b,q1,_⟩:=hown0 k n hk
     have:k<hin.length:=by rw[k1];exact qp q1
     simp[B0] at hk2;omega
    ·intro p hp;cases hp
   have hent:Entry B0 X0:=⟨rfl,rfl,fun _ h=>h⟩
   have hgl:qaI E.glob X0:=by
    intro x hx
    obtain⟨⟨sh,l,i,off,he⟩,hr⟩:=hsim.glob x hx
    refine⟨⟨sh,l,i,off,he⟩,hr.move fz.ext.M fz.ext.w ?_⟩
    have h3:=hr.1.ext fz.ext
    rw[he] at h3 ⊢
    exact h3.noMen rfl (fun _ h=>h) (fun _ _=>rfl)
   have hmove:Move0 X1 X0 (qyg fp):=by
    refine⟨fun _ h=>h,fun _ _=>rfl,fun b k hb hk=>?_,rfl⟩
    have hfk:=qwU hk
    have hnv:∀sh m,¬X0.isVec k sh m:=by
     intro sh m ⟨e,l,q1,_⟩
     rcases q1 with q1|q1<;>obtain⟨_,_,_,_,q2,_,q4,_⟩:=hget0 k _ q1<;>subst q2<;>cases q4
    exact⟨by show k<hin.length;rw[k1];exact qp hfk,hσ0 k b hfk,fun sh m hv=>absurd hv (hnv sh m),fun sh m hv=>absurd hv (hnv sh m)⟩
   have hrep0:RepL X0 (AV.renL (qyg fp) (AV.lendL X1.h args)) vargs:=(qcv hs1 (hargs.ext fz.ext)).ren hmove
   have hcalls:=hG.2 B0 X0 _ vargs r0 hs0 hent hgl hrep0 h1
   have hw1:X0.w=X.w:=fz.w
   rw[hw1] at hcalls
   refine hcalls.mono fun e w' ⟨v,X0',e1,e2,e3,e4,e5,e6⟩=>?_
   have hB0:B0.imps.length=fp.length:=by simp[B0,k1]
   have hσ0':∀(k b:Nat),fp[k]?=some b→X0'.σ k=X1.σ b:=by
    intro k b hk
    have hlt:=qp hk
    have:=e5.imps k (by rw[hB0];exact hlt)
    rw[this,←hσ0 k b hk]
    have hk':k<hin.length:=by omega
    simp[B0,hk']
   let X':Ctx:={ σ:=fun b=>if b<X1.h.length then X1.σ b else X0'.σ (fp.length+(b-X1.h.length)),h:=hh2++(r0.2.drop fp.length).map (Blk.ren (qnW fp X1.h.length)),w:=X0'.w,M:=X0'.M,kept:=X1.kept,y:=X1.y }
   have hM01:∀n,X1.M n→X0'.M n:=fun n hn=>e5.M0 n hn
   have himp:∀n,some n∈B0.imps→∃(k b:Nat),fp[k]?=some b∧X1.own b n:=by
    intro n hn
    obtain⟨k,hk,hk2⟩:=List.mem_map.1 hn
    have hk':k<fp.length:=by rw[←k1];simpa using hk
    have hfk:fp[k]?=some fp[k]:=List.getElem?_eq_getElem hk'
    obtain⟨cs,n',q1,q2,q3,q4,q5⟩:=hcell k _ hfk
    rw[hσ0 k _ hfk,q4] at hk2;cases hk2
    exact⟨k,_,hfk,q5⟩
   have hkeep:∀n,n<X1.w.heap.size→(∀(k b:Nat),fp[k]?=some b→¬X1.own b n)→X0'.w.heap[n]?=X1.w.heap[n]?:=by
    intro n hn hno
    refine e5.frame n hn fun hm=>?_
    obtain⟨k,b,q1,q2⟩:=himp n hm
    exact hno k b q1 q2
   have hh2l:hh2.length=X1.h.length:=p1
   have hget':∀(b:Nat) (blk:Blk),X'.h[b]?=some blk →
     (b<X1.h.length∧b∉fp∧X1.h[b]?=some blk)∨(b<X1.h.length∧∃(k:Nat) (cs:Blk),fp[k]?=some b∧blk=cs∧X0'.h[k]?=some cs∧cs.plain=true) ∨
     (X1.h.length≤b∧∃k0,X0'.h[fp.length+(b-X1.h.length)]?=some k0∧blk=k0.ren (qnW fp X1.h.length)):=by
    intro b blk hb
    have hb':(hh2++(r0.2.drop fp.length).map (Blk.ren (qnW fp X1.h.length)))[b]?=some blk:=hb
    rcases Nat.lt_or_ge b X1.h.length with hlt|hge
    ·rw[List.getElem?_append_left (by omega)] at hb'
     by_cases hbf:b∈fp
     ·obtain⟨k,hk⟩:=List.getElem?_of_mem hbf
      obtain⟨cs,q1,q2,q3⟩:=p4 k b hk
      rw[q2] at hb';cases hb'
      exact .inr (.inl ⟨hlt,k,blk,hk,rfl,by rw[e4];exact q1,q3⟩)
     ·rw[p3 b hbf] at hb'
      exact .inl ⟨hlt,hbf,hb'⟩
    ·rw[List.getElem?_append_right (by omega),List.getElem?_map,List.getElem?_drop] at hb'
     refine .inr (.inr ⟨hge,?_⟩)
     rw[hh2l] at hb'
     cases hq:r0.2[fp.length+(b-X1.h.length)]? with
     | none=>rw[hq] at hb';cases hb'
     | some k0=>
      rw[hq] at hb'
      simp only[Option.map_some,Option.some.injEq] at hb'
      exact⟨k0,by rw[e4];exact hq,hb'.symm⟩
   have hσlt:∀b,b<X1.h.length→X'.σ b=X1.σ b:=fun b hb=>by show (if b<X1.h.length then _ else _)=_;rw[if_pos hb]
   have hσge:∀b,X1.h.length≤b→X'.σ b=X0'.σ (fp.length+(b-X1.h.length)):=fun b hb=>by show (if b<X1.h.length then _ else _)=_;rw[if_neg (by omega)]
   have hnotin:∀b n,b∉fp→X1.own b n→∀(k b':Nat),fp[k]?=some b'→¬X1.own b' n:=by
    intro b n hb ho k b' hk ho'
    exact hb (hs1.inj b b' n ho ho'▸List.mem_of_getElem? hk)
   have hMnot:∀n,X1.M n→∀(k b':Nat),fp[k]?=some b'→¬X1.own b' n:=fun n hn k b' _ ho=>hs1.notM b' n ho hn
   have hsz:=e5.size
   have hback:Move0 X0' X' (qnW fp X1.h.length):=by
    refine⟨fun _ h=>h,fun _ _=>rfl,fun k b hk hf=>?_,e6.symm⟩
    simp only[qnW] at hf
    by_cases hlt:k<fp.length
    ·rw[if_pos hlt] at hf
     have hbl:=hfpl b (List.mem_of_getElem? hf)
     have hnv:∀sh m,¬X'.isVec b sh m:=by
      intro sh m ⟨e,l,q1,_⟩
      rcases q1 with q1|q1<;>rcases hget' b _ q1 with⟨_,h3,_⟩|⟨_,_,_,_,h3,_,h3p⟩|⟨h3,_⟩ <;>
       first|omega|exact absurd (List.mem_of_getElem? hf) h3|(subst h3;cases h3p)
     exact⟨by show b<List.length (_++_);simp;omega,by rw[hσlt b hbl,hσ0' k b hf],fun sh m hv=>absurd hv (hnv sh m),fun sh m hv=>absurd hv (hnv sh m)⟩
    ·rw[if_neg hlt] at hf;cases hf
     have hk2:k<r0.2.length:=by rw[←e4];exact hk
     have hidx:fp.length+(X1.h.length+(k-fp.length)-X1.h.length)=k:=by omega
     refine⟨?_,?_,fun sh m ⟨e,l,q1,q2⟩=>?_,fun sh m _ n hn c T fr hc=>⟨c,T,fr,hc,rfl⟩⟩
     ·show _<List.length (_++_);simp;omega
     ·rw[hσge _ (by omega),hidx]
     ·rcases q1 with q1|q1<;>rcases hget' _ _ q1 with⟨h3,_⟩|⟨h3,_⟩|⟨_,k0,h3,h4⟩<;>first|omega|skip
      ·rw[hidx] at h3
       rcases qkh (.inl h4) with rfl|rfl
       ·exact⟨e,l,.inl h3,q2⟩
       ·exact⟨e,l,.inr h3,q2⟩
      ·rw[hidx] at h3
       rcases qkh (.inr h4) with rfl|rfl
       ·exact⟨e,l,.inl h3,q2⟩
       ·exact⟨e,l,.inr h3,q2⟩
   have hext:Ext X1 X':=by
    refine Move.of hM01 (fun ad had=>World.cell?_of_block (hkeep _ (hs1.ltM _ had) (hMnot _ had))) (fun b b' hb hf=>?_)
    cases hf
    have hvec:∀sh m,X'.isVec b sh m→b∉fp∧X1.isVec b sh m:=by
     intro sh m ⟨e,l,q1,q2⟩
     rcases q1 with q1|q1<;>rcases hget' b _ q1 with⟨_,h3,h4⟩|⟨_,_,_,_,h3,_,h3p⟩|⟨h3,_⟩<;>first|omega|(subst h3;cases h3p;done)|skip
     ·exact⟨h3,e,l,.inl h4,q2⟩
     ·exact⟨h3,e,l,.inr h4,q2⟩
    refine⟨by show _<List.length (_++_);simp;omega,hσlt b hb,fun sh m hv=>(hvec sh m hv).2,fun sh m hv n hn c T fr hc=>⟨c,T,fr,?_,rfl⟩⟩
    obtain⟨h3,e,l,h4,_⟩:=hvec sh m hv
    refine(hkeep n (Array.getElem?_eq_some_iff.1 hc).1 ?_).trans hc
    rcases h4 with h4|h4
    ·exact hnotin b n h3 ⟨hn,_,h4,rfl⟩
    ·rcases hs1.blk b _ h4 with⟨h5,_⟩|⟨n',c',h5,_,_,h6⟩
     ·rw[hn] at h5;cases h5
     ·rw[hn] at h5;cases h5;exact hMnot n h6
   have hown':∀(b n:Nat),X'.own b n→(b<X1.h.length∧X1.own b n)∨(X1.h.length≤b∧X0'.own (fp.length+(b-X1.h.length)) n):=by
    intro b n ⟨q1,blk,q2,q3⟩
    rcases hget' b blk q2 with⟨h3,_,h4⟩|⟨h3,k,cs,h4,h5,_,_⟩|⟨h3,k0,h4,h5⟩
    ·exact .inl ⟨h3,by rw[←hσlt b h3];exact q1,blk,h4,q3⟩
    ·obtain⟨cs',n',w1,_,_,w4,w5⟩:=hcell k b h4
     rw[hσlt b h3,w4] at q1;cases q1
     exact .inl ⟨h3,w5⟩
    ·subst h5
     exact .inr ⟨h3,by rw[←hσge b h3];exact q1,k0,h4,by rwa [Blk.mut_ren] at q3⟩
   have hnewge:∀k n,fp.length≤k→X0'.own k n→X1.w.heap.size≤n:=fun k n hk ho=>e5.fresh k n ho (by rw[hB0];exact hk)
   have hs':HSim B X':=by
    constructor
    ·intro b blk hb
     rcases hget' b blk hb with⟨h3,h4,h5⟩|⟨h3,k,cs,h4,h5,h6,h7⟩|⟨h3,k0,h4,h5⟩
     ·by_cases hd:blk=.dead
      ·subst hd;trivial
      ·refine yQ.ext hext (hσlt b h3) (fun n hn=>hkeep n (hs1.lt h5 hd hn) ?_) (hs1.blk b blk h5)
       by_cases hm1:blk.mut=true
       ·exact hnotin b n h4 ⟨hn,blk,h5,hm1⟩
       ·cases blk with
        | cells=>exact absurd rfl hm1
        | big=>exact absurd rfl hm1
        | vec=>exact absurd rfl hm1
        | dead=>exact absurd rfl hd
        | frz e sh l=>
         rcases hs1.blk b _ h5 with⟨h6,_⟩|⟨n',c',h6,_,_,h7⟩
         ·rw[hn] at h6;cases h6
         ·rw[hn] at h6;cases h6;exact hMnot n h7
     ·subst h5
      exact qpq h7 (e5.blk k _ h6) (by rw[hσlt b h3,←hσ0' k b h4]) (fun _ _=>rfl) (fun _ h=>h) (fun _ _=>rfl) e6.symm
     ·subst h5
      exact yQ.move hback (hσge b h3) (fun _ _=>rfl) (e5.blk _ k0 h4)
    ·intro b b' n h3 h4
     rcases hown' b n h3 with⟨w1,w2⟩|⟨w1,w2⟩<;>rcases hown' b' n h4 with⟨w3,w4⟩|⟨w3,w4⟩
     ·exact hs1.inj b b' n w2 w4
     ·have:=hnewge _ n (by omega) w4
      have:=Ctx.own.lt hs1 w2
      omega
     ·have:=hnewge _ n (by omega) w2
      have:=Ctx.own.lt hs1 w4
      omega
     ·have:=e5.inj _ _ n w2 w4;omega
    ·intro b n h3 h4
     rcases hown' b n h3 with⟨w1,w2⟩|⟨w1,w2⟩
     ·rcases e5.newM n h4 with h5|h5
      ·exact hs1.notM b n w2 h5
      ·have h6:X1.w.heap.size≤n:=h5
       have:=Ctx.own.lt hs1 w2
       omega
     ·exact e5.notM _ n w2 h4
    ·exact e5.ltM
    ·exact fun n hn=>hM01 n (hs1.M0 n hn)
    ·intro n hn
     rcases e5.newM n hn with h5|h5
     ·exact hs1.newM n h5
     ·have h6:X1.w.heap.size≤n:=h5
      have:=hs1.size
      exact .inr (by omega)
    ·exact e5.os.trans hs1.os
    ·exact e5.tape.trans hs1.tape
    ·exact e5.output.trans hs1.output
    ·have h6:X1.w.heap.size≤X0'.w.heap.size:=hsz
     have:=hs1.size
     show B.w0.heap.size≤X0'.w.heap.size
     omega
    ·intro n hn hni
     have h6:=hs1.size
     have:X0'.w.heap[n]?=X1.w.heap[n]?:=by
      refine hkeep n (by omega) fun k b hk ho=>?_
      rcases Nat.lt_or_ge b B.imps.length with hlt|hge
      ·have h7:=hs1.imps b hlt
       rw[ho.1,List.getElem?_eq_getElem hlt] at h7
       simp at h7
       exact hni (h7▸List.getElem_mem hlt)
      ·have:=hs1.fresh b n ho hge;omega
     exact this.trans (hs1.frame n hn hni)
    ·intro b hb
     have:=hs1.hlen
     rw[hσlt b (by omega)];exact hs1.imps b hb
    ·intro b hb
     have:=hs1.hlen
     obtain⟨cs,h3,h3s⟩:=hs1.impc b hb
     by_cases hbf:b∈fp
     ·obtain⟨k,hk⟩:=List.getElem?_of_mem hbf
      obtain⟨cs',q1,q2,q3⟩:=p4 k b hk
      exact⟨cs',by show (_++_)[b]?=_;rw[List.getElem?_append_left (by omega)];exact q2,(qhX q3).1⟩
     ·exact⟨cs,by show (_++_)[b]?=_;rw[List.getElem?_append_left (by omega),p3 b hbf];exact h3,h3s⟩
    ·intro b n h3 h4
     rcases hown' b n h3 with⟨w1,w2⟩|⟨w1,w2⟩
     ·exact hs1.fresh b n w2 h4
     ·have:=hnewge _ n (by omega) w2
      have:=hs1.size
      omega
    ·intro p hp
     obtain⟨q1,q2,q3⟩:=hs1.kept p hp
     refine⟨(hkeep p.1 (Array.getElem?_eq_some_iff.1 q1).1 fun k b _ ho=>?_).trans q1,q2,q3⟩
     obtain⟨c,T,fr,hc⟩:=ho.cells hs1
     rw[hc] at q1
     exact q2 _ _ _ (Option.some.inj q1).symm
   exact⟨v,X',e1,e2,e3.ren hback,(hsim.ext fz.ext hs1).ext hext hs'⟩
end Go.Eng

namespace Go.Eng
def ke(h:List Blk):Tree Res→Prop
 | .leaf r=>r.2=(h,none)
 | .br _ t e=>ke h t∧ke h e
 | .fail=>True
theorem ke.run{h:List Blk}{t:Tree Res}{r:Res}(ht:ke h t)(hr:t.run=some r):r.2=(h,none):=by
 induction t with
 | leaf x=>cases hr;exact ht
 | br b t e iht ihe=>cases b<;>simp only[Tree.run] at hr<;>first|exact iht ht.1 hr|exact ihe ht.2 hr
 | fail=>cases hr
theorem qjy(h:List Blk)(k:IntKind)(f:Int→Int→Int)(l:Bool)(x y:Int):ke h (q66 h k f l x y):=by unfold q66;split<;>rfl
theorem qv9(h:List Blk)(f:Int→Int→Bool)(l:Bool)(x y:Int):ke h (qxv h f l x y):=by unfold qxv;split<;>rfl
theorem qx0(E:Env)(h:List Blk)(t:TypeId)(p:AV):ke h (qe3 E h t p):=by
 unfold qe3
 dsimp only
 repeat' (first|exact rfl|exact trivial|split)
theorem qud(E:Env)(h:List Blk)(t:TypeId)(ps:List (Nat×AV)):ke h (qfz E h t ps):=by
 unfold qfz
 repeat' (first|exact rfl|exact trivial|split)
theorem qvj(E:Env)(h:List Blk)(t:TypeId)(p:AV):ke h (qbT E h t p):=by
 unfold qbT qyH
 repeat' (first|exact qx0 _ _ _ _|exact rfl|exact trivial|exact⟨rfl,trivial⟩|split)
theorem qsX(E:Env)(h:List Blk)(t:TypeId)(ps:List (Nat×AV)):ke h (qaW E h t ps):=by
 unfold qaW
 repeat' (first|exact qud _ _ _ _|exact rfl|exact trivial|split)
theorem qo0(E:Env)(h:List Blk)(s:TypeId)(x:AV)(f:Nat):ke h (q2q E h s x f):=by
 unfold q2q
 repeat' (first|exact rfl|exact trivial|split)
theorem qpX(E:Env)(h:List Blk)(t:TypeId)(cs:List AV)(o:Nat):ke h (qgP E h t cs o):=by
 unfold qgP
 repeat' (first|exact rfl|exact trivial|split)
theorem quj(E:Env)(h:List Blk)(s:TypeId)(x:AV)(f:Nat):ke h (qeL E h s x f):=by
 unfold qeL
 repeat' (first|exact rfl|exact trivial|exact qpX _ _ _ _ _|split)
theorem qj1(h:List Blk)(i:Int)(f:Nat→AV):∀n,ke h (qfx h i f n)
 | 0=>trivial
 | n+1=>⟨rfl,qj1 h i f n⟩
theorem qmu(E:Env)(h:List Blk)(t:TypeId)(x i:AV):ke h (uE E h t x i):=by
 unfold uE
 repeat' (first|exact qj1 _ _ _ _|exact rfl|exact trivial|exact⟨rfl,trivial⟩|split)
theorem qlR(E:Env)(h:List Blk)(t:TypeId)(x i:AV):ke h (q0W E h t x i):=by
 unfold q0W
 repeat' (first|exact qmu _ _ _ _ _|exact rfl|exact trivial|exact⟨rfl,trivial⟩|split)
theorem quK(E:Env)(h:List Blk)(t:TypeId)(x i:AV):ke h (qfo E h t x i):=by
 unfold qfo
 repeat' (first|exact rfl|exact trivial|exact⟨rfl,trivial⟩|exact qpX _ _ _ _ _|split)
theorem qzM(d:TD)(h:List Blk)(op:BinOp)(x y:AV):ke h (qsg d h op x y):=by
 unfold qsg
 repeat' (first|exact rfl|exact trivial|exact qjy _ _ _ _ _ _|exact qv9 _ _ _ _ _|exact⟨rfl,trivial⟩|exact⟨qjy _ _ _ _ _ _,trivial⟩|split)
theorem quA(E:Env)(h:List Blk)(op:BinOp)(t:TypeId)(x y:AV):ke h (qhC E h op t x y):=by
 unfold qhC
 split
 ·unfold qnP
  repeat' (first|exact rfl|exact trivial|split)
 ·exact qzM _ _ _ _ _
theorem qAs(h:List Blk)(op:UnOp)(x:AV):ke h (qCq h op x):=by
 unfold qCq
 repeat' (first|exact rfl|exact trivial|split)
theorem qwY(E:Env)(h:List Blk)(s d:TypeId)(x:AV):ke h (qlc E h s d x):=by
 unfold qlc
 repeat' (first|exact rfl|exact trivial|split)
theorem quq(E:Env)(h:List Blk)(s d:TypeId)(x:AV):ke h (qfe E h s d x):=by
 unfold qfe
 split
 ·split
  ·unfold qmk
   repeat' (first|exact rfl|exact trivial|split)
  ·trivial
 ·exact qwY _ _ _ _ _
theorem qz2(E:Env)(h:List Blk)(ts:List TypeId)(azz:List AV):ke h (qmA E h ts azz):=by
 unfold qmA
 split
 ·unfold qz6
  repeat' (first|exact rfl|exact trivial|split)
 ·trivial
theorem qw2(f:Int→Int→Int)(h:List Blk)(azz:List AV):ke h (qqt f h azz):=by
 unfold qqt
 repeat' (first|exact rfl|exact trivial|split)
theorem quQ{E:Env}{t:TypeId}(ht:(E.ty t).d=.str)(h:List Blk)(x:AV)(lo hi mx:Option AV):ke h (qbe E h t x lo hi mx):=by
 unfold qbe
 rw[ht]
 cases mx with
 | some _=>trivial
 | none=>
  cases x<;>first|trivial|skip
  simp only
  split
  ·exact⟨⟨rfl,trivial⟩,trivial⟩
  ·trivial
theorem qt9{E:Env}{t:TypeId}(ht:(E.ty t).d=.str)(h:List Blk)(x:AV)(lo hi mx:Option AV):ke h (uI E h t x lo hi mx):=by
 unfold uI
 rw[ht]
 exact quQ ht _ _ _ _ _
theorem qsN{E:Env}{t:TypeId}{n:Nat}{e:TypeId}{es:Nat}(ht:(E.ty t).d=.array n e es)(h:List Blk)(x:AV)(lo hi mx:Option AV):ke h (uI E h t x lo hi mx):=by
 unfold uI
 rw[ht]
 simp only
 unfold qAi
 repeat' (first|exact rfl|exact trivial|exact⟨⟨rfl,trivial⟩,trivial⟩|split)
theorem qtf{E:Env}{t:TypeId}{e:TypeId}{es:Nat}(ht:(E.ty t).d=.slice e es)(h:List Blk)(x:AV)(lo hi:Option AV){mx:Option AV}(hm:mx.isSome=true):ke h (uI E h t x lo hi mx):=by
 unfold uI
 rw[ht]
 simp only
 unfold qbe
 cases mx with
 | none=>cases hm
 | some m=>
  simp only
  rw[ht]
  repeat' (first|exact rfl|exact trivial|exact⟨⟨⟨rfl,trivial⟩,trivial⟩,trivial⟩|split)
theorem qpR{E:Env}{h:List Blk}{ev:Operand→AV}{op:Op}(hs:q9s E op=true){r:Res}(hr:(qlu E h ev op).run=some r):r.2=(h,none):=by
 have key:ke h (qlu E h ev op):=by
  unfold qlu
  cases op<;>simp only[q9s] at hs<;>try (cases hs)
  case move=>rfl
  case assign=>rfl
  case pick=>simp only;split<;>first|rfl|exact⟨rfl,rfl⟩|trivial
  case build=>exact qsX _ _ _ _
  case load=>exact qvj _ _ _ _
  case nilCheck=>simp only;repeat' (first|exact rfl|exact⟨rfl,trivial⟩|exact trivial|split)
  case binOp=>exact quA _ _ _ _ _ _
  case unOp=>exact qAs _ _ _
  case convert=>exact quq _ _ _ _ _
  case makeFunc fn _ _=>cases fn<;>first|rfl|trivial
  case slice t x lo hi mx=>
   split at hs
   ·rename_i ht;exact qt9 ht _ _ _ _ _
   ·rename_i ht;exact qsN ht _ _ _ _ _
   ·rename_i ht;exact qtf ht _ _ _ _ (by simpa using hs)
   ·cases hs
  case fieldAddr=>exact qo0 _ _ _ _ _
  case field=>exact quj _ _ _ _ _
  case indexAddr=>exact qlR _ _ _ _ _
  case index=>exact quK _ _ _ _ _
  case extract=>simp only;repeat' (first|exact rfl|exact trivial|split)
  case call c=>
   obtain⟨callee,args,tys⟩:=c
   cases callee with
   | builtin b=>
    cases b<;>simp only at hs<;>try (cases hs)
    ·exact qz2 _ _ _ _
    ·exact qw2 _ _ _
    ·exact qw2 _ _ _
   | value x=>simp only at hs;cases hs
   | invoke x n=>simp only at hs;cases hs
 exact key.run hr
end Go.Eng

namespace Go.Eng
theorem qjo{E:Env}{callS:q2c}{h:List Blk}{f g:Operand→AV}{op:Op}(hfg:∀x∈op.operands.toList,f x=g x):q6C E callS h f op=q6C E callS h g op:=by
 have hmap:∀(l:List Operand),(∀x∈l,x∈op.operands.toList)→l.map f=l.map g:=fun l hl=>List.map_congr_left fun x hx=>hfg x (hl x hx)
 have hop:q9s E op=true→qlu E h f op=qlu E h g op:=by
  intro hst
  unfold qlu
  cases op<;>simp only[q9s] at hst<;>try (cases hst)
  case move x=>simp only;rw[hfg x (by simp[Op.operands])]
  case assign x=>simp only;rw[hfg x (by simp[Op.operands])]
  case pick c a b=>simp only;rw[hfg c (by simp[Op.operands]),hfg a (by simp[Op.operands]),hfg b (by simp[Op.operands])]
  case build t ps=>
   simp only
   have:(ps.toList.map fun p=>(p.1,f p.2))=ps.toList.map fun p=>(p.1,g p.2):=List.map_congr_left fun p hp=>by
    rw[hfg p.2 (by simp only[Op.operands];exact List.mem_map_of_mem hp)]
   rw[this]
  case load t a=>simp only;rw[hfg a (by simp[Op.operands])]
  case nilCheck a=>simp only;rw[hfg a (by simp[Op.operands])]
  case binOp o t x y ty=>simp only;rw[hfg x (by simp[Op.operands]),hfg y (by simp[Op.operands])]
  case unOp o t x=>simp only;rw[hfg x (by simp[Op.operands])]
  case convert s d x=>simp only;rw[hfg x (by simp[Op.operands])]
  case makeFunc fn a b=>
   cases fn<;>simp only
   rw[hmap a.toList (fun x hx=>by simp only[Op.operands,Array.toList_append];exact List.mem_append_left _ hx),hmap b.toList (fun x hx=>by simp only[Op.operands,Array.toList_append];exact List.mem_append_right _ hx)]
  case slice t x lo hi mx=>
   simp only
   have hlo:∀y,lo=some y→f y=g y:=fun y hy=>hfg y (by subst hy;simp[Op.operands])
   have hhi:∀y,hi=some y→f y=g y:=fun y hy=>hfg y (by subst hy;simp[Op.operands])
   have hmx:∀y,mx=some y→f y=g y:=fun y hy=>hfg y (by subst hy;simp[Op.operands])
   have e1:lo.map f=lo.map g:=by
    cases lo with
    | none=>rfl
    | some y=>exact congrArg some (hlo y rfl)
   have e2:hi.map f=hi.map g:=by
    cases hi with
    | none=>rfl
    | some y=>exact congrArg some (hhi y rfl)
   have e3:mx.map f=mx.map g:=by
    cases mx with
    | none=>rfl
    | some y=>exact congrArg some (hmx y rfl)
   rw[e1,e2,e3,hfg x (by simp[Op.operands])]
  case fieldAddr s x i=>simp only;rw[hfg x (by simp[Op.operands])]
  case field s x i=>simp only;rw[hfg x (by simp[Op.operands])]
  case indexAddr t x i=>simp only;rw[hfg x (by simp[Op.operands]),hfg i (by simp[Op.operands])]
  case index t x i=>simp only;rw[hfg x (by simp[Op.operands]),hfg i (by simp[Op.operands])]
  case extract x i=>simp only;rw[hfg x (by simp[Op.operands])]
  case call c=>
   obtain⟨callee,args,tys⟩:=c
   cases callee with
   | builtin b=>
    simp only
    rw[hmap args.toList (fun x hx=>by simpa[Op.operands,Call.operands] using hx)]
   | value x=>simp only at hst;cases hst
   | invoke x n=>simp only at hst;cases hst
 unfold q6C
 split
 ·rename_i x args tys
  rw[hfg x (by simp[Op.operands,Call.operands]),hmap args.toList (fun y hy=>by simp only[Op.operands,Call.operands,Array.toList_append];exact List.mem_append_right _ hy)]
 ·split
  ·rename_i hst;rw[hop hst]
  ·rfl
def qbS(E:Env)(P:Program)(callS:List Blk→q2c):Prop:=
 ∀(f:FuncId) (args:List AV) (st:St) (v:AV) (B:Base) (X:Ctx) (a:Act) (vargs:List Value),Sim E B X st a→RepL X args vargs→(callS st.h f args).run=some v →
  (∀w,(callFunc f vargs.toArray).run P w=.ok (.enter f vargs.toArray) w) ∧
  Calls P f vargs.toArray X.w fun e w'=>∃u X',e=.returned u∧X'.w=w'∧Rep X' v u∧Sim E B X' st a
def Blk.isFrzB:Blk→Bool
 | .frz _ _ _=>true
 | _=>false
def q2k(E:Env)(callS:List Blk→q2c):Prop:=∀(h h':List Blk) (f:FuncId) (args:List AV),(qgY E f).isSome=true→(∀b,b∈AV.menL args→h'[b]?=h[b]?)→callS h' f args=callS h f args
def Env.specs(E:Env)(P:Program):Prop:=∀x,x∈E.spec→zb P E.glob x.1 x.2
theorem qgN:∀(l:List Nat) (h:List Blk),l.all (qqx h)=true→zJ h l=h
 | [],_,_=>rfl
 | b::l,h,hl=>by
  simp only[List.all_cons,Bool.and_eq_true] at hl
  have:wE h b=h:=by
   unfold wE
   have:=hl.1
   unfold qqx at this
   split at this
   ·rename_i hb;rw[hb]
   ·cases this
  simp only[zJ,this]
  exact qgN l h hl.2
theorem qqP{E:Env}{P:Program}(hS:E.specs P):qbS E P (q90 E):=by
 intro f args st v B X a vargs hsim hargs h
 unfold q90 at h
 cases hf:E.spec.find? fun x=>x.1==f with
 | none=>rw[hf] at h;cases h
 | some G=>
  rw[hf] at h
  have hG:=hS G (List.mem_of_find?_eq_some hf)
  have hfe:G.1=f:=by simpa using List.find?_some hf
  simp only at h
  split at h
  ·rename_i hc
   obtain⟨r,h1,h2⟩:=bind_some h
   have hr2:r.2=[]∧(r.1.men)=[]∧v=r.1:=by
    split at h2
    ·rename_i he
     split at h2
     ·rename_i hm;cases h2;exact⟨he,by simpa using hm,rfl⟩
     ·cases h2
    ·cases h2
   obtain⟨q1,q2,rfl⟩:=hr2
   have hfz:zJ st.h (args.flatMap yK)=st.h:=qgN _ _ hc.1
   have hmen:AV.menL (AV.lendL st.h args)=[]:=by simpa using hc.2
   have hcs:(q39 G.2 args st).run=some (r.1,st):=by
    unfold q39
    have hpr:q5H st.h args=st.h:=by
     unfold q5H
     simp only[hfz,hmen,qaF,zJ,qgE]
    simp only[hpr,hmen,qiZ,q5s]
    rw[AV.renL_of_men _ _ hmen,Tree.run_bind,h1]
    simp only[Option.bind_some,yX,q1,List.length_nil,List.drop_nil,List.map_nil,List.append_nil]
    rw[AV.ren_of_men _ _ q2]
    rfl
   rw[hfe] at hG
   refine⟨hG.1 _,?_⟩
   exact qbu hG hsim hargs hcs
  ·cases h
theorem qjr{E:Env}{P:Program}(hE:E.tok P){callS:List Blk→q2c}(hc:qbS E P callS){B:Base}{X:Ctx}{st:St}{a:Act}(hs:Sim E B X st a){o:Oper}{av:AV}
  (h:(q6C E (callS st.h) st.h (E.opd st.t) o.op).run=some av) {next:Act→World→Prop} {Q:Exit→Act→World→Prop}
  (hq:∀X' v,Sim E B X' st a→Rep X' av v→next (a.put o.dst v) X'.w):o.wp P a X.w next Q:=by
 unfold q6C at h
 split at h
 ·rename_i x args tys hop
  cases hx:E.opd st.t x with
  | fn f first caps=>
   rw[hx] at h
   have hv:=q7A hs x
   rw[hx] at hv
   generalize hev:a.eval x=vx at hv
   cases hv with
   | fn _ _ _ vf vc q1 q2=>
    have hargs:=q5Z hs args.toList
    have hall:RepL X (first++args.toList.map (E.opd st.t)++caps) (vf++args.toList.map a.eval++vc):=(q1.append hargs).append q2
    obtain⟨g1,g2⟩:=hc f _ st av B X a _ hs hall h
    unfold Oper.wp
    have hrun:(execOp a.eval o).run P X.w=.ok (.enter f (vf++args.toList.map a.eval++vc).toArray) X.w:=by
     simp only[execOp,hop,resolve,hev,Deferred.ofValue,Sem.run_bind,Sem.run_pure,Result.andThen_ok,invoke]
     have:vf.toArray++args.map a.eval++vc.toArray=(vf++args.toList.map a.eval++vc).toArray:=by
      apply Array.ext';simp
     rw[this]
     exact g1 X.w
    rw[hrun]
    refine g2.mono fun e w' ⟨v,X',e1,e2,e3,e4⟩=>?_
    subst e1 e2
    exact hq X' _ e4 e3
  | _=>rw[hx] at h;cases h
 ·split at h
  ·rename_i hst
   obtain⟨r,h1,h2⟩:=bind_some h
   cases h2
   have hr2:=qpR hst h1
   obtain⟨nx,v,X',g1,g2,g3,g4,g5⟩:=qju hE hs h1
   have hrn:r.2.2=none:=by rw[hr2]
   rw[hrn] at g5
   have hXh:X'.h=st.h:=by rw[g5.1,hr2]
   have hs':Sim E B X' st a:=by
    have:=hs.ext g5.2 g4
    rw[hXh] at this
    exact this
   unfold Oper.wp
   rw[g1]
   rcases g2 with rfl|⟨rfl,rfl⟩
   ·exact hq X' _ hs' g3
   ·exact hq X' _ hs' g3
  ·cases h
theorem Sim.drawn{E:Env}{B:Base}{X:Ctx}{st:St}{a:Act}(hs:Sim E B X st a)(n:Nat):Sim E B { X with w:={ X.w with drawn:=n } } st a:=by
 have hx:Ext X { X with w:={ X.w with drawn:=n } }:=
  Move.of (fun _ h=>h) (fun _ _=>rfl) (fun b b' hb h=>by cases h;exact⟨hb,rfl,fun _ _ h=>h,fun _ _ _ _ _ c T fr h=>⟨c,T,fr,h,rfl⟩⟩)
 have h0:=hs.hs
 have hs':HSim B { X with w:={ X.w with drawn:=n } }:=
  ⟨fun b k hk=>yQ.ext hx rfl (fun _ _=>rfl) (h0.blk b k hk),h0.inj,h0.notM,h0.ltM,h0.M0,h0.newM,h0.os,h0.tape,h0.output,h0.size,h0.frame,h0.imps,h0.impc,h0.fresh,h0.kept⟩
 have:=hs.ext hx hs'
 have e:({ st with h:=X.h }:St)=st:=by rw[hs.h]
 exact e▸this
end Go.Eng

namespace Go.Eng
def qs5(all:Array Oper)(k:Nat)(v:AV):AV:=if qut all k then (match v with|.bool b=>.blit b|v=>v) else v
theorem qjj{X:Ctx}{all:Array Oper}{k:Nat}{v:AV}{u:Value}(h:Rep X v u):Rep X (qs5 all k v) u:=by
 unfold qs5
 split
 ·cases h with
  | bool b=>exact .blit b
  | undef=>exact .undef _
  | skip=>exact .skip
  | yld=>exact .yld
  | blit b=>exact .blit b
  | ilit k n=>exact .ilit k n
  | int k n=>exact .int k n
  | str s=>exact .str s
  | nilp=>exact .nilp
  | ptr b off n h1 h2=>exact .ptr b off n h1 h2
  | eptr sh l i off a h1 h2 h3 h4=>exact .eptr sh l i off a h1 h2 h3 h4
  | mnil sh l i off=>exact .mnil sh l i off
  | mptr sh l i off a h1 h2 h3 h4=>exact .mptr sh l i off a h1 h2 h3 h4
  | vptr b i off n k h1 h2 h3=>exact .vptr b i off n k h1 h2 h3
  | vsub b i n k m c h1 h2 h3=>exact .vsub b i n k m c h1 h2 h3
  | aptr b o i n h1 h2 h3=>exact .aptr b o i n h1 h2 h3
  | asub b o N i m n k c h1 h2 h3 h4 h5 h6=>exact .asub b o N i m n k c h1 h2 h3 h4 h5 h6
  | nils=>exact .nils
  | imm sh l _ h=>exact .imm sh l _ h
  | full sh l p n h=>exact .full sh l p n h
  | vec b p n c h1 h2=>exact .vec b p n c h1 h2
  | nilf=>exact .nilf
  | fn f a b c d h1 h2=>exact .fn f a b c d h1 h2
  | agg cs vs h=>exact .agg cs vs h
  | tuple cs vs h=>exact .tuple cs vs h
  | bagg cs k n l vs h hl=>exact .bagg cs k n l vs h hl
 ·exact h
theorem qsM{all:Array Oper}{k:Nat}{o:Oper}{st st':St}{v:AV}(h:(qmz all k o { st with t:=qeu st.t o.dst v }).run=some st') :
  st'={ st with t:=qeu st.t o.dst (qs5 all k v) }:=by
 unfold qmz at h
 unfold qs5
 by_cases hg:qut all k=true
 ·rw[if_pos hg] at h ⊢
  cases hd:o.dst with
  | none=>rw[hd] at h;cases h;rfl
  | some d=>
   rw[hd] at h
   simp only[qeu] at h ⊢
   rcases Nat.lt_or_ge d st.t.length with hlt|hge
   ·rw[List.getElem?_set_self hlt] at h
    cases v<;>simp only at h<;>try (cases h;rfl)
    rename_i b
    cases b<;>(cases h;simp[List.set_set])
   ·rw[List.set_eq_of_length_le hge] at h
    rw[List.getElem?_eq_none hge] at h
    cases h
    rw[List.set_eq_of_length_le hge]
 ·rw[if_neg hg] at h ⊢
  cases h;rfl
def q56(V:Nat→AV):Nat→List Oper→List AV→List AV
 | _,[],t=>t
 | k,o::rest,t=>q56 V (k+1) rest (qeu t o.dst (V k))
theorem qhP{V W:Nat→AV}:∀(l:List Oper) (k:Nat) (t:List AV),(∀j,k≤j→V j=W j)→q56 V k l t=q56 W k l t
 | [],_,_,_=>rfl
 | o::l,k,t,h=>by
  simp only[q56]
  rw[h k (Nat.le_refl _)]
  exact qhP l (k+1) _ fun j hj=>h j (by omega)
section
variable (dst:Nat→Option Tmp) (V:Nat→AV) (T0:List AV)
def TLp(L:Nat→Bool):Nat→List AV
 | 0=>T0
 | m+1=>if L m then qeu (TLp L m) (dst m) (V m) else TLp L m
variable {dst V T0}
theorem qu3(t:List AV)(d:Option Tmp)(v:AV):(qeu t d v).length=t.length:=by cases d<;>simp[qeu]
theorem qbY(L:Nat→Bool):∀m,(TLp dst V T0 L m).length=T0.length
 | 0=>rfl
 | m+1=>by simp only[TLp];split<;>simp[qu3,qbY L m]
theorem q8M{L:Nat→Bool}{t:Tmp}:∀m,(∀j,j<m→L j=true→dst j≠some t)→(TLp dst V T0 L m)[t]?=T0[t]?
 | 0,_=>rfl
 | m+1,h=>by
  simp only[TLp]
  split
  ·rename_i hl
   have:=h m (Nat.lt_succ_self m) hl
   cases hd:dst m with
   | none=>exact q8M m fun j hj=>h j (by omega)
   | some d=>
    rw[hd] at this
    simp only[qeu]
    rw[List.getElem?_set_ne (fun e=>this (by rw[e]))]
    exact q8M m fun j hj=>h j (by omega)
  ·exact q8M m fun j hj=>h j (by omega)
theorem qg3{L:Nat→Bool}{t:Tmp}{j:Nat}(hj:L j=true)(hd:dst j=some t):∀m,j<m→(∀k,k<m→k≠j→dst k≠some t) →
  (TLp dst V T0 L m)[t]?=if t<T0.length then some (V j) else none
 | 0,h,_=>by omega
 | m+1,h,hu=>by
  by_cases hm:j=m
  ·subst hm
   simp only[TLp,hj,if_true,hd,qeu]
   rw[List.getElem?_set]
   simp[qbY]
  ·simp only[TLp]
   split
   ·have:=hu m (Nat.lt_succ_self m) (fun e=>hm e.symm)
    cases hdm:dst m with
    | none=>exact qg3 hj hd m (by omega) fun k hk=>hu k (by omega)
    | some d=>
     rw[hdm] at this
     simp only[qeu]
     rw[List.getElem?_set_ne (fun e=>this (by rw[e]))]
     exact qg3 hj hd m (by omega) fun k hk=>hu k (by omega)
   ·exact qg3 hj hd m (by omega) fun k hk=>hu k (by omega)
theorem qzQ{L:Nat→Bool}{i n:Nat}(hi:i<n)(hL:L i=false)(hu:∀k,k<n→k≠i→∀t,dst i=some t→dst k≠some t) :
  TLp dst V T0 (fun j=>if j=i then true else L j) n=qeu (TLp dst V T0 L n) (dst i) (V i):=by
 apply List.ext_getElem?
 intro t
 cases hd:dst i with
 | none=>
  simp only[qeu]
  by_cases hex:∃j,j<n∧L j=true∧dst j=some t
  ·
   clear hex
   have:∀m,m≤n→TLp dst V T0 (fun j=>if j=i then true else L j) m=TLp dst V T0 L m:=by
    intro m
    induction m with
    | zero=>intro _;rfl
    | succ m ih=>
     intro hm
     simp only[TLp]
     by_cases hmi:m=i
     ·subst hmi;rw[ih (by omega)];simp[hL,hd,qeu]
     ·rw[ih (by omega)];simp[hmi]
   rw[this n (Nat.le_refl _)]
  ·have h1:∀j,j<n→L j=true→dst j≠some t:=fun j hj hl he=>hex ⟨j,hj,hl,he⟩
   rw[q8M n h1]
   refine q8M n fun j hj hl he=>?_
   by_cases hji:j=i
   ·subst hji;rw[hd] at he;cases he
   ·simp[hji] at hl;exact h1 j hj hl he
 | some d=>
  simp only[qeu]
  by_cases htd:t=d
  ·subst htd
   rw[qg3 (j:=i) (by simp) hd n hi (fun k hk hki=>hu k hk hki t hd),List.getElem?_set]
   simp[qbY]
  ·rw[List.getElem?_set_ne (fun e=>htd e.symm)]
   have:∀m,m≤n→(TLp dst V T0 (fun j=>if j=i then true else L j) m)[t]?=(TLp dst V T0 L m)[t]?:=by
    intro m
    induction m with
    | zero=>intro _;rfl
    | succ m ih=>
     intro hm
     simp only[TLp]
     by_cases hmi:m=i
     ·subst hmi
      simp only[if_true,hL,Bool.false_eq_true,if_false,hd,qeu]
      rw[List.getElem?_set_ne (fun e=>htd e.symm)]
      exact ih (by omega)
     ·simp only[hmi,if_false]
      split
      ·cases hdm:dst m with
       | none=>exact ih (by omega)
       | some d'=>
        simp only[qeu,List.getElem?_set]
        rw[qbY,qbY,ih (by omega)]
      ·exact ih (by omega)
   exact this n (Nat.le_refl _)
end
theorem qwr{V:Nat→AV}{l:List Oper}{T0:List AV}:∀j,j≤l.length→TLp (fun i=>(l[i]?).bind (·.dst)) V T0 (fun _=>true) j=q56 V 0 (l.take j) T0:=by
 have app:∀(l:List Oper) (o:Oper) (k:Nat) (t:List AV),q56 V k (l++[o]) t=qeu (q56 V k l t) o.dst (V (k+l.length)):=by
  intro l
  induction l with
  | nil=>intro o k t;simp[q56]
  | cons a l ih=>intro o k t;simp only[List.cons_append,q56,ih];congr 2;simp;omega
 intro j
 induction j with
 | zero=>intro _;simp[TLp,q56]
 | succ j ih=>
  intro hj
  have hlt:j<l.length:=by omega
  have ht:l.take (j+1)=l.take j++[l[j]]:=by rw[List.take_succ_eq_append_getElem hlt]
  rw[ht,app,←ih (by omega)]
  simp only[TLp,if_true]
  rw[List.getElem?_eq_getElem hlt]
  simp only[Option.bind_some]
  congr 2
  simp;omega
end Go.Eng

namespace Go.Eng
def quS(acc:List Nat)(o:Oper):Nat:=o.after.toList.foldl (fun s e=>if Region.binds .any e then s ||| 2^e.on ||| acc.getD e.on 0 else s) 0
theorem qoe(acc:List Nat)(x:Nat):∀(es:List Edge) (s:Nat),(es.foldl (fun s e=>if Region.binds .any e then s ||| 2^e.on ||| acc.getD e.on 0 else s) s).testBit x=true →
  s.testBit x=true∨∃e,e∈es∧Region.binds .any e=true∧(x=e.on∨(acc.getD e.on 0).testBit x=true)
 | [],s,h=>.inl h
 | e::es,s,h=>by
  simp only[List.foldl_cons] at h
  rcases qoe acc x es _ h with h1|⟨e',h1,h2,h3⟩
  ·split at h1
   ·rename_i hb
    rw[Nat.testBit_or,Nat.testBit_or,Bool.or_eq_true,Bool.or_eq_true] at h1
    rcases h1 with (h1|h1)|h1
    ·exact .inl h1
    ·rw[Nat.testBit_two_pow] at h1
     have h2:e.on=x:=by simpa using h1
     exact .inr ⟨e,List.mem_cons_self,hb,.inl h2.symm⟩
    ·exact .inr ⟨e,List.mem_cons_self,hb,.inr h1⟩
   ·exact .inl h1
  ·exact .inr ⟨e',List.mem_cons_of_mem _ h1,h2,h3⟩
def qCB(ops:List Oper)(acc:List Nat):Prop:=
 ∀i x,(acc.getD i 0).testBit x=true→∃o e,ops[i]?=some o∧e∈o.after.toList∧Region.binds .any e=true∧(x=e.on∨(acc.getD e.on 0).testBit x=true)
theorem qpM:∀(rest done:List Oper) (acc:List Nat),acc.length=done.length→qCB done acc→qCB (done++rest) (rest.foldl (fun acc o=>acc++[quS acc o]) acc)
 | [],done,acc,_,h=>by simpa using h
 | o::rest,done,acc,hl,h=>by
  simp only[List.foldl_cons]
  have:=qpM rest (done++[o]) (acc++[quS acc o]) (by simp[hl]) ?_
  ·simpa using this
  ·intro i x hb
   have grow:∀(j x:Nat),(acc.getD j 0).testBit x=true→((acc++[quS acc o]).getD j 0).testBit x=true:=by
    intro j x hj
    rcases Nat.lt_or_ge j acc.length with hlt|hge
    ·rw[List.getD_eq_getElem?_getD,List.getElem?_append_left hlt,←List.getD_eq_getElem?_getD];exact hj
    ·rw[List.getD_eq_getElem?_getD,List.getElem?_eq_none hge] at hj;simp at hj
   rcases Nat.lt_or_ge i acc.length with hlt|hge
   ·rw[List.getD_eq_getElem?_getD,List.getElem?_append_left hlt,←List.getD_eq_getElem?_getD] at hb
    obtain⟨o',e,h1,h2,h3,h4⟩:=h i x hb
    refine⟨o',e,by rw[List.getElem?_append_left (by omega)];exact h1,h2,h3,?_⟩
    exact h4.elim .inl fun q=>.inr (grow _ _ q)
   ·rcases Nat.eq_or_lt_of_le hge with he|hgt
    ·rw[List.getD_eq_getElem?_getD,←he,List.getElem?_append_right (Nat.le_refl _)] at hb
     simp only[Nat.sub_self,List.getElem?_cons_zero,Option.getD_some] at hb
     rcases qoe acc x _ _ hb with h1|⟨e,h1,h2,h3⟩
     ·simp at h1
     ·exact⟨o,e,by rw[←he,List.getElem?_append_right (by omega)];simp[hl],h1,h2,h3.elim .inl fun q=>.inr (grow _ _ q)⟩
    ·rw[List.getD_eq_getElem?_getD,List.getElem?_eq_none (by simp;omega)] at hb
     simp at hb
theorem qrA(ops:List Oper):qCB ops (q31 ops):=by
 have:=qpM ops [] [] rfl (fun i x h=>by simp at h)
 exact this
structure DrawOk (all:Array Oper):Prop where
 edge:∀i o,all[i]?=some o→∀e,e∈o.after.toList→Region.binds .any e=true→e.on<i
 dst:∀i j oi oj,all[i]?=some oi→all[j]?=some oj→j≠i→∀t,oj.dst=some t→oi.dst≠some t ∧
  (t∈qt2 all oi→((q31 all.toList).getD i 0).testBit j=true∨((q31 all.toList).getD j 0).testBit i=true)
theorem qvI{all:Array Oper}(h:qse all=true):DrawOk all:=by
 unfold qse at h
 simp only[List.all_eq_true,List.mem_range] at h
 have main:∀i oi,all[i]?=some oi→(∀e,e∈oi.after.toList→Region.binds .any e=true→e.on<i) ∧
   ∀j oj,all[j]?=some oj→j≠i→∀t,oj.dst=some t→oi.dst≠some t∧(t∈qt2 all oi→((q31 all.toList).getD i 0).testBit j=true∨((q31 all.toList).getD j 0).testBit i=true):=by
  intro i oi hi
  have hi':all.toList[i]?=some oi:=by simpa using hi
  have:=h i (qp hi')
  rw[hi'] at this
  simp only[Bool.and_eq_true,List.all_eq_true,List.mem_range,Bool.or_eq_true,beq_iff_eq] at this
  obtain⟨h1,h2⟩:=this
  refine⟨fun e he hb=>?_,fun j oj hj hne t ht=>?_⟩
  ·have:=h1 e he
   rw[hb] at this
   simpa using this
  ·have hj':all.toList[j]?=some oj:=by simpa using hj
   have:=(h2 j (qp hj')).resolve_left hne
   rw[hj'] at this
   simp only[ht,Bool.and_eq_true,bne_iff_ne,ne_eq,Bool.or_eq_true,Bool.not_eq_true',List.contains_eq_mem,decide_eq_false_iff_not] at this
   refine⟨this.1,fun hm=>?_⟩
   rcases this.2 with (h3|h3)|h3
   ·exact absurd hm h3
   ·exact .inl h3
   ·exact .inr h3
 exact⟨fun i o hi=>(main i o hi).1,fun i j oi oj hi hj hne=>(main i oi hi).2 j oj hj hne⟩
theorem qw3{all:Array Oper}(hd:DrawOk all):∀(i x:Nat),((q31 all.toList).getD i 0).testBit x=true→x<i:=by
 intro i
 induction i using Nat.strongRecOn with
 | _ i ih=>
  intro x hx
  obtain⟨o,e,h1,h2,h3,h4⟩:=qrA all.toList i x hx
  have he:=hd.edge i o (by simpa using h1) e h2 h3
  rcases h4 with rfl|h4
  ·exact he
  ·have:=ih e.on he x h4;omega
def qbX(all:Array Oper)(L:Nat→Bool):Prop:=∀i o,all[i]?=some o→L i=true→∀e,e∈o.after.toList→Region.binds .any e=true→L e.on=true
theorem qgH{all:Array Oper}(hd:DrawOk all){L:Nat→Bool}(hc:qbX all L):∀(i x:Nat),L i=true→((q31 all.toList).getD i 0).testBit x=true→L x=true:=by
 intro i
 induction i using Nat.strongRecOn with
 | _ i ih=>
  intro x hi hx
  obtain⟨o,e,h1,h2,h3,h4⟩:=qrA all.toList i x hx
  have ho:all[i]?=some o:=by simpa using h1
  have he:=hc i o ho hi e h2 h3
  rcases h4 with rfl|h4
  ·exact he
  ·exact ih e.on (hd.edge i o ho e h2 h3) x he h4
section
variable {E:Env} {callS:q2c} {h:List Blk} {all:Array Oper} {V:Nat→AV} {T0:List AV}
def qU(all:Array Oper):Nat→Option Tmp:=fun i=>(all[i]?).bind (·.dst)
theorem qzC(hd:DrawOk all){L:Nat→Bool}(hc:qbX all L){n i:Nat}{o:Oper}(hi:all[i]?=some o)(hin:i≤n)(hL:L i=false)
  (hedge:∀e,e∈o.after.toList→Region.binds .any e=true→L e.on=true) {t:Tmp} (ht:t∈qt2 all o) :
  (TLp (qU all) V T0 L n)[t]?=(TLp (qU all) V T0 (fun _=>true) i)[t]?:=by
 by_cases hex:∃j oj,all[j]?=some oj∧j≠i∧oj.dst=some t
 ·obtain⟨j,oj,hj,hne,hjt⟩:=hex
  have hdj:qU all j=some t:=by simp[qU,hj,hjt]
  have huniq:∀m k,k<m→k≠j→qU all k≠some t:=by
   intro m k _ hkj he
   unfold qU at he
   cases hk:all[k]? with
   | none=>rw[hk] at he;cases he
   | some ok=>
    rw[hk] at he
    simp only[Option.bind_some] at he
    exact(hd.dst j k oj ok hj hk hkj t he).1 hjt
  rcases (hd.dst i j o oj hi hj hne t hjt).2 ht with ha|ha
  ·
   have hji:=qw3 hd i j ha
   have hLj:L j=true:=by
    obtain⟨o',e,h1,h2,h3,h4⟩:=qrA all.toList i j ha
    have:o'=o:=by
     have h1':all[i]?=some o':=by simpa using h1
     rw[hi] at h1';exact(Option.some.inj h1').symm
    subst this
    have he:=hedge e h2 h3
    rcases h4 with rfl|h4
    ·exact he
    ·exact qgH hd hc _ _ he h4
   rw[qg3 hLj hdj n (by omega) (huniq n),qg3 rfl hdj i hji (huniq i)]
  ·
   have hij:=qw3 hd j i ha
   have hLj:L j=false:=by
    cases hLj:L j with
    | false=>rfl
    | true=>have:=qgH hd hc _ _ hLj ha;rw[hL] at this;cases this
   have e1:(TLp (qU all) V T0 L n)[t]?=T0[t]?:=q8M n fun k hk hLk he=>by
    by_cases hkj:k=j
    ·subst hkj;rw[hLj] at hLk;cases hLk
    ·exact huniq n k hk hkj he
   have e2:(TLp (qU all) V T0 (fun _=>true) i)[t]?=T0[t]?:=q8M i fun k hk _ he=>by
    by_cases hkj:k=j
    ·omega
    ·exact huniq i k hk hkj he
   rw[e1,e2]
 ·have hno:∀k,k≠i→qU all k≠some t:=by
   intro k hki he
   unfold qU at he
   cases hk:all[k]? with
   | none=>rw[hk] at he;cases he
   | some ok=>
    rw[hk] at he
    exact hex ⟨k,ok,hk,hki,he⟩
  have e1:(TLp (qU all) V T0 L n)[t]?=T0[t]?:=q8M n fun k hk hLk=>hno k (fun e=>by subst e;rw[hL] at hLk;cases hLk)
  have e2:(TLp (qU all) V T0 (fun _=>true) i)[t]?=T0[t]?:=q8M i fun k hk _=>hno k (by omega)
  rw[e1,e2]
end
def unl(listed:Array Bool):Nat→Nat
 | 0=>0
 | m+1=>unl listed m+if listed.getD m false then 0 else 1
theorem qmf{listed:Array Bool}:∀{m:Nat},unl listed m=0→∀i,i<m→listed.getD i false=true
 | 0,_,i,hi=>by omega
 | m+1,h,i,hi=>by
  simp only[unl] at h
  by_cases him:i=m
  ·subst him
   cases hl:listed.getD i false with
   | true=>rfl
   | false=>rw[hl] at h;simp at h
  ·exact qmf (Nat.add_eq_zero_iff.1 h).1 i (by omega)
theorem vL{listed:Array Bool}{i j:Nat}(hi:i<listed.size):(listed.setIfInBounds i true).getD j false=if j=i then true else listed.getD j false:=by
 by_cases h:j=i
 ·subst h;simp[Array.getD_eq_getD_getElem?,hi]
 ·simp[Array.getD_eq_getD_getElem?,h,Array.getElem?_setIfInBounds_ne (Ne.symm h)]
theorem qrj{listed:Array Bool}{i:Nat}(hi:i<listed.size)(hl:listed.getD i false=false):∀m,(m≤i→unl (listed.setIfInBounds i true) m=unl listed m)∧(i<m→unl (listed.setIfInBounds i true) m+1=unl listed m)
 | 0=>⟨fun _=>rfl,fun h=>by omega⟩
 | m+1=>by
  obtain⟨h1,h2⟩:=qrj hi hl m
  refine⟨fun h=>?_,fun h=>?_⟩
  ·simp only[unl]
   rw[h1 (by omega),vL hi,if_neg (show ¬m=i by omega)]
  ·simp only[unl]
   rw[vL hi]
   by_cases him:m=i
   ·subst him
    rw[h1 (Nat.le_refl _),if_pos rfl,hl];simp
   ·rw[if_neg him]
    have:=h2 (by omega)
    omega
end Go.Eng

namespace Go.Eng
def q0i(h':List Blk):Tree Res→Tree Res→Prop
 | .leaf r,t'=>t'=.leaf (r.1,h',none)
 | .br b t e,.br b' t' e'=>b=b'∧q0i h' t t'∧q0i h' e e'
 | .fail,_=>True
 | .br _ _ _,_=>False
theorem q0i.run{h':List Blk}:∀{t t':Tree Res} {r:Res},q0i h' t t'→t.run=some r→t'.run=some (r.1,h',none)
 | .leaf _,t',_,hm,hr=>by cases hr;simp only[q0i] at hm;subst hm;rfl
 | .fail,_,_,_,hr=>by cases hr
 | .br b t e,.br b' t' e',r,hm,hr=>by
  simp only[q0i] at hm
  obtain⟨rfl,h1,h2⟩:=hm
  cases b<;>simp only[Tree.run] at hr ⊢
  ·exact q0i.run h2 hr
  ·exact q0i.run h1 hr
 | .br _ _ _,.leaf _,_,hm,_=>by cases hm
 | .br _ _ _,.fail,_,hm,_=>by cases hm
section
variable {h h':List Blk}
def Agr(h h':List Blk)(p:AV):Prop:=∀b,b∈p.men→h'[b]?=h[b]?
theorem vb(v:AV):q0i h' (okv h v) (okv h' v):=rfl
theorem q1a{b:Bool}{t t' e e':Tree Res}(h1:q0i h' t t')(h2:q0i h' e e'):q0i h' (.br b t e) (.br b t' e'):=⟨rfl,h1,h2⟩
theorem zR{c:Prop}[Decidable c]{t t' e e':Tree Res}(h1:q0i h' t t')(h2:q0i h' e e'):q0i h' (if c then t else e) (if c then t' else e'):=by
 split<;>assumption
theorem q9A(kk:IntKind)(f:Int→Int→Int)(l:Bool)(x y:Int):q0i h' (q66 h kk f l x y) (q66 h' kk f l x y):=by
 unfold q66;cases l<;>rfl
theorem qyx(f:Int→Int→Bool)(l:Bool)(x y:Int):q0i h' (qxv h f l x y) (qxv h' f l x y):=by
 unfold qxv;cases l<;>rfl
theorem qgb{v:AV}(H:Agr h h' v):vS h' v=vS h v:=by
 cases v<;>first|rfl|skip
 rename_i b
 simp only[vS]
 rw[H b (by simp[AV.men])]
theorem qti(E:Env)(t:TypeId)(p:AV)(H:Agr h h' p):q0i h' (qe3 E h t p) (qe3 E h' t p):=by
 unfold qe3
 dsimp only
 refine zR trivial ?_
 cases p with
 | ptr b off=>
  simp only
  rw[H b (by simp[AV.men])]
  cases hb:h[b]? with
  | none=>trivial
  | some x=>
   cases x with
   | cells cs=>
    simp only
    refine zR (zR (vb _) trivial) ?_
    cases cs[off]?<;>first|trivial|rfl
   | _=>trivial
 | eptr sh l i off=>
  simp only
  refine zR ?_ ?_
  ·cases q99 sh l i off (E.ty t).size<;>first|trivial|rfl
  ·cases qdY sh l i off<;>first|trivial|rfl
 | vptr b i off=>
  simp only
  rw[qgb (v:=.vec b) H]
  cases hb:vS h (.vec b) with
  | none=>trivial
  | some x=>
   obtain⟨sh,l⟩:=x
   simp only
   refine zR ?_ ?_
   ·cases q99 sh l i off (E.ty t).size<;>first|trivial|rfl
   ·cases qdY sh l i off<;>first|trivial|rfl
 | _=>trivial
theorem qxr(E:Env)(t:TypeId)(p:AV)(H:Agr h h' p):q0i h' (qbT E h t p) (qbT E h' t p):=by
 cases p with
 | ptr b off=>
  have hm:=qti E t (.ptr b off) H
  unfold qbT
  simp only
  rw[H b (by simp[AV.men])]
  cases hb:h[b]? with
  | none=>
   have:qe3 E h t (.ptr b off)=.fail:=by unfold qe3;simp only[hb];split<;>rfl
   simp only[this];trivial
  | some x=>
   cases x with
   | big cs kk n l=>
    simp only
    unfold qyH
    refine zR trivial (zR (zR (vb _) trivial) ?_)
    cases cs[off]? with
    | none=>exact zR (vb _) trivial
    | some v=>exact vb _
   | _=>exact hm
 | aptr b o i=>
  unfold qbT
  simp only
  rw[H b (by simp[AV.men])]
  cases hb:h[b]? with
  | none=>trivial
  | some x=>
   cases x with
   | big cs kk n l=>exact zR (q1a (vb _) trivial) trivial
   | _=>trivial
 | _=>unfold qbT;exact qti _ _ _ H
theorem qxp(E:Env)(t:TypeId)(ps:List (Nat×AV)):q0i h' (qfz E h t ps) (qfz E h' t ps):=by
 unfold qfz
 refine zR trivial ?_
 cases (E.ty t).d with
 | struct fs=>
  simp only
  refine zR ?_ trivial
  cases qbn (fun i=>(fs[i]?).map fun f=>(f.1,f.2.2)) ((E.ty t).zero.map jk) ps<;>first|trivial|rfl
 | array n e es=>
  simp only
  refine zR trivial ?_
  cases qbn (fun i=>some (i*es,es)) ((E.ty t).zero.map jk) ps<;>first|trivial|rfl
 | _=>trivial
theorem qvf(E:Env)(t:TypeId)(ps:List (Nat×AV)):q0i h' (qaW E h t ps) (qaW E h' t ps):=by
 unfold qaW
 cases qxD E t with
 | none=>exact qxp _ _ _
 | some q=>
  obtain⟨o,kk,n⟩:=q
  simp only
  cases (E.ty t).d with
  | struct fs=>
   simp only
   refine zR ?_ trivial
   cases qbn (fun i=>(fs[i]?).map fun f=>(f.1,f.2.2)) (((E.ty t).zero.take o).map jk) ps<;>first|trivial|rfl
  | _=>trivial
theorem qoX(E:Env)(s:TypeId)(x:AV)(f:Nat):q0i h' (q2q E h s x f) (q2q E h' s x f):=by
 unfold q2q
 cases (E.ty s).d with
 | struct fs=>
  simp only
  cases fs[f]? with
  | none=>trivial
  | some o=>
   obtain⟨o,tt,sz⟩:=o
   simp only
   refine zR trivial ?_
   cases x<;>first|rfl|trivial
 | _=>trivial
theorem qsW(E:Env)(t:TypeId)(cs:List AV)(o:Nat):q0i h' (qgP E h t cs o) (qgP E h' t cs o):=by
 unfold qgP
 cases qh9 E t cs o<;>first|rfl|trivial
theorem qwF(E:Env)(s:TypeId)(x:AV)(f:Nat):q0i h' (qeL E h s x f) (qeL E h' s x f):=by
 unfold qeL
 cases (E.ty s).d with
 | struct fs=>
  cases x with
  | agg cs=>
   simp only
   cases fs[f]? with
   | none=>trivial
   | some o=>exact qsW _ _ _ _
  | _=>trivial
 | _=>trivial
theorem qfy(i:Int)(f:Nat→AV):∀n,q0i h' (qfx h i f n) (qfx h' i f n)
 | 0=>trivial
 | n+1=>⟨rfl,rfl,qfy i f n⟩
theorem qpj(E:Env)(t:TypeId)(x i:AV)(H:Agr h h' x):q0i h' (uE E h t x i) (uE E h' t x i):=by
 unfold uE
 cases (E.ty t).d with
 | slice e es=>
  cases x with
  | imm sh l=>
   cases asI i with
   | none=>trivial
   | some y=>exact zR (q1a (vb _) trivial) trivial
  | vec b=>
   cases asI i with
   | none=>trivial
   | some y=>
    simp only
    rw[qgb (v:=.vec b) H]
    cases hb:vS h (.vec b) with
    | none=>trivial
    | some z=>exact zR (q1a (vb _) trivial) trivial
  | _=>trivial
 | array n e es=>
  cases x with
  | ptr b off=>
   simp only
   cases i with
   | ilit kk j=>exact zR (vb _) trivial
   | int kk j=>exact zR (qfy _ _ _) trivial
   | _=>trivial
  | eptr sh l i0 off=>
   simp only
   cases i with
   | ilit kk j=>exact zR (vb _) trivial
   | int kk j=>exact zR (qfy _ _ _) trivial
   | _=>trivial
  | _=>trivial
 | _=>trivial
theorem qon(E:Env)(t:TypeId)(x i:AV)(H:Agr h h' x):q0i h' (q0W E h t x i) (q0W E h' t x i):=by
 have hm:=qpj E t x i H
 unfold q0W
 split
 ·split
  ·split
   ·split
    ·exact zR (q1a (vb _) trivial) trivial
    ·exact hm
   ·exact hm
  ·exact hm
 ·exact hm
theorem qxt(E:Env)(t:TypeId)(x i:AV):q0i h' (qfo E h t x i) (qfo E h' t x i):=by
 unfold qfo
 cases (E.ty t).d with
 | array n e es=>
  cases x with
  | agg cs=>
   cases hi:asI i with
   | none=>trivial
   | some y=>
    cases i with
    | ilit kk j=>exact zR (qsW _ _ _ _) trivial
    | int kk j=>
     simp only
     cases (E.ty e).d with
     | int k2=>
      simp only
      refine zR ?_ trivial
      cases qiF k2 cs with
      | none=>trivial
      | some l=>exact q1a (vb _) trivial
     | _=>trivial
    | _=>cases hi
  | _=>trivial
 | str=>
  cases x with
  | str s=>
   cases asI i with
   | none=>trivial
   | some y=>exact q1a (vb _) trivial
  | _=>trivial
 | _=>trivial
theorem qvK(d:TD)(op:BinOp)(x y:AV)(H:Agr h h' x):q0i h' (qsg d h op x y) (qsg d h' op x y):=by
 unfold qsg
 cases hx:asI x with
 | some p=>
  obtain⟨kk,a⟩:=p
  cases hy:asI y with
  | some q=>
   obtain⟨kk',b⟩:=q
   simp only
   refine zR ?_ trivial
   cases op<;>simp only<;>first
    | exact q9A _ _ _ _ _
    | exact qyx _ _ _ _
    | trivial
    | skip
   ·cases y<;>simp only<;>first|exact zR trivial (q9A _ _ _ _ _)|exact q1a (q9A _ _ _ _ _) trivial
   ·cases y<;>simp only<;>first|exact zR trivial (q9A _ _ _ _ _)|exact q1a (q9A _ _ _ _ _) trivial
  | none=>cases x<;>first|cases hx;done|(cases y<;>first|(cases hy;done)|trivial)
 | none=>
  simp only
  cases hbx:asB x with
  | some a=>
   cases hby:asB y with
   | some b=>simp only;cases d<;>simp only<;>first|trivial|(cases op<;>first|rfl|trivial)
   | none=>cases x<;>first|(cases hbx;done)|(cases y<;>first|(cases hby;done)|trivial)
  | none=>
   simp only
   cases x with
   | str a=>
    cases y with
    | str b=>cases op<;>first|rfl|trivial|exact q1a (vb _) trivial
    | _=>trivial
   | nilp=>
    cases y with
    | nilp=>cases d<;>first|trivial|(cases op<;>first|rfl|trivial)
    | _=>trivial
   | ptr b off=>
    cases y with
    | nilp=>
     cases d<;>first|trivial|skip
     simp only
     rw[H b (by simp[AV.men])]
     cases hb:h[b]? with
     | none=>trivial
     | some z=>cases z<;>first|trivial|(cases op<;>first|rfl|trivial)
    | _=>trivial
   | eptr sh l i o=>
    cases y with
    | nilp=>cases d<;>first|trivial|(cases op<;>first|rfl|trivial)
    | _=>trivial
   | imm sh l=>
    cases y with
    | nils=>cases d<;>first|trivial|(cases op<;>first|trivial|exact q1a (vb _) trivial)
    | _=>trivial
   | mptr c sh l i o=>
    cases y with
    | nilp=>cases d<;>first|trivial|(cases op<;>first|rfl|trivial)
    | _=>trivial
   | _=>trivial
theorem qxn(E:Env)(op:BinOp)(t:TypeId)(x y:AV)(H:Agr h h' x):q0i h' (qhC E h op t x y) (qhC E h' op t x y):=by
 unfold qhC
 cases x with
 | agg xs=>
  cases y with
  | agg ys=>
   simp only
   unfold qnP
   cases eqT E 32 t (.agg xs) (.agg ys) with
   | none=>trivial
   | some r=>cases op<;>first|rfl|trivial
  | _=>exact qvK _ _ _ _ H
 | _=>exact qvK _ _ _ _ H
theorem qCE(op:UnOp)(x:AV):q0i h' (qCq h op x) (qCq h' op x):=by
 cases op<;>cases x<;>first|rfl|trivial
theorem qzF(E:Env)(s d:TypeId)(x:AV):q0i h' (qlc E h s d x) (qlc E h' s d x):=by
 unfold qlc
 cases (E.ty s).d<;>cases (E.ty d).d<;>cases x<;>first|rfl|trivial
theorem qxa(E:Env)(s d:TypeId)(x:AV)(H:Agr h h' x):q0i h' (qfe E h s d x) (qfe E h' s d x):=by
 unfold qfe
 cases (E.ty s).d with
 | slice e es=>
  simp only
  cases (E.ty d).d with
  | str=>
   simp only
   unfold qmk
   cases (E.ty e).d with
   | int kk=>
    cases kk<;>first|trivial|skip
    simp only
    rw[qgb H]
    cases hr:vS h x with
    | none=>trivial
    | some q=>
     obtain⟨sh,l⟩:=q
     simp only
     split
     ·rfl
     ·trivial
   | _=>trivial
  | _=>trivial
 | _=>exact qzF _ _ _ _
theorem qB3(E:Env)(ts:List TypeId)(azz:List AV)(H:∀x,x∈azz→Agr h h' x):q0i h' (qmA E h ts azz) (qmA E h' ts azz):=by
 unfold qmA
 cases ts with
 | nil=>trivial
 | cons t ts=>
  cases azz with
  | nil=>trivial
  | cons x azz=>
   cases azz with
   | cons _ _=>trivial
   | nil=>
    simp only
    unfold qz6
    cases (E.ty t).d with
    | str=>cases x<;>first|rfl|trivial
    | array n e es=>rfl
    | slice e es=>
     cases x with
     | nils=>rfl
     | vec b=>
      simp only
      rw[qgb (v:=.vec b) (H _ List.mem_cons_self)]
      cases hb:vS h (.vec b) with
      | none=>trivial
      | some z=>rfl
     | imm sh l=>rfl
     | _=>trivial
    | _=>cases x<;>trivial
theorem qBW(f:Int→Int→Int)(azz:List AV):q0i h' (qqt f h azz) (qqt f h' azz):=by
 unfold qqt
 cases azz with
 | nil=>trivial
 | cons x l=>
  simp only
  cases asI x with
  | none=>trivial
  | some p=>
   obtain⟨kk,n⟩:=p
   simp only
   cases qvv f kk n l with
   | none=>trivial
   | some m=>exact zR (vb _) (vb _)
theorem qxN{E:Env}{t:TypeId}(ht:(E.ty t).d=.str)(x:AV)(lo hi mx:Option AV):q0i h' (qbe E h t x lo hi mx) (qbe E h' t x lo hi mx):=by
 unfold qbe
 rw[ht]
 cases mx with
 | some _=>trivial
 | none=>
  cases x<;>first|trivial|skip
  rename_i s
  simp only
  cases qgu lo 0 with
  | none=>trivial
  | some l=>
   cases qgu hi (qu s) with
   | none=>trivial
   | some r=>exact q1a (q1a (vb _) trivial) trivial
theorem qvq{E:Env}{t:TypeId}(ht:(E.ty t).d=.str)(x:AV)(lo hi mx:Option AV):q0i h' (uI E h t x lo hi mx) (uI E h' t x lo hi mx):=by
 unfold uI
 rw[ht]
 exact qxN ht _ _ _ _
theorem quE{E:Env}{t:TypeId}{n:Nat}{e:TypeId}{es:Nat}(ht:(E.ty t).d=.array n e es)(x:AV)(lo hi mx:Option AV):q0i h' (uI E h t x lo hi mx) (uI E h' t x lo hi mx):=by
 unfold uI
 rw[ht]
 simp only
 cases x<;>first|trivial|skip
 cases mx with
 | some _=>trivial
 | none=>
  simp only
  refine zR ?_ trivial
  unfold qAi
  split
  ·exact q1a (q1a (vb _) trivial) trivial
  ·trivial
theorem qv2{E:Env}{t:TypeId}{e:TypeId}{es:Nat}(ht:(E.ty t).d=.slice e es)(x:AV)(lo hi:Option AV){mx:Option AV}(hm:mx.isSome=true):q0i h' (uI E h t x lo hi mx) (uI E h' t x lo hi mx):=by
 unfold uI
 rw[ht]
 simp only
 unfold qbe
 cases mx with
 | none=>cases hm
 | some m=>
  simp only
  rw[ht]
  split
  ·split
   ·exact zR (q1a (q1a (q1a (vb _) trivial) trivial) trivial) trivial
   ·trivial
  ·trivial
theorem qyG{E:Env}{ev:Operand→AV}{op:Op}(hs:q9s E op=true)(H:qzq op=true→∀x,x∈op.operands.toList→Agr h h' (ev x)):q0i h' (qlu E h ev op) (qlu E h' ev op):=by
 unfold qlu
 cases op<;>simp only[q9s] at hs<;>try (cases hs)
 case move=>exact vb _
 case assign=>exact vb _
 case pick c a b=>simp only;cases ev c<;>first|exact vb _|exact q1a (vb _) (vb _)|trivial
 case build=>exact qvf _ _ _
 case load x=>exact qxr _ _ _ (H rfl x (by simp[Op.operands]))
 case nilCheck x=>
  have H:=H rfl x (by simp[Op.operands])
  simp only
  cases hx:ev x with
  | ptr b o=>
   rw[hx] at H
   simp only
   rw[H b (by simp[AV.men])]
   cases hb:h[b]? with
   | none=>trivial
   | some z=>cases z<;>first|rfl|trivial
  | eptr sh l i o=>rfl
  | mptr c sh l i o=>exact q1a (vb _) trivial
  | _=>trivial
 case binOp op t x y r=>exact qxn _ _ _ _ _ (H rfl x (by simp[Op.operands]))
 case unOp=>exact qCE _ _
 case convert s d x=>exact qxa _ _ _ _ (H rfl x (by simp[Op.operands]))
 case makeFunc fn _ _=>cases fn<;>first|rfl|trivial
 case slice t x lo hi mx=>
  split at hs
  ·rename_i ht;exact qvq ht _ _ _ _
  ·rename_i ht;exact quE ht _ _ _ _
  ·rename_i ht;exact qv2 ht _ _ _ (by simpa using hs)
  ·cases hs
 case fieldAddr=>exact qoX _ _ _ _
 case field=>exact qwF _ _ _ _
 case indexAddr t x i=>exact qon _ _ _ _ (H rfl x (by simp[Op.operands]))
 case index=>exact qxt _ _ _ _
 case extract x i=>
  simp only
  cases ev x with
  | tuple vs=>simp only;cases vs[i]?<;>first|rfl|trivial
  | _=>trivial
 case call c=>
  obtain⟨callee,args,tys⟩:=c
  cases callee with
  | builtin b=>
   cases b<;>first|exact qB3 _ _ _ (fun x hx=>by obtain⟨y,hy,rfl⟩:=List.mem_map.1 hx;exact H rfl y (by simpa[Op.operands,Call.operands] using hy))|exact qBW _ _|(cases hs;done)
  | value x=>simp only at hs;cases hs
  | invoke x n=>simp only at hs;cases hs
end
mutual
theorem qz0{h h':List Blk}:∀(a:AV),Agr h h' a→a.lend h'=a.lend h
 | .vec b,H=>by simp only[AV.lend];rw[H b (by simp[AV.men])]
 | .agg cs,H=>by simp only[AV.lend];rw[qcC cs H]
 | .tuple cs,H=>by simp only[AV.lend];rw[qcC cs H]
 | .undef,_|.yld,_|.skip,_|.blit _,_|.bool _,_|.ilit _ _,_|.int _ _,_|.str _,_|.nilp,_|.ptr _ _,_|.eptr _ _ _ _,_|.mptr _ _ _ _ _,_|.vptr _ _ _,_|.vsub _ _,_|.aptr _ _ _,_|.asub _ _ _ _ _,_|.bagg _ _ _ _,_|.nils,_|.imm _ _,_|.full _ _,_|.nilf,_|.fn _ _ _,_=>rfl
theorem qcC{h h':List Blk}:∀(l:List AV),(∀b,b∈AV.menL l→h'[b]?=h[b]?)→AV.lendL h' l=AV.lendL h l
 | [],_=>rfl
 | a::l,H=>by
  simp only[AV.lendL]
  rw[qz0 a fun b hb=>H b (by simp only[AV.menL];exact List.mem_append_left _ hb),qcC l fun b hb=>H b (by simp only[AV.menL];exact List.mem_append_right _ hb)]
end
theorem qks:∀(a:AV) (b:Nat),b∈yK a→b∈a.men:=by
 intro a b hb
 cases a<;>simp only[yK] at hb<;>first|(cases hb;done)|skip
 case vec c=>simpa[AV.men] using hb
 case agg cs=>
  simp only[AV.men]
  induction cs with
  | nil=>cases hb
  | cons c cs ih=>
   simp only[AV.menL]
   simp only[List.filterMap_cons] at hb
   cases c<;>simp only at hb<;>first|exact List.mem_append_right _ (ih hb)|skip
   rcases List.mem_cons.1 hb with rfl|hb
   ·exact List.mem_append_left _ (by simp[AV.men])
   ·exact List.mem_append_right _ (ih hb)
theorem qm2{l:List AV}{a:AV}{b:Nat}(ha:a∈l)(hb:b∈a.men):b∈AV.menL l:=by
 induction l with
 | nil=>cases ha
 | cons c l ih=>
  simp only[AV.menL]
  rcases List.mem_cons.1 ha with rfl|ha
  ·exact List.mem_append_left _ hb
  ·exact List.mem_append_right _ (ih ha)
theorem qmS{E:Env}{h h':List Blk}{f:FuncId}{args:List AV}(H:∀b,b∈AV.menL args→h'[b]?=h[b]?):q90 E h' f args=q90 E h f args:=by
 unfold q90
 cases hf:E.spec.find? fun x=>x.1==f with
 | none=>rfl
 | some G=>
  simp only
  have e1:(args.flatMap yK).all (qqx h')=(args.flatMap yK).all (qqx h):=by
   have:∀b,b∈args.flatMap yK→qqx h' b=qqx h b:=by
    intro b hb
    obtain⟨a,ha,hb⟩:=List.mem_flatMap.1 hb
    unfold qqx
    rw[H b (qm2 ha (qks a b hb))]
   generalize args.flatMap yK=l at this
   induction l with
   | nil=>rfl
   | cons b l ih=>simp only[List.all_cons];rw[this b List.mem_cons_self,ih fun b hb=>this b (List.mem_cons_of_mem _ hb)]
  rw[e1,qcC args H]
theorem q73(E:Env):q2k E (q7i E):=by
 intro h h' f args hs H
 unfold q7i
 unfold qgY at hs
 cases hf:E.spec.find? fun x=>x.1==f with
 | none=>rw[hf] at hs;cases hs
 | some G=>simp only;exact qmS H
theorem qtD(E:Env):q2k E qrH:=fun _ _ _ _ _ _=>rfl
theorem qfJ{E:Env}{callS:List Blk→q2c}(hm:q2k E callS){h h':List Blk}{ev:Operand→AV}{op:Op}{v:AV}{R:List Nat}(hR:qBo E ev op=some R)(H:∀b,b∈R→h'[b]?=h[b]?)
  (hr:(q6C E (callS h) h ev op).run=some v):(q6C E (callS h') h' ev op).run=some v:=by
 unfold q6C at hr ⊢
 split at hr
 ·rename_i x args tys
  cases hx:ev x with
  | fn f first caps=>
   rw[hx] at hr
   unfold qBo at hR
   simp only[qka,kg,hx] at hR
   cases hf:qgY E f with
   | none=>rw[hf] at hR;cases hR
   | some G=>
    rw[hf] at hR
    simp only[Option.some.injEq] at hR
    subst hR
    simp only
    rw[hm h h' f _ (by rw[hf];rfl) H]
    exact hr
  | _=>rw[hx] at hr;cases hr
 ·rename_i hno
  split at hr
  ·rename_i hst
   rw[if_pos hst]
   obtain⟨r,h1,h2⟩:=bind_some hr
   cases h2
   have hR':qzq op=true→R=AV.menL (op.operands.toList.map ev):=by
    intro hlk
    unfold qBo at hR
    have:qka op=false:=by
     unfold qka
     split
     ·rename_i x args tys;exact absurd rfl (hno x args tys)
     ·rfl
    rw[this,hlk] at hR
    simpa using hR.symm
   rw[Tree.run_bind,q0i.run (qyG (h':=h') hst fun hlk x hx b hb=>H b (by rw[hR' hlk];exact qm2 (List.mem_map_of_mem hx) hb)) h1]
   rfl
  ·cases hr
section
variable {h:List Blk}
theorem qfO:∀(cs:List AV),cs.all qzj=true→q9e h cs=h
 | [],_=>rfl
 | c::cs,hc=>by
  simp only[List.all_cons,Bool.and_eq_true] at hc
  cases c<;>first|(simp only[q9e];exact qfO cs hc.2)|(cases hc.1)
theorem qsx{E:Env}{t:TypeId}{z:Blk}(hz:q2J E t=some z):z.isFrzB=false:=by
 unfold q2J at hz
 split at hz<;>split at hz<;>cases hz<;>rfl
theorem qx8{x:AV}{z:Blk}(hz:qlh x=some z):z.isFrzB=false:=by
 unfold qlh at hz
 split at hz<;>split at hz<;>cases hz<;>rfl
theorem qsY{E:Env}{ev:Operand→AV}{op:Op}{v:AV}{z:Blk}(hr:(q9u E h ev op).run=some (v,z)):(qlu E h ev op).run=some (v,h++[z],none)∧z.isFrzB=false∧(∀b,v≠.bool b):=by
 unfold q9u at hr
 cases op<;>simp only at hr<;>first|(cases hr;done)|skip
 case alloc t=>
  unfold qnL at hr
  cases hz:q2J E t with
  | none=>rw[hz] at hr;cases hr
  | some y=>
   rw[hz] at hr
   cases hr
   refine⟨?_,qsx hz,fun b hb=>by cases hb⟩
   unfold qlu
   simp only
   rw[hz];rfl
 case box t x=>
  unfold qnL at hr
  cases hz:qlh (ev x) with
  | none=>rw[hz] at hr;cases hr
  | some y=>
   rw[hz] at hr
   cases hr
   refine⟨?_,qx8 hz,fun b hb=>by cases hb⟩
   unfold qlu
   simp only
   rw[hz];rfl
 case buildSlice t len parts=>
  unfold qlu
  simp only
  unfold q7b
  cases hd:(E.ty t).d<;>rw[hd] at hr<;>simp only at hr ⊢<;>first|(cases hr;done)|skip
  rename_i e es
  split at hr
  ·rename_i hc
   rw[if_pos hc]
   cases hf:qbn (fun i=>some (i*es,es)) ((List.replicate len ((E.ty e).zero.map jk)).flatten) (parts.toList.map fun p=>(p.1,ev p.2)) with
   | none=>rw[hf] at hr;cases hr
   | some cs=>
    cases hs:E.shape 16 e with
    | none=>rw[hf,hs] at hr;cases hr
    | some sh=>
     rw[hf,hs] at hr
     simp only at hr ⊢
     split at hr
     ·rename_i hl
      rw[if_pos hl.1]
      cases hch:qf5 h sh len cs with
      | none=>rw[hch] at hr;cases hr
      | some l=>
       rw[hch] at hr
       cases hr
       exact⟨by simp only[qfO cs hl.2];rfl,rfl,fun b hb=>by cases hb⟩
     ·cases hr
  ·cases hr
theorem qlB{E:Env}{f g:Operand→AV}{op:Op}(hfg:∀x∈op.operands.toList,f x=g x):q9u E h f op=q9u E h g op:=by
 unfold q9u
 cases op<;>simp only
 case box t x=>rw[hfg x (by simp[Op.operands])]
 case buildSlice t len ps=>
  have:(ps.toList.map fun p=>(p.1,f p.2))=ps.toList.map fun p=>(p.1,g p.2):=List.map_congr_left fun p hp=>by
   rw[hfg p.2 (by simp only[Op.operands];exact List.mem_map_of_mem hp)]
  rw[this]
end
end Go.Eng

namespace Go.Eng
mutual
theorem AV.ren_void{s:Nat}:∀av:AV,s∉av.men→av.ren (qcn s)=av
 | .undef,_|.skip,_|.yld,_|.blit _,_|.bool _,_|.ilit _ _,_|.int _ _,_|.str _,_|.nilp,_|.eptr _ _ _ _,_|.mptr _ _ _ _ _,_|.nils,_|.imm _ _,_|.full _ _,_|.nilf,_=>rfl
 | .ptr b _,h=>by simp only[AV.men,List.mem_singleton] at h;simp[AV.ren,qcn,Ne.symm h]
 | .vptr b _ _,h=>by simp only[AV.men,List.mem_singleton] at h;simp[AV.ren,qcn,Ne.symm h]
 | .vsub b _,h=>by simp only[AV.men,List.mem_singleton] at h;simp[AV.ren,qcn,Ne.symm h]
 | .aptr b _ _,h=>by simp only[AV.men,List.mem_singleton] at h;simp[AV.ren,qcn,Ne.symm h]
 | .asub b _ _ _ _,h=>by simp only[AV.men,List.mem_singleton] at h;simp[AV.ren,qcn,Ne.symm h]
 | .vec b,h=>by simp only[AV.men,List.mem_singleton] at h;simp[AV.ren,qcn,Ne.symm h]
 | .fn g first caps,h=>by
  simp only[AV.men,List.mem_append,not_or] at h
  simp[AV.ren,AV.renL_void first h.1,AV.renL_void caps h.2]
 | .agg cs,h=>by simp only[AV.men] at h;simp[AV.ren,AV.renL_void cs h]
 | .tuple cs,h=>by simp only[AV.men] at h;simp[AV.ren,AV.renL_void cs h]
 | .bagg cs k n l,h=>by simp only[AV.men] at h;simp[AV.ren,AV.renL_void cs h]
theorem AV.renL_void{s:Nat}:∀l:List AV,s∉AV.menL l→AV.renL (qcn s) l=l
 | [],_=>rfl
 | a::l,h=>by
  simp only[AV.menL,List.mem_append,not_or] at h
  simp[AV.renL,AV.ren_void a h.1,AV.renL_void l h.2]
end
theorem Blk.ren_void{s:Nat}(k:Blk)(h:s∉k.menB):k.ren (qcn s)=k:=by
 cases k<;>simp only[Blk.menB,Blk.ren] at h ⊢<;>rw[AV.renL_void _ h]
theorem qkX{s:Nat}:∀l:List (List AV),s∉qgr l→l.map (AV.renL (qcn s))=l
 | [],_=>rfl
 | a::l,h=>by
  simp only[qgr,List.mem_append,not_or] at h
  simp only[List.map_cons,AV.renL_void a h.1,qkX l h.2]
theorem qjt{s b:Nat}{k:Blk}:∀{h:List Blk},s∉q59 h→h[b]?=some k→s∉k.menB:=by
 intro h
 induction h generalizing b with
 | nil=>intro _ hb;simp at hb
 | cons a h ih=>
  intro hs hb
  simp only[q59,List.mem_append,not_or] at hs
  cases b with
  | zero=>simp only[List.getElem?_cons_zero,Option.some.injEq] at hb;subst hb;exact hs.1
  | succ b=>exact ih hs.2 (by simpa using hb)
def Ctx.slot(X:Ctx)(s:Nat)(z:Blk)(o:Obj):Ctx:=
 { σ:=fun b=>if b=s then some X.w.heap.size else X.σ b,h:=X.h.set s z,w:=X.w.alloc o,M:=X.M,kept:=X.kept,y:=X.y }
theorem qov{B:Base}{X:Ctx}(hs:HSim B X){s:Nat}{z:Blk}{o:Obj}:Move X (X.slot s z o) (qcn s):=by
 refine Move.of (fun _ h=>h) (fun a ha=>World.cell?_of_block (wx _ _ (hs.ltM _ ha))) (fun b b' hb h=>?_)
 unfold qcn at h
 split at h
 ·cases h
 ·rename_i hne
  cases h
  refine⟨by simpa[Ctx.slot] using hb,by simp[Ctx.slot,hne],fun sh m ⟨e,l,h1,h2⟩=>⟨e,l,?_,h2⟩,fun _ _ _ n hn c T fr hc=>⟨c,T,fr,?_,rfl⟩⟩
  ·have e1:(X.slot s z o).h[b]?=X.h[b]?:=List.getElem?_set_ne (fun e=>hne e.symm)
   rw[e1] at h1;exact h1
  ·exact(wx _ _ (Array.getElem?_eq_some_iff.1 hc).1).trans hc
theorem qsf{B:Base}{X:Ctx}(hs:HSim B X){s:Nat}{z:Blk}{o:Obj}(hd:X.h[s]?=some .dead)(hmen:s∉q59 X.h)(hz:yQ (X.slot s z o) s z):HSim B (X.slot s z o):=by
 have hm:=qov hs (s:=s) (z:=z) (o:=o)
 have hsl:=qp hd
 have himp:B.imps.length≤s:=by
  rcases Nat.lt_or_ge s B.imps.length with h|h
  ·obtain⟨k,h1,h2⟩:=hs.impc s h
   rw[hd] at h1;cases h1;cases h2
  ·exact h
 have hget:∀b k',(X.slot s z o).h[b]?=some k'→b≠s∧X.h[b]?=some k'∨b=s∧k'=z:=by
  intro b k' h
  by_cases hb:b=s
  ·subst hb
   have:(X.h.set b z)[b]?=some k':=h
   rw[List.getElem?_set_self hsl] at this
   exact .inr ⟨rfl,(Option.some.inj this).symm⟩
  ·have:(X.h.set s z)[b]?=some k':=h
   rw[List.getElem?_set_ne (fun e=>hb e.symm)] at this
   exact .inl ⟨hb,this⟩
 have hσ:∀b,b≠s→(X.slot s z o).σ b=X.σ b:=fun b hb=>by simp[Ctx.slot,hb]
 have hσn:(X.slot s z o).σ s=some X.w.heap.size:=by simp[Ctx.slot]
 have hold:∀n,n<X.w.heap.size→(X.slot s z o).w.heap[n]?=X.w.heap[n]?:=fun n hn=>wx _ _ hn
 have hsize:X.w.heap.size≤(X.slot s z o).w.heap.size:=by
  show _≤(X.w.alloc o).heap.size
  simp
 have hown:∀b n,(X.slot s z o).own b n→X.own b n∨b=s∧n=X.w.heap.size:=by
  intro b n ⟨h1,k',h2,h3⟩
  rcases hget b k' h2 with⟨hb,h4⟩|⟨rfl,rfl⟩
  ·exact .inl ⟨by rw[←hσ b hb];exact h1,k',h4,h3⟩
  ·rw[hσn] at h1;exact .inr ⟨rfl,(Option.some.inj h1).symm⟩
 constructor
 ·intro b k' h
  rcases hget b k' h with⟨hb,h4⟩|⟨rfl,rfl⟩
  ·by_cases hdd:k'=.dead
   ·subst hdd;trivial
   ·have:=yQ.move hm.toMove0 (b':=b) (hσ b hb) (fun n hn=>hold n (hs.lt h4 hdd hn)) (hs.blk b k' h4)
    rwa [Blk.ren_void k' (qjt hmen h4)] at this
  ·exact hz
 ·intro b b' n h h'
  rcases hown b n h with h1|⟨g1,g2⟩
  ·rcases hown b' n h' with h2|⟨g3,g4⟩
   ·exact hs.inj b b' n h1 h2
   ·exact absurd (Ctx.own.lt hs h1) (by omega)
  ·rcases hown b' _ h' with h2|⟨g3,_⟩
   ·exact absurd (Ctx.own.lt hs h2) (by omega)
   ·rw[g1,g3]
 ·intro b n h hM
  rcases hown b n h with h1|⟨g1,g2⟩
  ·exact hs.notM b n h1 hM
  ·exact absurd (hs.ltM _ hM) (by omega)
 ·intro n h
  have:=hs.ltM n h
  omega
 ·exact hs.M0
 ·exact hs.newM
 ·exact hs.os
 ·exact hs.tape
 ·exact hs.output
 ·have:=hs.size;omega
 ·intro n hn hni
  have:=hs.size
  rw[hold _ (by omega)]
  exact hs.frame n hn hni
 ·intro b hb
  rw[hσ b (by omega)];exact hs.imps b hb
 ·intro b hb
  obtain⟨cs,h,hc⟩:=hs.impc b hb
  exact⟨cs,by show (X.h.set s z)[b]?=_;rw[List.getElem?_set_ne (by omega)];exact h,hc⟩
 ·intro b n h hb
  rcases hown b n h with h1|⟨g1,g2⟩
  ·exact hs.fresh b n h1 hb
  ·have:=hs.size;omega
 ·intro p hp
  obtain⟨q1,q2,q3⟩:=hs.kept p hp
  exact⟨(hold _ (Array.getElem?_eq_some_iff.1 q1).1).trans q1,q2,q3⟩
theorem qxF{E:Env}{P:Program}(hE:E.tok P){B:Base}{X:Ctx}(hs:HSim B X){t:TypeId}{z:Blk}(hz:q2J E t=some z){s:Nat}(hd:X.h[s]?=some .dead)(hmen:s∉q59 X.h) :
  ∃o:Obj,((do pure (.value (←Instr.alloc t true (.tuple #[]))):Sem Next)).run P X.w=.ok (.value (.pointer (some ⟨X.w.heap.size,0,none⟩))) (X.w.alloc o)∧HSim B (X.slot s z o)∧Move X (X.slot s z o) (qcn s) ∧
   Rep (X.slot s z o) (.ptr s 0) (.pointer (some ⟨X.w.heap.size,0,none⟩)):=by
 have hsl:=qp hd
 have hptr:∀o,Rep (X.slot s z o) (.ptr s 0) (.pointer (some ⟨X.w.heap.size,0,none⟩)):=fun o=>.ptr _ _ _ (by simpa[Ctx.slot] using hsl) (by simp[Ctx.slot])
 unfold q2J at hz
 split at hz
 ·rename_i o k n hb
  split at hz
  ·cases hz
   obtain⟨b1,b2,b3,b4,_⟩:=qfU hb
   obtain⟨v,h1,h2,_⟩:=qdB hE (t:=t) (by omega) X.w
   refine⟨.cells v.cells t,by simp[Instr.alloc,h1,q8V],qsf hs hd hmen ?_,qov hs,hptr _⟩
   exact⟨X.w.heap.size,v.cells,t,(E.ty t).zero.take o,by simp[Ctx.slot],ww _ _,jW _ _,by rw[h2];exact qjX hb,qnB _ _⟩
  ·cases hz
 ·split at hz
  ·rename_i hc
   cases hz
   obtain⟨v,h1,h2,_⟩:=qdB hE (t:=t) (by simpa using hc.2) X.w
   refine⟨.cells v.cells t,by simp[Instr.alloc,h1,q8V],qsf hs hd hmen ?_,qov hs,hptr _⟩
   exact⟨X.w.heap.size,v.cells,t,by simp[Ctx.slot],ww _ _,by rw[h2];exact jW _ _⟩
  ·cases hz
theorem qrT{E:Env}{P:Program}(hE:E.tok P){B:Base}{X:Ctx}{st:St}{a:Act}(hs:Sim E B X st a){o:Oper}{t:TypeId}(hop:o.op=.alloc t){z:Blk}(hz:q2J E t=some z){s:Nat}(hd:st.h[s]?=some .dead)
  (hmen:s∉q59 st.h) (ht:s∉AV.menL st.t) (hf:s∉qgr st.fs) {next:Act→World→Prop} {Q:Exit→Act→World→Prop}
  (hq:∀X' v,Sim E B X' { st with h:=st.h.set s z } a→Rep X' (.ptr s 0) v→next (a.put o.dst v) X'.w):o.wp P a X.w next Q:=by
 rw[←hs.h] at hd hmen
 obtain⟨ob,h1,h2,h3,h4⟩:=qxF hE hs.hs hz hd hmen
 unfold Oper.wp
 have hrun:(execOp a.eval o).run P X.w=.ok (.value (.pointer (some ⟨X.w.heap.size,0,none⟩))) (X.w.alloc ob):=by
  rw[←h1]
  simp only[execOp,hop]
 rw[hrun]
 refine hq (X.slot s z ob) _ ⟨h2,?_,?_,?_,fun x hx=>?_,h3.kept▸hs.df,hs.ni,h3.y.trans hs.y,fun p hp=>h3.kept▸hs.pin p hp⟩ h4
 ·show X.h.set s z=st.h.set s z
  rw[hs.h]
 ·have:=hs.t.ren h3.toMove0
  rwa [AV.renL_void _ ht] at this
 ·have:=hs.fs.ren h3.toMove0
  rwa [qkX _ hf] at this
 ·obtain⟨⟨sh,l,i,off,he⟩,hr⟩:=hs.glob x hx
  refine⟨⟨sh,l,i,off,he⟩,hr.move h3.M h3.w ?_⟩
  have:=hr.1.ren h3.toMove0
  rw[he] at this ⊢
  exact this
theorem Sim.pad{E:Env}{B:Base}{X:Ctx}{st:St}{a:Act}(hs:Sim E B X st a):∃X',X'.w=X.w∧Sim E B X' { st with h:=st.h++[.dead] } a:=by
 have hw:=PushW.same X
 have hs1:=HSim.push hs.hs (k:=.dead) hw trivial
 have:=hs.ext (Ctx.push_ext hs.hs .dead hw) hs1
 refine⟨X.pushW .dead none X.w,rfl,?_⟩
 have e:(X.pushW .dead none X.w).h=st.h++[.dead]:=by rw[←hs.h];rfl
 rw[e] at this
 exact this
theorem Sim.padN{E:Env}{B:Base}{a:Act}:∀(n:Nat) {X:Ctx} {st:St},Sim E B X st a→∃X',X'.w=X.w∧Sim E B X' { st with h:=st.h++List.replicate n .dead } a
 | 0,X,st,hs=>⟨X,rfl,by simpa using hs⟩
 | n+1,X,st,hs=>by
  obtain⟨X1,h1,h2⟩:=hs.pad
  obtain⟨X2,h3,h4⟩:=Sim.padN n h2
  refine⟨X2,h3.trans h1,?_⟩
  have e:st.h++[.dead]++List.replicate n .dead=st.h++List.replicate (n+1) .dead:=by simp[List.replicate_succ]
  simp only at h4
  rw[e] at h4
  exact h4
end Go.Eng

namespace Go.Eng
theorem stL{all:Array Oper}{V:Nat→AV}{T0:List AV}{L L':Nat→Bool}:∀n,(∀j,j<n→L j=L' j)→TLp (qU all) V T0 L n=TLp (qU all) V T0 L' n
 | 0,_=>rfl
 | n+1,h=>by
  simp only[TLp]
  rw[h n (Nat.lt_succ_self n),stL n fun j hj=>h j (by omega)]
theorem qn0{all:Array Oper}(hd:DrawOk all){listed:Array Bool}(hsz:listed.size=all.size)(h:Region.ready .any all listed=[]):∀i,i<all.size→listed.getD i false=true:=by
 intro i
 induction i using Nat.strongRecOn with
 | _ i ih=>
  intro hi
  cases hl:listed.getD i false with
  | true=>rfl
  | false=>
   have ho:all[i]?=some all[i]:=Array.getElem?_eq_getElem hi
   have:i∈Region.ready .any all listed:=by
    rw[mem_ready]
    refine⟨?_,all[i],ho,fun e he hb=>?_⟩
    ·have hi':i<listed.size:=by omega
     simpa[Array.getD_eq_getD_getElem?,hi'] using hl
    ·have hlt:=hd.edge i _ ho e (by simpa using he) hb
     exact ih e.on hlt (by omega)
   rw[h] at this;cases this
theorem qc2{all:Array Oper}{listed:Array Bool}{i:Nat}{o:Oper}(hsz:listed.size=all.size)(ho:all[i]?=some o)(hc:qbX all fun j=>listed.getD j false)
  (hedge:∀e,e∈o.after.toList→Region.binds .any e=true→listed.getD e.on false=true):qbX all fun j=>(listed.setIfInBounds i true).getD j false:=by
 have hi:i<listed.size:=by rw[hsz];exact(Array.getElem?_eq_some_iff.1 ho).1
 intro j oj hj hL e he hb
 show (listed.setIfInBounds i true).getD e.on false=true
 rw[vL hi]
 split
 ·rfl
 ·by_cases hji:j=i
  ·subst hji
   rw[ho] at hj;cases hj
   exact hedge e he hb
  ·have hL':(listed.setIfInBounds i true).getD j false=true:=hL
   rw[vL hi,if_neg hji] at hL'
   exact hc j oj hj hL' e he hb
theorem qpm{h:List Blk}{b c:Nat}(hb:b≠c):(wE h c)[b]?=h[b]?:=by
 unfold wE
 split
 ·rw[List.getElem?_set_ne (fun e=>hb e.symm)]
 ·rfl
theorem qhO{b:Nat}:∀(l:List Nat) (h:List Blk),b∉l→(zJ h l)[b]?=h[b]?
 | [],_,_=>rfl
 | c::l,h,hb=>by
  simp only[List.mem_cons,not_or] at hb
  simp only[zJ]
  rw[qhO l _ hb.2,qpm hb.1]
theorem qkU{b:Nat}:∀(l:List Nat) (h:List Blk),b∉l→(qgE h l)[b]?=h[b]?
 | [],_,_=>rfl
 | c::l,h,hb=>by
  simp only[List.mem_cons,not_or] at hb
  simp only[qgE]
  split
  ·rw[qkU l _ hb.2,List.getElem?_set_ne (fun e=>hb.1 e.symm)]
  ·exact qkU l _ hb.2
theorem qn8{b:Nat}:∀(l:List Nat) (h:List Blk) (ks:List Blk) (h':List Blk),yX h l ks=some h'→b∉l→h'[b]?=h[b]?
 | [],h,ks,h',hp,_=>by cases ks<;>(simp only[yX,Option.some.injEq] at hp;rw[hp])
 | c::l,h,[],h',hp,_=>by simp[yX] at hp
 | c::l,h,k::ks,h',hp,hb=>by
  simp only[List.mem_cons,not_or] at hb
  simp only[yX] at hp
  split at hp
  ·cases hq:yX h l ks with
   | none=>rw[hq] at hp;cases hp
   | some h2=>
    rw[hq] at hp
    simp only[Option.map_some,Option.some.injEq] at hp
    rw[←hp,List.getElem?_set_ne (fun e=>hb.1 e.symm)]
    exact qn8 l h ks h2 hq hb.2
  ·cases hp
theorem qgd{b:Nat}:∀(l:List Nat),b∈qiZ l→b∈l
 | [],h=>h
 | a::l,h=>by
  simp only[qiZ] at h
  split at h
  ·exact List.mem_cons_of_mem _ (qgd l h)
  ·rcases List.mem_cons.1 h with rfl|h
   ·exact List.mem_cons_self
   ·exact List.mem_cons_of_mem _ (qgd l h)
mutual
theorem qAF:∀(a:AV) (h h':List Blk),(a.lend h).men=(a.lend h').men
 | .vec b,h,h'=>by
  have:∀h,((AV.vec b).lend h).men=[]:=fun h=>by
   simp only[AV.lend]
   split<;>rfl
  rw[this,this]
 | .agg cs,h,h'=>by simp only[AV.lend,AV.men];exact qiE cs h h'
 | .tuple cs,h,h'=>by simp only[AV.lend,AV.men];exact qiE cs h h'
 | .undef,_,_|.yld,_,_|.skip,_,_|.blit _,_,_|.bool _,_,_|.ilit _ _,_,_|.int _ _,_,_|.str _,_,_|.nilp,_,_|.ptr _ _,_,_|.eptr _ _ _ _,_,_|.mptr _ _ _ _ _,_,_|.vptr _ _ _,_,_|.vsub _ _,_,_|.aptr _ _ _,_,_|.asub _ _ _ _ _,_,_|.bagg _ _ _ _,_,_|.nils,_,_|.imm _ _,_,_|.full _ _,_,_|.nilf,_,_|.fn _ _ _,_,_=>rfl
theorem qiE:∀(l:List AV) (h h':List Blk),AV.menL (AV.lendL h l)=AV.menL (AV.lendL h' l)
 | [],_,_=>rfl
 | a::l,h,h'=>by simp only[AV.lendL,AV.menL];rw[qAF a h h',qiE l h h']
end
theorem qoT{G:q1h}{args:List AV}{st:St}{r:AV×St}(h:(q39 G args st).run=some r){b:Nat}(hb:b<st.h.length)(hw:b∉qyz st.h args):r.2.h[b]?=st.h[b]?:=by
 unfold q39 at h
 unfold qyz at hw
 simp only[List.mem_append,not_or] at hw
 obtain⟨⟨w1,w2⟩,w3⟩:=hw
 have hpre:(q5H st.h args)[b]?=st.h[b]?:=by
  unfold q5H
  simp only
  rw[qkU _ _ w3,qhO _ _ w2,qhO _ _ w1]
 simp only at h
 split at h
 ·cases h
 ·obtain⟨r0,h1,h2⟩:=bind_some h
  split at h2
  ·cases h2
  ·rename_i hput
   cases h2
   have hfp:b∉qiZ (AV.menL (AV.lendL (q5H st.h args) args)):=by
    intro hm
    have hm:=qgd _ hm
    rw[qiE args (q5H st.h args) (zJ st.h (args.flatMap yK))] at hm
    exact w3 hm
   have:=qn8 _ _ _ _ hput hfp
   rw[hpre] at this
   have hl:st.h[b]?=some st.h[b]:=List.getElem?_eq_getElem hb
   rw[hl] at this
   rw[List.getElem?_append_left (qp this),this,hl]
theorem qmL{E:Env}{h:List Blk}{t:TypeId}{p v:AV}{r:Res}(hr:(qdj E h t p v).run=some r){b:Nat}(hb:b∉p.men):r.2.1[b]?=h[b]?:=by
 unfold qdj at hr
 simp only at hr
 split at hr
 ·cases p<;>simp only at hr<;>first|(cases hr;done)|skip
  case ptr b' off=>
   have hne:b'≠b:=fun e=>hb (by simp[AV.men,e])
   split at hr
   ·split at hr
    ·cases hr;exact List.getElem?_set_ne hne
    ·cases hr
   ·cases hr
  case vptr b' i off=>
   have hne:b'≠b:=fun e=>hb (by simp[AV.men,e])
   split at hr
   ·split at hr
    ·split at hr
     ·cases hr;exact List.getElem?_set_ne hne
     ·cases hr
    ·cases hr
   ·cases hr
 ·cases hr
theorem qvn{E:Env}{h:List Blk}{t:TypeId}{p v:AV}{r:Res}(hr:(q8R E h t p v).run=some r){b:Nat}(hb:b∉p.men):r.2.1[b]?=h[b]?:=by
 unfold q8R at hr
 split at hr
 ·rename_i b' off
  have hne:b'≠b:=fun e=>hb (by simp[AV.men,e])
  split at hr
  ·unfold qxZ at hr
   split at hr
   ·split at hr
    ·cases hr;exact List.getElem?_set_ne hne
    ·cases hr
   ·split at hr
    ·split at hr
     ·cases hr;exact List.getElem?_set_ne hne
     ·split at hr
      ·split at hr<;>first|(cases hr;done)|skip
       all_goals (try (cases hr;exact List.getElem?_set_ne hne))
      ·cases hr
    ·cases hr
  ·exact qmL hr hb
 ·rename_i b' o i
  have hne:b'≠b:=fun e=>hb (by simp[AV.men,e])
  split at hr
  ·split at hr
   ·split at hr
    ·simp only[Tree.run] at hr
     split at hr
     ·cases hr;exact List.getElem?_set_ne hne
     ·cases hr
    ·cases hr
   ·cases hr
  ·cases hr
 ·exact qmL hr hb
theorem qqE{ev:Operand→AV}{op:Op}{q:FuncId×List AV}(h:kg ev op=some q):qka op=true∧∃x args tys first caps,op=.call { callee:=.value x,args:=args,argTypes:=tys }∧ev x=.fn q.1 first caps∧q.2=first++args.toList.map ev++caps:=by
 unfold kg at h
 split at h
 ·rename_i x args tys
  split at h
  ·rename_i f first caps hx
   cases h
   exact⟨rfl,x,args,tys,first,caps,rfl,hx,rfl⟩
  ·cases h
 ·cases h
theorem quv{E:Env}{h h':List Blk}{ev:Operand→AV}{op:Op}{v:AV}(hr:(qkc E h ev op).run=some (v,h')){b:Nat}(hb:b<h.length)(hw:b∉qDU h ev op):h'[b]?=h[b]?:=by
 unfold qkc at hr
 unfold qDU at hw
 cases hc:kg ev op with
 | some q=>
  obtain⟨f,args⟩:=q
  rw[hc] at hr hw
  simp only at hr hw
  cases hs:qgY E f with
  | none=>rw[hs] at hr;cases hr
  | some G=>
   rw[hs] at hr
   obtain⟨r,h1,h2⟩:=bind_some hr
   cases h2
   exact qoT (st:={ t:=[],fs:=[],h:=h,pend:=none }) h1 hb hw
 | none=>
  rw[hc] at hr hw
  simp only at hr hw
  cases hst:qkK op with
  | true=>
   rw[hst] at hr
   obtain⟨r,h1,h2⟩:=bind_some hr
   cases op<;>first|(cases hst;done)|skip
   rename_i t x y
   simp only at hw
   split at h2
   ·cases h2
    exact qvn h1 hw
   ·cases h2
  | false=>
   rw[hst] at hr
   obtain⟨r,h1,h2⟩:=bind_some hr
   cases h2
   rw[List.getElem?_append_left hb]
theorem qoK{f g:Operand→AV}{op:Op}(hfg:∀x∈op.operands.toList,f x=g x):kg f op=kg g op:=by
 unfold kg
 split
 ·rename_i x args tys
  rw[hfg x (by simp[Op.operands,Call.operands])]
  have:args.toList.map f=args.toList.map g:=List.map_congr_left fun y hy=>hfg y (by simp only[Op.operands,Call.operands,Array.toList_append];exact List.mem_append_right _ hy)
  rw[this]
 ·rfl
theorem qvs{E:Env}{h:List Blk}{f g:Operand→AV}{op:Op}(hfg:∀x∈op.operands.toList,f x=g x):qr2 E h f op=qr2 E h g op∧qkc E h f op=qkc E h g op:=by
 have hc:=qoK hfg
 constructor
 ·unfold qr2;rw[hc]
 ·unfold qkc
  rw[hc]
  cases kg g op with
  | some q=>rfl
  | none=>
   simp only
   cases hs:qkK op with
   | true=>
    cases op<;>first|(cases hs;done)|skip
    rename_i t x y
    have e:qlu E h f (.store t x y)=qlu E h g (.store t x y):=by
     unfold qlu
     simp only
     rw[hfg x (by simp[Op.operands]),hfg y (by simp[Op.operands])]
    simp only[e]
   | false=>simp only;rw[qlB hfg]
theorem que{E:Env}{P:Program}(hE:E.tok P)(hS:E.specs P){B:Base}{X:Ctx}{st:St}{a:Act}(hs:Sim E B X st a){o:Oper}{av:AV}{h':List Blk}
  (h:(qkc E st.h (E.opd st.t) o.op).run=some (av,h')) {next:Act→World→Prop} {Q:Exit→Act→World→Prop}
  (hq:∀X' v,Sim E B X' { st with h:=h' } a→Rep X' av v→next (a.put o.dst v) X'.w):o.wp P a X.w next Q∧∀c,o.op≠.defer c:=by
 unfold qkc at h
 cases hcl:kg (E.opd st.t) o.op with
 | some q=>
  obtain⟨f,aargs⟩:=q
  rw[hcl] at h
  simp only at h
  obtain⟨_,x,args,tys,first,caps,hop,hx,ha⟩:=qqE hcl
  simp only at hx ha
  refine⟨?_,fun c hc=>by rw[hop] at hc;cases hc⟩
  cases hsp:qgY E f with
  | none=>rw[hsp] at h;cases h
  | some G=>
   rw[hsp] at h
   obtain⟨r,h1,h2⟩:=bind_some h
   simp only[Tree.run,Option.some.injEq,Prod.mk.injEq] at h2
   obtain⟨rfl,rfl⟩:=h2
   unfold qgY at hsp
   cases hf:E.spec.find? fun x=>x.1==f with
   | none=>rw[hf] at hsp;cases hsp
   | some G'=>
    rw[hf] at hsp
    simp only[Option.map_some,Option.some.injEq] at hsp
    subst hsp
    have hG:=hS G' (List.mem_of_find?_eq_some hf)
    have hfe:G'.1=f:=by simpa using List.find?_some hf
    rw[hfe] at hG
    have hv:=q7A hs x
    rw[hx] at hv
    generalize hev:a.eval x=vx at hv
    cases hv with
    | fn _ _ _ vf vc q1 q2=>
     have hargs:=q5Z hs args.toList
     have hall:RepL X aargs (vf++args.toList.map a.eval++vc):=by rw[ha];exact(q1.append hargs).append q2
     have hcs:(q39 G'.2 aargs st).run=some (r.1,{ st with h:=r.2.h }):=by
      unfold q39 at h1 ⊢
      simp only at h1 ⊢
      split at h1
      ·cases h1
      ·obtain⟨r0,k1,k2⟩:=bind_some h1
       rw[Tree.run_bind,k1]
       simp only[Option.bind_some]
       split at k2
       ·cases k2
       ·cases k2
        rfl
     have g2:=qbu hG hs hall hcs
     have g1:=hG.1 (vf++args.toList.map a.eval++vc).toArray
     unfold Oper.wp
     have hrun:(execOp a.eval o).run P X.w=.ok (.enter f (vf++args.toList.map a.eval++vc).toArray) X.w:=by
      simp only[execOp,hop,resolve,hev,Deferred.ofValue,Sem.run_bind,Sem.run_pure,Result.andThen_ok,invoke]
      have:vf.toArray++args.map a.eval++vc.toArray=(vf++args.toList.map a.eval++vc).toArray:=by
       apply Array.ext';simp
      rw[this]
      exact g1 X.w
     rw[hrun]
     refine g2.mono fun e w' ⟨v,X',e1,e2,e3,e4⟩=>?_
     subst e1 e2
     exact hq X' _ e4 e3
 | none=>
  rw[hcl] at h
  simp only at h
  have hop:(qlu E st.h (E.opd st.t) o.op).run=some (av,h',none)∧∀c,o.op≠.defer c:=by
   cases hst:qkK o.op with
   | true=>
    rw[hst] at h
    obtain⟨r,h1,h3⟩:=bind_some h
    refine⟨?_,fun c hc=>by rw[hc] at hst;cases hst⟩
    split at h3
    ·rename_i hn
     simp only[Tree.run,Option.some.injEq,Prod.mk.injEq] at h3
     rw[h1]
     obtain⟨r1,r2,r3⟩:=r
     simp only at hn h3
     rw[hn,h3.1,h3.2]
    ·cases h3
   | false=>
    rw[hst] at h
    obtain⟨r,h1,h3⟩:=bind_some h
    simp only[Tree.run,Option.some.injEq,Prod.mk.injEq] at h3
    obtain⟨r1,r2⟩:=r
    obtain⟨g1,_,_⟩:=qsY h1
    simp only at h3
    obtain⟨rfl,rfl⟩:=h3
    exact⟨g1,fun c hc=>by rw[hc] at h1;simp[q9u,Tree.run] at h1⟩
  refine⟨?_,hop.2⟩
  obtain⟨nx,v,X',g1,g2,g3,g4,g5⟩:=qju hE hs hop.1
  have hs2:Sim E B X' { st with h:=h' } a:=by
   have:=hs.ext g5.2 g4
   rw[g5.1] at this
   exact this
  unfold Oper.wp
  rw[g1]
  rcases g2 with rfl|⟨rfl,rfl⟩
  ·exact hq X' _ hs2 g3
  ·exact hq X' _ hs2 g3
mutual
theorem qAj:∀(a:AV) (h:List Blk) (b:Nat),b∈(a.lend h).men→b∈a.men
 | .vec c,h,b,hb=>by
  simp only[AV.lend] at hb
  split at hb<;>cases hb
 | .agg cs,h,b,hb=>by simp only[AV.lend,AV.men] at hb ⊢;exact qiJ cs h b hb
 | .tuple cs,h,b,hb=>by simp only[AV.lend,AV.men] at hb ⊢;exact qiJ cs h b hb
 | .undef,_,_,hb|.yld,_,_,hb|.skip,_,_,hb|.blit _,_,_,hb|.bool _,_,_,hb|.ilit _ _,_,_,hb|.int _ _,_,_,hb|.str _,_,_,hb|.nilp,_,_,hb|.ptr _ _,_,_,hb|.eptr _ _ _ _,_,_,hb|.mptr _ _ _ _ _,_,_,hb|.vptr _ _ _,_,_,hb|.vsub _ _,_,_,hb|.aptr _ _ _,_,_,hb|.asub _ _ _ _ _,_,_,hb|.bagg _ _ _ _,_,_,hb|.nils,_,_,hb|.imm _ _,_,_,hb|.nilf,_,_,hb|.fn _ _ _,_,_,hb=>hb
theorem qiJ:∀(l:List AV) (h:List Blk) (b:Nat),b∈AV.menL (AV.lendL h l)→b∈AV.menL l
 | [],_,_,hb=>hb
 | a::l,h,b,hb=>by
  simp only[AV.lendL,AV.menL,List.mem_append] at hb ⊢
  exact hb.imp (qAj a h b) (qiJ l h b)
end
mutual
theorem qwR:∀(a:AV) (h:List Blk),a.men=[]→a.lend h=a
 | .vec b,h,hm=>by simp[AV.men] at hm
 | .agg cs,h,hm=>by simp only[AV.lend];rw[qdv cs h (by simpa[AV.men] using hm)]
 | .tuple cs,h,hm=>by simp only[AV.lend];rw[qdv cs h (by simpa[AV.men] using hm)]
 | .undef,_,_|.yld,_,_|.skip,_,_|.blit _,_,_|.bool _,_,_|.ilit _ _,_,_|.int _ _,_,_|.str _,_,_|.nilp,_,_|.ptr _ _,_,_|.eptr _ _ _ _,_,_|.mptr _ _ _ _ _,_,_|.vptr _ _ _,_,_|.vsub _ _,_,_|.aptr _ _ _,_,_|.asub _ _ _ _ _,_,_|.bagg _ _ _ _,_,_|.nils,_,_|.imm _ _,_,_|.full _ _,_,_|.nilf,_,_|.fn _ _ _,_,_=>rfl
theorem qdv:∀(l:List AV) (h:List Blk),AV.menL l=[]→AV.lendL h l=l
 | [],_,_=>rfl
 | a::l,h,hm=>by
  simp only[AV.menL,List.append_eq_nil_iff] at hm
  simp only[AV.lendL]
  rw[qwR a h hm.1,qdv l h hm.2]
end
theorem qAp{h:List Blk}{b:Nat}{k:Blk}(hb:h[b]?=some k):h.set b k=h:=by
 apply List.ext_getElem?
 intro i
 by_cases hi:i=b
 ·subst hi;rw[List.getElem?_set_self (qp hb),hb]
 ·rw[List.getElem?_set_ne (fun e=>hi e.symm)]
def qd4(h:List Blk)(b:Nat):Bool:=match h[b]? with|some k=>k.plain|none=>false
theorem qeQ:∀(l:List Nat) (h:List Blk),l.all (qd4 h)=true→qgE h l=h
 | [],_,_=>rfl
 | b::l,h,hl=>by
  simp only[List.all_cons,Bool.and_eq_true] at hl
  simp only[qgE]
  split
  ·rename_i cs hb
   have h1:=hl.1
   unfold qd4 at h1
   rw[hb] at h1
   simp only[Blk.plain,List.isEmpty_iff] at h1
   rw[qdv cs h h1,qAp hb]
   exact qeQ l h hl.2
  ·exact qeQ l h hl.2
theorem qbh:∀(l:List Nat) (h:List Blk),l.all (qd4 h)=true→qaF h l=[]
 | [],_,_=>rfl
 | b::l,h,hl=>by
  simp only[List.all_cons,Bool.and_eq_true] at hl
  simp only[qaF]
  split
  ·rename_i cs hb
   have h1:=hl.1
   unfold qd4 at h1
   rw[hb] at h1
   simp only[Blk.plain,List.isEmpty_iff] at h1
   have:cs.flatMap yK=[]:=by
    rw[List.flatMap_eq_nil_iff]
    intro a ha
    rw[List.eq_nil_iff_forall_not_mem]
    intro x hx
    have:=qm2 ha (qks a x hx)
    rw[h1] at this;cases this
   rw[this,qbh l h hl.2];rfl
  ·exact qbh l h hl.2
theorem qdb{h:List Blk}{s c:Nat}{x y:Blk}(hc:c≠s):(h.set s x).set c y=(h.set c y).set s x:=List.set_comm _ _ (fun e=>hc e.symm)
theorem quf{h:List Blk}{s c:Nat}(hc:c≠s):wE (h.set s .dead) c=(wE h c).set s .dead:=by
 unfold wE
 rw[List.getElem?_set_ne (fun e=>hc e.symm)]
 split
 ·exact qdb hc
 ·rfl
theorem qom{s:Nat}:∀(l:List Nat) (h:List Blk),s∉l→zJ (h.set s .dead) l=(zJ h l).set s .dead
 | [],_,_=>rfl
 | c::l,h,hs=>by
  simp only[List.mem_cons,not_or] at hs
  simp only[zJ]
  rw[quf (fun e=>hs.1 e.symm)]
  exact qom l _ hs.2
theorem qle{s:Nat}{h:List Blk}{k:Blk}:∀(l:List Nat),s∉l→q5s (h.set s k) l=q5s h l
 | [],_=>rfl
 | c::l,hs=>by
  simp only[List.mem_cons,not_or] at hs
  simp only[q5s]
  rw[List.getElem?_set_ne (fun e=>hs.1 e),qle l hs.2]
theorem qmF{s:Nat}{h:List Blk}{d:Blk}:∀(l:List Nat) (ks:List Blk),s∉l→yX (h.set s d) l ks=(yX h l ks).map fun x=>x.set s d
 | [],ks,_=>by cases ks<;>rfl
 | c::l,[],_=>rfl
 | c::l,k::ks,hs=>by
  simp only[List.mem_cons,not_or] at hs
  simp only[yX]
  split
  ·rw[qmF l ks hs.2]
   cases yX h l ks with
   | none=>rfl
   | some h2=>
    simp only[Option.map_some]
    rw[qdb (fun e=>hs.1 e.symm)]
  ·rfl
theorem qmv:∀(l:List Nat) (h:List Blk),(zJ h l).length=h.length
 | [],_=>rfl
 | c::l,h=>by
  simp only[zJ]
  rw[qmv l]
  unfold wE
  split<;>simp
theorem qnr:∀(l:List Nat) (h ks h':List Blk),yX h l ks=some h'→h'.length=h.length
 | [],h,ks,h',hp=>by cases ks<;>(simp only[yX,Option.some.injEq] at hp;rw[hp])
 | c::l,h,[],h',hp=>by simp[yX] at hp
 | c::l,h,k::ks,h',hp=>by
  simp only[yX] at hp
  split at hp
  ·cases hq:yX h l ks with
   | none=>rw[hq] at hp;cases hp
   | some h2=>
    rw[hq] at hp
    simp only[Option.map_some,Option.some.injEq] at hp
    rw[←hp,List.length_set,qnr l h ks h2 hq]
  ·cases hp
theorem qAX{args:List AV}{b:Nat}(hb:b∈args.flatMap yK):b∈AV.menL args:=by
 obtain⟨a,ha,hb⟩:=List.mem_flatMap.1 hb
 exact qm2 ha (qks a b hb)
theorem qhd{h:List Blk}{args:List AV}(hp:(AV.menL (AV.lendL (zJ h (args.flatMap yK)) args)).all (qd4 (zJ h (args.flatMap yK)))=true):q5H h args=zJ h (args.flatMap yK):=by
 unfold q5H
 simp only
 rw[qbh _ _ hp]
 exact qeQ _ _ hp
theorem qrm{G:q1h}{args:List AV}{h:List Blk}{r:AV×St}(hr:(q39 G args { t:=[],fs:=[],h:=h,pend:=none }).run=some r){s:Nat}(hs:s<h.length)(hm:s∉AV.menL args)
  (hp:(AV.menL (AV.lendL (zJ h (args.flatMap yK)) args)).all (qd4 (zJ h (args.flatMap yK)))=true) :
  (q39 G args { t:=[],fs:=[],h:=h.set s .dead,pend:=none }).run=some (r.1,{ t:=[],fs:=[],h:=r.2.h.set s .dead,pend:=none }) ∧
  (AV.menL (AV.lendL (zJ (h.set s .dead) (args.flatMap yK)) args)).all (qd4 (zJ (h.set s .dead) (args.flatMap yK)))=true:=by
 have hv:s∉args.flatMap yK:=fun e=>hm (qAX e)
 have e1:=qom _ h hv
 have e2:AV.lendL ((zJ h (args.flatMap yK)).set s .dead) args=AV.lendL (zJ h (args.flatMap yK)) args:=qcC args fun b hb=>List.getElem?_set_ne (fun e=>by subst e;exact hm hb)
 have hfp:s∉AV.menL (AV.lendL (zJ h (args.flatMap yK)) args):=fun e=>hm (qiJ _ _ _ e)
 have hp':(AV.menL (AV.lendL (zJ (h.set s .dead) (args.flatMap yK)) args)).all (qd4 (zJ (h.set s .dead) (args.flatMap yK)))=true:=by
  rw[e1,e2]
  rw[List.all_eq_true] at hp ⊢
  intro b hb
  have:=hp b hb
  unfold qd4 at this ⊢
  rw[List.getElem?_set_ne (fun e=>by subst e;exact hfp hb)]
  exact this
 refine⟨?_,hp'⟩
 have k1:=qhd hp
 have k2:=qhd hp'
 unfold q39 at hr ⊢
 simp only at hr ⊢
 rw[k1] at hr
 rw[k2,e1,e2]
 have hfd:s∉qiZ (AV.menL (AV.lendL (zJ h (args.flatMap yK)) args)):=fun e=>hfp (qgd _ e)
 rw[qle _ hfd]
 generalize hh1:zJ h (args.flatMap yK)=h1 at *
 have hl1:s<h1.length:=by rw[←hh1,qmv];exact hs
 cases htk:q5s h1 (qiZ (AV.menL (AV.lendL h1 args))) with
 | none=>rw[htk] at hr;cases hr
 | some hin=>
  rw[htk] at hr
  simp only at hr ⊢
  obtain⟨r0,q1,q2⟩:=bind_some hr
  rw[Tree.run_bind,q1]
  simp only[Option.bind_some]
  rw[qmF _ _ hfd]
  cases hpt:yX h1 (qiZ (AV.menL (AV.lendL h1 args))) r0.2 with
  | none=>rw[hpt] at q2;cases q2
  | some h2=>
   rw[hpt] at q2
   simp only[Option.map_some] at q2 ⊢
   cases q2
   have hl2:s<h2.length:=by rw[qnr _ _ _ _ hpt];exact hl1
   simp only[Tree.run,List.length_set,Option.some.injEq,Prod.mk.injEq,true_and]
   rw[List.set_append_left _ _ hl2]
theorem qxP{E:Env}{h:List Blk}{t:TypeId}{p v:AV}{r:Res}(hp:qBf p=true){s:Nat}(hm:s∉p.men)(hr:(q8R E h t p v).run=some r) :
  (q8R E (h.set s .dead) t p v).run=some (r.1,r.2.1.set s .dead,r.2.2):=by
 cases p<;>first|(cases hp;done)|skip
 case ptr b off=>
  have hne:b≠s:=fun e=>hm (by simp[AV.men,e])
  unfold q8R at hr ⊢
  simp only at hr ⊢
  rw[List.getElem?_set_ne (fun e=>hne e.symm)]
  have plain:∀{r:Res},(qdj E h t (.ptr b off) v).run=some r→(qdj E (h.set s .dead) t (.ptr b off) v).run=some (r.1,r.2.1.set s .dead,r.2.2):=by
   intro r hr
   unfold qdj at hr ⊢
   simp only at hr ⊢
   rw[List.getElem?_set_ne (fun e=>hne e.symm)]
   split at hr
   ·rename_i hc
    rw[if_pos hc]
    split at hr
    ·split at hr
     ·rename_i hc2
      rw[if_pos hc2]
      cases hr
      simp only[Tree.run,Option.some.injEq,Prod.mk.injEq,true_and,and_true]
      exact qdb hne
     ·cases hr
    ·cases hr
   ·cases hr
  split at hr
  ·unfold qxZ at hr ⊢
   split at hr
   ·split at hr
    ·rename_i hc
     rw[if_pos hc]
     cases hr
     simp only[Tree.run,Option.some.injEq,Prod.mk.injEq,true_and,and_true]
     exact qdb hne
    ·cases hr
   ·split at hr
    ·rename_i hc
     rw[if_pos hc]
     split at hr
     ·cases hr
      simp only[Tree.run,Option.some.injEq,Prod.mk.injEq,true_and,and_true]
      exact qdb hne
     ·split at hr
      ·split at hr
       ·rename_i hc2
        rw[if_pos hc2]
        cases hr
        simp only[Tree.run,Option.some.injEq,Prod.mk.injEq,true_and,and_true]
        exact qdb hne
       ·cases hr
      ·cases hr
    ·cases hr
  ·exact plain hr
 case aptr b o i=>
  have hne:b≠s:=fun e=>hm (by simp[AV.men,e])
  unfold q8R at hr ⊢
  simp only at hr ⊢
  rw[List.getElem?_set_ne (fun e=>hne e.symm)]
  split at hr
  ·split at hr
   ·split at hr
    ·rename_i hc
     rw[if_pos hc]
     simp only[Tree.run] at hr ⊢
     split at hr
     ·cases hr
      simp only[Option.some.injEq,Prod.mk.injEq,true_and,and_true]
      exact qdb hne
     ·cases hr
    ·cases hr
   ·cases hr
  ·cases hr
theorem qy3{h h':List Blk}{s:Sh}{a:AV}(hv:qzj a=true):toU h s a=toU h' s a:=by
 cases a<;>first|(cases hv;done)|(cases s<;>rfl)
theorem qpr{h h':List Blk}:∀(sh:List Sh) (azz:List AV),azz.all qzj=true→qnN h sh azz=qnN h' sh azz
 | [],[],_=>rfl
 | [],_::_,_=>rfl
 | _::_,[],_=>rfl
 | s::sh,a::azz,hv=>by
  simp only[List.all_cons,Bool.and_eq_true] at hv
  simp only[qnN]
  rw[qy3 (h':=h') hv.1,qpr (h':=h') sh azz hv.2]
theorem qA6{p:AV→Bool}{l:List AV}(h:l.all p=true)(n:Nat):(l.take n).all p=true:=by
 rw[List.all_eq_true] at h ⊢
 exact fun x hx=>h x (List.mem_of_mem_take hx)
theorem qAB{p:AV→Bool}{l:List AV}(h:l.all p=true)(n:Nat):(l.drop n).all p=true:=by
 rw[List.all_eq_true] at h ⊢
 exact fun x hx=>h x (List.mem_of_mem_drop hx)
theorem qhY{h h':List Blk}{sh:List Sh}:∀(n:Nat) (cs:List AV),cs.all qzj=true→qf5 h sh n cs=qf5 h' sh n cs
 | 0,[],_=>rfl
 | 0,_::_,_=>rfl
 | n+1,cs,hv=>by
  simp only[qf5]
  rw[qpr (h':=h') _ _ (qA6 hv _),qhY (h':=h') n _ (qAB hv _)]
theorem qxJ{E:Env}{h h':List Blk}{ev:Operand→AV}{op:Op}{v:AV}(hr:(qkc E h ev op).run=some (v,h')){s:Nat}(hs:s<h.length)(hq:s∉qrJ ev op)(hmk:qBq h ev op=true) :
  (qkc E (h.set s .dead) ev op).run=some (v,h'.set s .dead)∧qBq (h.set s .dead) ev op=true:=by
 unfold qkc at hr ⊢
 unfold qBq at hmk ⊢
 unfold qrJ at hq
 cases hc:kg ev op with
 | some q=>
  obtain⟨f,args⟩:=q
  rw[hc] at hr hmk hq
  simp only at hr hmk hq ⊢
  cases hsp:qgY E f with
  | none=>rw[hsp] at hr;cases hr
  | some G=>
   rw[hsp] at hr
   simp only at hr ⊢
   obtain⟨r,h1,h2⟩:=bind_some hr
   cases h2
   obtain⟨g1,g2⟩:=qrm h1 hs hq hmk
   refine⟨?_,g2⟩
   rw[Tree.run_bind,g1]
   rfl
 | none=>
  rw[hc] at hr hmk hq
  simp only at hr hmk hq ⊢
  cases hst:qkK op with
  | true=>
   rw[hst] at hr
   simp only at hr ⊢
   cases op<;>first|(cases hst;done)|skip
   rename_i t x y
   simp only at hmk
   obtain⟨r,h1,h2⟩:=bind_some hr
   refine⟨?_,hmk⟩
   have hm:s∉(ev x).men:=fun e=>hq (by simp[Op.operands,AV.menL,e])
   have:=qxP hmk hm h1
   rw[Tree.run_bind,show (qlu E (h.set s .dead) ev (.store t x y)).run=some (r.1,r.2.1.set s .dead,r.2.2) from this]
   simp only[Option.bind_some]
   obtain⟨r1,r2,r3⟩:=r
   cases r3 with
   | none=>cases h2;rfl
   | some _=>cases h2
  | false=>
   rw[hst] at hr
   simp only at hr ⊢
   cases op<;>simp only at hmk<;>first|(cases hmk;done)|skip
   case box t x=>
    refine⟨?_,rfl⟩
    unfold q9u qnL at hr ⊢
    simp only at hr ⊢
    cases hb:qlh (ev x) with
    | none=>rw[hb] at hr;cases hr
    | some z=>
     rw[hb] at hr
     simp only at hr ⊢
     cases hr
     simp only[Tree.bind,Tree.run,List.length_set,Option.some.injEq,Prod.mk.injEq,true_and]
     rw[List.set_append_left _ _ hs]
   case buildSlice t len parts=>
    refine⟨?_,rfl⟩
    unfold q9u at hr ⊢
    simp only at hr ⊢
    cases hd:(E.ty t).d<;>rw[hd] at hr<;>simp only at hr ⊢<;>first|(cases hr;done)|skip
    rename_i e es
    split at hr
    ·rename_i hc
     rw[if_pos hc]
     cases hf:qbn (fun i=>some (i*es,es)) ((List.replicate len ((E.ty e).zero.map jk)).flatten) (parts.toList.map fun p=>(p.1,ev p.2)) with
     | none=>rw[hf] at hr;cases hr
     | some cs=>
      cases hs2:E.shape 16 e with
      | none=>rw[hf,hs2] at hr;cases hr
      | some sh=>
       rw[hf,hs2] at hr
       simp only at hr ⊢
       split at hr
       ·rename_i hl
        rw[if_pos hl,qhY (h':=h) _ _ hl.2]
        cases hch:qf5 h sh len cs with
        | none=>rw[hch] at hr;cases hr
        | some l=>
         rw[hch] at hr
         simp only at hr ⊢
         cases hr
         simp only[Tree.bind,Tree.run,List.length_set,Option.some.injEq,Prod.mk.injEq,true_and]
         rw[List.set_append_left _ _ hs]
       ·cases hr
    ·cases hr
   case store t x y=>cases hst
def q1Q(D:Nat→Desc)(L:Nat→Bool):Nat→List Blk→List Blk
 | 0,h=>h
 | n+1,h=>match D n,L n with
  | .alc s,false=>(q1Q D L n h).set s .dead
  | _,_=>q1Q D L n h
def q3y(D:Nat→Desc)(L:Nat→Bool)(n a s:Nat):Prop:=a<n∧D a=.alc s∧L a=false
section
variable {D:Nat→Desc} {L L':Nat→Bool} {h:List Blk}
theorem uR(n:Nat):(∃s,D n=.alc s∧L n=false∧q1Q D L (n+1) h=(q1Q D L n h).set s .dead)∨((∀s,¬(D n=.alc s∧L n=false))∧q1Q D L (n+1) h=q1Q D L n h):=by
 simp only[q1Q]
 cases hD:D n with
 | alc s=>
  cases hL:L n with
  | false=>exact .inl ⟨s,rfl,rfl,rfl⟩
  | true=>exact .inr ⟨fun s h=>(by cases h.2),rfl⟩
 | _=>exact .inr ⟨fun s h=>(by cases h.1),rfl⟩
theorem q9K:∀n,(q1Q D L n h).length=h.length
 | 0=>rfl
 | n+1=>by
  rcases uR (D:=D) (L:=L) (h:=h) n with⟨s,_,_,e⟩|⟨_,e⟩
  ·rw[e,List.length_set,q9K n]
  ·rw[e,q9K n]
theorem qf2{b:Nat}:∀n,(∀a s,q3y D L n a s→s≠b)→(q1Q D L n h)[b]?=h[b]?
 | 0,_=>rfl
 | n+1,hb=>by
  have ih:=qf2 n fun a s hm=>hb a s ⟨by have:=hm.1;omega,hm.2⟩
  rcases uR (D:=D) (L:=L) (h:=h) n with⟨s,h1,h2,e⟩|⟨_,e⟩
  ·rw[e,List.getElem?_set_ne (hb n s ⟨Nat.lt_succ_self n,h1,h2⟩),ih]
  ·rw[e,ih]
theorem qns(n:Nat)(hall:∀a s,¬q3y D L n a s):q1Q D L n h=h:=by
 apply List.ext_getElem?
 intro b
 exact qf2 n fun a s hm=>absurd hm (hall a s)
theorem qhZ:∀n,(∀a s,a<n→D a=.alc s→L a=L' a)→q1Q D L n h=q1Q D L' n h
 | 0,_=>rfl
 | n+1,hl=>by
  have ih:=qhZ n fun a s ha hd=>hl a s (by omega) hd
  simp only[q1Q]
  cases hD:D n with
  | alc s=>rw[←hl n s (Nat.lt_succ_self n) hD];cases L n<;>simp only[ih]
  | _=>simp only[ih]
theorem qfV{a s:Nat}(hs:s<h.length):∀n,q3y D L n a s→(q1Q D L n h)[s]?=some .dead
 | 0,hm=>by have:=hm.1;omega
 | n+1,hm=>by
  rcases uR (D:=D) (L:=L) (h:=h) n with⟨s',h1,h2,e⟩|⟨h1,e⟩
  ·rw[e]
   by_cases hss:s'=s
   ·subst hss;rw[List.getElem?_set_self (by rw[q9K];exact hs)]
   ·rw[List.getElem?_set_ne hss]
    have hna:a≠n:=fun e=>by
     have:=hm.2.1;rw[e,h1] at this;cases this;exact hss rfl
    exact qfV hs n ⟨by have:=hm.1;omega,hm.2⟩
  ·rw[e]
   have hna:a≠n:=fun e=>h1 s (by rw[←e];exact hm.2)
   exact qfV hs n ⟨by have:=hm.1;omega,hm.2⟩
theorem qyC{n a s:Nat}{z:Blk}(hm:q3y D L n a s)(hz:h[s]?=some z)(hd:∀a' s',q3y D L n a' s'→a'≠a→s'≠s) :
  q1Q D (fun j=>if j=a then true else L j) n h=(q1Q D L n h).set s z:=by
 apply List.ext_getElem?
 intro b
 by_cases hb:b=s
 ·subst hb
  rw[List.getElem?_set_self (by rw[q9K];exact qp hz),qf2 n,hz]
  intro a' s' hm'
  have hna:a'≠a:=fun e=>by have:=hm'.2.2;simp[e] at this
  have:=hm'.2.2
  simp only[if_neg hna] at this
  exact hd a' s' ⟨hm'.1,hm'.2.1,this⟩ hna
 ·rw[List.getElem?_set_ne (fun e=>hb e.symm)]
  have:∀n,(q1Q D (fun j=>if j=a then true else L j) n h)[b]?=(q1Q D L n h)[b]?:=by
   intro n
   induction n with
   | zero=>rfl
   | succ n ih=>
    by_cases hna:n=a
    ·subst hna
     rcases uR (D:=D) (L:=fun j=>if j=n then true else L j) (h:=h) n with⟨s',h1,h2,e⟩|⟨_,e⟩
     ·simp at h2
     ·rw[e,ih]
      rcases uR (D:=D) (L:=L) (h:=h) n with⟨s',h1,h2,e'⟩|⟨_,e'⟩
      ·rw[e']
       have hs':s'=s:=by have:=hm.2.1;rw[h1] at this;cases this;rfl
       rw[hs',List.getElem?_set_ne (fun e=>hb e.symm)]
      ·rw[e']
    ·rcases uR (D:=D) (L:=L) (h:=h) n with⟨s',h1,h2,e'⟩|⟨h0,e'⟩
     ·rcases uR (D:=D) (L:=fun j=>if j=a then true else L j) (h:=h) n with⟨s2,k1,k2,e⟩|⟨k0,e⟩
      ·rw[h1] at k1;cases k1
       rw[e,e']
       by_cases hbs:s'=b
       ·subst hbs
        rw[List.getElem?_set,List.getElem?_set]
        simp only[if_true,q9K]
       ·rw[List.getElem?_set_ne hbs,List.getElem?_set_ne hbs,ih]
      ·exact absurd ⟨h1,by simp[hna,h2]⟩ (k0 s')
     ·rcases uR (D:=D) (L:=fun j=>if j=a then true else L j) (h:=h) n with⟨s2,k1,k2,e⟩|⟨k0,e⟩
      ·exact absurd ⟨k1,by simpa[hna] using k2⟩ (h0 s2)
      ·rw[e,e',ih]
  exact this n
theorem qt5{s:Nat}(hs:s∉q59 h):∀n,s∉q59 (q1Q D L n h)
 | 0=>hs
 | n+1=>by
  have ih:=qt5 hs n
  rcases uR (D:=D) (L:=L) (h:=h) n with⟨s',h1,h2,e⟩|⟨_,e⟩
  ·rw[e]
   have:∀(l:List Blk) (i:Nat),s∉q59 l→s∉q59 (l.set i .dead):=by
    intro l
    induction l with
    | nil=>intro i h;simpa using h
    | cons k l ihl=>
     intro i h
     simp only[q59,List.mem_append,not_or] at h
     cases i with
     | zero=>simp only[List.set_cons_zero,q59,Blk.menB,List.nil_append];exact h.2
     | succ i=>
      simp only[List.set_cons_succ,q59,List.mem_append,not_or]
      exact⟨h.1,ihl i h.2⟩
   exact this _ _ ih
  ·rw[e];exact ih
theorem qoa{E:Env}{h':List Blk}{ev:Operand→AV}{op:Op}{v:AV}(hr:(qkc E h ev op).run=some (v,h')):∀n,(∀a s,q3y D L n a s→s<h.length∧s∉qrJ ev op∧qBq h ev op=true) →
  (qkc E (q1Q D L n h) ev op).run=some (v,q1Q D L n h')∧((∃a s,q3y D L n a s)→qBq (q1Q D L n h) ev op=true)
 | 0,_=>⟨hr,fun⟨a,s,hm⟩=>by have:=hm.1;omega⟩
 | n+1,hc=>by
  obtain⟨i1,i2⟩:=qoa hr n fun a s hm=>hc a s ⟨by have:=hm.1;omega,hm.2⟩
  have up:∀a s,q3y D L n a s→q3y D L (n+1) a s:=fun a s hm=>⟨by have:=hm.1;omega,hm.2⟩
  rcases uR (D:=D) (L:=L) (h:=h) n with⟨s,h1,h2,e⟩|⟨h0,e⟩
  ·rcases uR (D:=D) (L:=L) (h:=h') n with⟨s',h1',_,e'⟩|⟨h0',e'⟩
   ·rw[h1] at h1';cases h1'
    obtain⟨c1,c2,c3⟩:=hc n s ⟨Nat.lt_succ_self n,h1,h2⟩
    have hmk:qBq (q1Q D L n h) ev op=true:=by
     by_cases hex:∃a s,q3y D L n a s
     ·exact i2 hex
     ·rw[qns n fun a s hm=>hex ⟨a,s,hm⟩];exact c3
    obtain⟨g1,g2⟩:=qxJ i1 (s:=s) (by rw[q9K];exact c1) c2 hmk
    rw[e,e']
    exact⟨g1,fun _=>g2⟩
   ·exact absurd ⟨h1,h2⟩ (h0' s)
  ·rcases uR (D:=D) (L:=L) (h:=h') n with⟨s',h1',h2',e'⟩|⟨h0',e'⟩
   ·exact absurd ⟨h1',h2'⟩ (h0 s')
   ·rw[e,e']
    refine⟨i1,fun⟨a,s,hm⟩=>i2 ⟨a,s,?_,hm.2⟩⟩
    rcases Nat.lt_or_ge a n with ha|ha
    ·exact ha
    ·have:a=n:=by have:=hm.1;omega
     subst this
     exact absurd hm.2 (h0 s)
end
def Desc.isE:Desc→Bool
 | .eff _ _ _ _ _ _=>true
 | _=>false
def qj5(E:Env)(callS:List Blk→q2c)(all:Array Oper)(h0:List Blk)(i:Nat)(o:Oper)(T:List AV)(v:AV)(h h':List Blk)(d:Desc):Prop:=
 (u5 all o T=some false∧v=.skip∧h'=h∧d=.skip) ∨
 (u5 all o T=some true∧∃u,(qmM E callS h (E.opd T) o.op).run=some (u,h')∧v=qs5 all i u∧d=qch E h (E.opd T) o.op u h') ∨
 (u5 all o T=some true∧h'=h∧∃t z s,o.op=.alloc t∧q2J E t=some z∧h0[s]?=some z∧d=.alc s∧v=.ptr s 0)
theorem qtz{anc:List Nat}{x:Nat×Desc}{k:Nat}:q3r anc x k .skip=true:=by
 obtain⟨i,d⟩:=x
 cases d<;>simp[q3r,q5L]
theorem quI{anc:List Nat}{i k:Nat}{d:Desc}:q3r anc (i,.skip) k d=true:=by
 cases d<;>simp[q3r,q5L]
theorem qty{op:Op}{t:TypeId}(h:qnM op=some t):op=.alloc t:=by
 unfold qnM at h
 split at h
 ·cases h;rfl
 ·cases h
end Go.Eng

namespace Go.Eng
theorem qpC{E:Env}{callS:List Blk→q2c}{all:Array Oper}{anc:List Nat}{h0:List Blk}:∀(l:List Oper) (k c:Nat) (ds:List (Nat×Desc)) (st st':St) (zs:List Blk),
  qiO E l=some zs→(∀j z,zs[j]?=some z→h0[c+j]?=some z)→(qsm E callS all anc k l c ds st).run=some st' →
  ∃(V:Nat→AV) (H:Nat→List Blk) (D:Nat→Desc),H k=st.h∧st'={ st with t:=q56 V k l st.t,h:=H (k+l.length) } ∧
   (∀j o,l[j]?=some o→qj5 E callS all h0 (k+j) o (q56 V k (l.take j) st.t) (V (k+j)) (H (k+j)) (H (k+j+1)) (D (k+j))) ∧
   (∀j,j<l.length→∀x,x∈ds→q3r anc x (k+j) (D (k+j))=true) ∧
   (∀j j',j<j'→j'<l.length→q3r anc (k+j,D (k+j)) (k+j') (D (k+j'))=true) ∧
   (∀j,j<zs.length→∃i,i<l.length∧D (k+i)=.alc (c+j))∧(∀i s,i<l.length→D (k+i)=.alc s→c≤s∧s<c+zs.length)
 | [],k,c,ds,st,st',zs,hal,_,h=>by
  simp only[qsm,Tree.run,Option.some.injEq] at h
  subst h
  simp only[qiO,Option.some.injEq] at hal
  subst hal
  exact⟨fun _=>.undef,fun _=>st.h,fun _=>.skip,rfl,rfl,fun j o hj=>by simp at hj,fun j hj=>by simp at hj,fun j j' _ hj=>by simp at hj,fun j hj=>by simp at hj,fun i s hi=>by simp at hi⟩
 | o::rest,k,c,ds,st,st',zs,hal,hz,h=>by
  have fin:∀(v:AV) (h':List Blk) (d:Desc) (c':Nat) (ds':List (Nat×Desc)) (zs':List Blk),qiO E rest=some zs'→(∀j z,zs'[j]?=some z→h0[c'+j]?=some z) →
    ((c'=c∧zs'=zs∧∀s,d≠.alc s)∨(d=.alc c∧c'=c+1∧zs.length=zs'.length+1))→qj5 E callS all h0 k o st.t v st.h h' d→(∀x,x∈ds→q3r anc x k d=true)→(∀x,x∈ds→x∈ds')→(d=.skip∨(k,d)∈ds') →
    (qsm E callS all anc (k+1) rest c' ds' { st with t:=qeu st.t o.dst v,h:=h' }).run=some st' →
    ∃(V:Nat→AV) (H:Nat→List Blk) (D:Nat→Desc),H k=st.h∧st'={ st with t:=q56 V k (o::rest) st.t,h:=H (k+(o::rest).length) } ∧
   (∀j o',(o::rest)[j]?=some o'→qj5 E callS all h0 (k+j) o' (q56 V k ((o::rest).take j) st.t) (V (k+j)) (H (k+j)) (H (k+j+1)) (D (k+j))) ∧
   (∀j,j<(o::rest).length→∀x,x∈ds→q3r anc x (k+j) (D (k+j))=true) ∧
   (∀j j',j<j'→j'<(o::rest).length→q3r anc (k+j,D (k+j)) (k+j') (D (k+j'))=true) ∧
   (∀j,j<zs.length→∃i,i<(o::rest).length∧D (k+i)=.alc (c+j))∧(∀i s,i<(o::rest).length→D (k+i)=.alc s→c≤s∧s<c+zs.length):=by
   intro v h' d c' ds' zs' hal' hz' hrel hmx hcr hds hd hr
   obtain⟨V,H,D,e1,e2,e3,e4,e5,e6,e7⟩:=qpC rest (k+1) c' ds' _ st' zs' hal' hz' hr
   have hfold:∀(l:List Oper) (t:List AV),q56 (fun j=>if j=k then v else V j) (k+1) l t=q56 V (k+1) l t:=fun l t=>qhP l (k+1) t fun j hj=>if_neg (by omega)
   refine⟨fun j=>if j=k then v else V j,fun j=>if j=k then st.h else H j,fun j=>if j=k then d else D j,by simp,?_,?_,?_,?_,?_,?_⟩
   ·rw[e2]
    simp only[q56,if_true,List.length_cons]
    rw[hfold,if_neg (by omega),show k+(rest.length+1)=k+1+rest.length by omega]
   ·intro j o' hj
    cases j with
    | zero=>
     simp only[List.getElem?_cons_zero,Option.some.injEq] at hj
     subst hj
     simp only[Nat.add_zero,if_true,List.take_zero,q56]
     rw[if_neg (by omega),e1]
     exact hmx
    | succ j=>
     have:=e3 j o' (by simpa using hj)
     simp only[List.take_succ_cons,q56,if_true]
     rw[hfold,show k+(j+1)=k+1+j by omega,if_neg (by omega),if_neg (by omega),if_neg (by omega),if_neg (by omega)]
     exact this
   ·intro j hj x hx
    cases j with
    | zero=>simp only[Nat.add_zero,if_true];exact hcr x hx
    | succ j=>
     have:=e4 j (by simpa using hj) x (hds x hx)
     simp only
     rw[show k+(j+1)=k+1+j by omega,if_neg (by omega)]
     exact this
   ·intro j j' hjj hj'
    obtain⟨j'',rfl⟩:∃x,j'=x+1:=⟨j'-1,by omega⟩
    have hl:j''<rest.length:=by simpa using hj'
    simp only
    rw[show k+(j''+1)=k+1+j'' by omega,if_neg (show ¬k+1+j''=k by omega)]
    cases j with
    | zero=>
     simp only[Nat.add_zero,if_true]
     rcases hd with rfl|hd
     ·exact quI
     ·exact e4 j'' hl _ hd
    | succ j=>
     rw[show k+(j+1)=k+1+j by omega,if_neg (by omega)]
     exact e5 j j'' (by omega) hl
   ·intro j hj
    rcases hrel with⟨rfl,rfl,_⟩|⟨rfl,rfl,hzl⟩
    ·obtain⟨i,h1,h2⟩:=e6 j hj
     refine⟨i+1,by simpa using h1,?_⟩
     simp only
     rw[show k+(i+1)=k+1+i by omega,if_neg (by omega)]
     exact h2
    ·cases j with
     | zero=>exact⟨0,by simp,by simp⟩
     | succ j=>
      obtain⟨i,h1,h2⟩:=e6 j (by omega)
      refine⟨i+1,by simpa using h1,?_⟩
      simp only
      rw[show k+(i+1)=k+1+i by omega,if_neg (by omega),h2]
      congr 1;omega
   ·intro i s hi hs
    cases i with
    | zero=>
     simp only[Nat.add_zero,if_true] at hs
     rcases hrel with⟨_,_,h3⟩|⟨h3,_,hzl⟩
     ·exact absurd hs (h3 s)
     ·rw[h3] at hs;cases hs;omega
    | succ i=>
     simp only at hs
     rw[show k+(i+1)=k+1+i by omega,if_neg (by omega)] at hs
     have:=e7 i s (by simpa using hi) hs
     rcases hrel with⟨rfl,rfl,_⟩|⟨_,rfl,hzl⟩
     ·exact this
     ·omega
  simp only[qsm] at h
  simp only[qiO] at hal
  cases hao:qnM o.op with
  | some t=>
   rw[hao] at hal h
   simp only at hal h
   have hop:=qty hao
   cases hg:o.guard with
   | some _=>rw[hg] at hal;cases hal
   | none=>
    rw[hg] at hal
    cases hab:q2J E t with
    | none=>rw[hab] at hal;cases hal
    | some z=>
     rw[hab] at hal
     cases har:qiO E rest with
     | none=>rw[har] at hal;cases hal
     | some zs'=>
      rw[har] at hal
      simp only[Option.some.injEq] at hal
      subst hal
      have hw:u5 all o st.t=some true:=by unfold u5;rw[hg]
      rw[hw] at h
      simp only at h
      split at h
      ·rename_i hall
       rw[List.all_eq_true] at hall
       refine fin (.ptr c 0) st.h (.alc c) (c+1) _ zs' har (fun j z' hj=>?_) (.inr ⟨rfl,rfl,rfl⟩) (.inr (.inr ⟨hw,rfl,t,z,c,hop,hab,hz 0 z rfl,rfl,rfl⟩)) hall (fun x hx=>List.mem_append_left _ hx) (.inr (List.mem_append_right _ List.mem_cons_self)) h
       have:=hz (j+1) z' (by simpa using hj)
       rw[show c+1+j=c+(j+1) by omega];exact this
      ·cases h
  | none=>
   rw[hao] at hal h
   simp only at hal h
   cases hw:u5 all o st.t with
   | none=>rw[hw] at h;cases h
   | some b=>
    rw[hw] at h
    cases b with
    | true=>
     simp only at h
     obtain⟨r,h1,h2⟩:=bind_some h
     split at h2
     ·rename_i hall
      obtain⟨s,h3,h4⟩:=bind_some h2
      obtain⟨u,h'⟩:=r
      obtain rfl:=qsM (st:={ st with h:=h' }) h3
      rw[List.all_eq_true] at hall
      exact fin _ h' _ c _ zs hal hz (.inl ⟨rfl,rfl,fun s hs=>by unfold qch at hs;split at hs<;>cases hs⟩) (.inr (.inl ⟨hw,u,h1,rfl,rfl⟩)) hall (fun x hx=>List.mem_append_left _ hx) (.inr (List.mem_append_right _ List.mem_cons_self)) h4
     ·cases h2
    | false=>
     simp only at h
     exact fin .skip st.h .skip c ds zs hal hz (.inl ⟨rfl,rfl,fun s hs=>by cases hs⟩) (.inl ⟨hw,rfl,rfl,rfl⟩) (fun x _=>qtz) (fun x hx=>hx) (.inl rfl) h
theorem qsj{s:Nat}:∀(l:List AV) (i:Nat) (v:AV),s∉AV.menL l→s∉v.men→s∉AV.menL (l.set i v)
 | [],_,_,h,_=>by simpa using h
 | a::l,0,v,h,hv=>by
  simp only[AV.menL,List.mem_append,not_or] at h
  simp only[List.set_cons_zero,AV.menL,List.mem_append,not_or]
  exact⟨hv,h.2⟩
 | a::l,i+1,v,h,hv=>by
  simp only[AV.menL,List.mem_append,not_or] at h
  simp only[List.set_cons_succ,AV.menL,List.mem_append,not_or]
  exact⟨h.1,qsj l i v h.2 hv⟩
theorem qrz{dst:Nat→Option Tmp}{V:Nat→AV}{T0:List AV}{L:Nat→Bool}{s:Nat}(h0:s∉AV.menL T0):∀n,(∀j,j<n→L j=true→s∉(V j).men)→s∉AV.menL (TLp dst V T0 L n)
 | 0,_=>h0
 | n+1,h=>by
  have ih:=qrz (dst:=dst) (V:=V) (L:=L) h0 n fun j hj=>h j (by omega)
  simp only[TLp]
  split
  ·rename_i hl
   cases hd:dst n with
   | none=>exact ih
   | some d=>exact qsj _ _ _ ih (h n (Nat.lt_succ_self n) hl)
  ·exact ih
theorem qmN{all:Array Oper}{k:Nat}{v:AV}{s:Nat}(h:s∉v.men):s∉(qs5 all k v).men:=by
 unfold qs5
 split
 ·split
  ·simp[AV.men]
  ·exact h
 ·exact h
theorem qAQ{E:Env}{callS:List Blk→q2c}{all:Array Oper}{h0:List Blk}{i:Nat}{o:Oper}{T:List AV}{v:AV}{h h':List Blk}{d:Desc}{s:Nat}(hm:qj5 E callS all h0 i o T v h h' d)(hs:q5L s d=true):s∉v.men:=by
 rcases hm with⟨_,h1,_,_⟩|⟨_,u,_,h1,h2⟩|⟨_,_,t,z,s',_,_,_,h1,h2⟩
 ·rw[h1];simp[AV.men]
 ·rw[h1]
  apply qmN
  rw[h2] at hs
  unfold qch at hs
  split at hs
  ·simp only[q5L,Bool.and_eq_true,Bool.not_eq_true',List.contains_eq_mem,decide_eq_false_iff_not] at hs
   exact hs.1.2
  ·simp only[q5L,Bool.and_eq_true,Bool.not_eq_true',List.contains_eq_mem,decide_eq_false_iff_not] at hs
   exact hs.2
 ·rw[h2]
  rw[h1] at hs
  intro hm
  simp only[AV.men,List.mem_singleton] at hm
  subst hm
  simp[q5L] at hs
section
variable {E:Env} {P:Program} {callS:List Blk→q2c} {B:Base} {all:Array Oper} {V:Nat→AV} {T0:List AV} {H:Nat→List Blk} {D:Nat→Desc} {fs:List (List AV)} {pd:Option Ex} {Q:Exit→Act→World→Prop} {n0 m:Nat} {h0:List Blk}
theorem qCo{h h':List Blk}{ev:Operand→AV}{op:Op}{v:AV}:(qch E h ev op v h').isE=qr2 E h ev op:=by
 unfold qch
 cases qr2 E h ev op<;>rfl
theorem qcA(hms:m≤all.size)(hV:∀i o,all[i]?=some o→i<m→qj5 E callS all h0 i o (TLp (qU all) V T0 (fun _=>true) i) (V i) (H i) (H (i+1)) (D i)) :
  ∀(n lo:Nat),lo+n≤m→(∀k,lo≤k→k<lo+n→(D k).isE=false)→H (lo+n)=H lo
 | 0,_,_,_=>rfl
 | n+1,lo,hm,hno=>by
  have ih:=qcA hms hV n lo (by omega) fun k h1 h2=>hno k h1 (by omega)
  rw[←ih]
  have hk:lo+n<all.size:=by omega
  have hd:=hno (lo+n) (by omega) (by omega)
  rcases hV (lo+n) _ (Array.getElem?_eq_getElem hk) (by omega) with⟨_,_,h3,_⟩|⟨_,u,h3,_,h2⟩|⟨_,h3,_⟩
  ·exact h3
  ·rw[h2,qCo] at hd
   unfold qmM at h3
   rw[hd] at h3
   obtain⟨v,g1,g2⟩:=bind_some h3
   simp only[Tree.run,Option.some.injEq,Prod.mk.injEq] at g2
   exact g2.2.symm
  ·exact h3
theorem qw5(hms:m≤all.size)(hV:∀i o,all[i]?=some o→i<m→qj5 E callS all h0 i o (TLp (qU all) V T0 (fun _=>true) i) (V i) (H i) (H (i+1)) (D i)){b k:Nat}(hk:k<m)
  (hno:∀N w q mm v mk,D k=.eff N w q mm v mk→b<(H k).length∧b∉w):(H (k+1))[b]?=(H k)[b]?:=by
 have hk':k<all.size:=by omega
 rcases hV k _ (Array.getElem?_eq_getElem hk') hk with⟨_,_,h3,_⟩|⟨_,u,h3,_,h2⟩|⟨_,h3,_⟩
 ·rw[h3]
 ·unfold qmM at h3
  unfold qch at h2
  cases he:qr2 E (H k) (E.opd (TLp (qU all) V T0 (fun _=>true) k)) all[k].op with
  | true=>
   rw[he] at h2 h3
   obtain⟨q1,q2⟩:=hno _ _ _ _ _ _ h2
   exact quv h3 q1 q2
  | false=>
   rw[he] at h3
   obtain⟨v,g1,g2⟩:=bind_some h3
   simp only[Tree.run,Option.some.injEq,Prod.mk.injEq] at g2
   rw[←g2.2]
 ·rw[h3]
theorem qDG(hms:m≤all.size)(hV:∀i o,all[i]?=some o→i<m→qj5 E callS all h0 i o (TLp (qU all) V T0 (fun _=>true) i) (V i) (H i) (H (i+1)) (D i)){k:Nat}(hk:k<m){N:Nat}{w q mm v:List Nat}{mk:Bool}
  (hd:D k=.eff N w q mm v mk):N=(H k).length∧mm=q59 (H (k+1)):=by
 have hk':k<all.size:=by omega
 rcases hV k _ (Array.getElem?_eq_getElem hk') hk with⟨_,_,_,h3⟩|⟨_,u,h3,_,h2⟩|⟨_,_,_,_,_,_,_,_,h3,_⟩
 ·rw[hd] at h3;cases h3
 ·rw[hd] at h2
  unfold qch at h2
  split at h2
  ·cases h2;exact⟨rfl,rfl⟩
  ·cases h2
 ·rw[hd] at h3;cases h3
theorem qrM(hms:m≤all.size)(hV:∀i o,all[i]?=some o→i<m→qj5 E callS all h0 i o (TLp (qU all) V T0 (fun _=>true) i) (V i) (H i) (H (i+1)) (D i)){b:Nat} :
  ∀(n lo:Nat),lo+n≤m→(∀k,lo≤k→k<lo+n→∀N w q mm v mk,D k=.eff N w q mm v mk→b<N∧b∉w)→(H (lo+n))[b]?=(H lo)[b]?
 | 0,_,_,_=>rfl
 | n+1,lo,hm,hno=>by
  have ih:=qrM hms hV n lo (by omega) fun k h1 h2=>hno k h1 (by omega)
  rw[←ih]
  exact qw5 (k:=lo+n) hms hV (by omega) fun N w q mm v mk hd=>by
   obtain⟨g1,g2⟩:=hno (lo+n) (by omega) (by omega) N w q mm v mk hd
   rw[←(qDG (k:=lo+n) hms hV (by omega) hd).1]
   exact⟨g1,g2⟩
theorem qqy(hms:m≤all.size)(hV:∀i o,all[i]?=some o→i<m→qj5 E callS all h0 i o (TLp (qU all) V T0 (fun _=>true) i) (V i) (H i) (H (i+1)) (D i)){b:Nat}{z:Blk}(hz:(H 0)[b]?=some z) :
  ∀(n:Nat),n≤m→(∀k,k<n→∀N w q mm v mk,D k=.eff N w q mm v mk→b∉w)→(H n)[b]?=some z
 | 0,_,_=>hz
 | n+1,hm,hno=>by
  have ih:=qqy hms hV hz n (by omega) fun k h1=>hno k (by omega)
  rw[←ih]
  exact qw5 (k:=n) hms hV (by omega) fun N w q mm v mk hd=>⟨qp ih,hno n (by omega) N w q mm v mk hd⟩
theorem qyc(hms:m≤all.size)(hV:∀i o,all[i]?=some o→i<m→qj5 E callS all h0 i o (TLp (qU all) V T0 (fun _=>true) i) (V i) (H i) (H (i+1)) (D i)){s:Nat}(hz:s∉q59 (H 0)) :
  ∀(n:Nat),n≤m→(∀k,k<n→∀N w q mm v mk,D k=.eff N w q mm v mk→s∉mm)→s∉q59 (H n)
 | 0,_,_=>hz
 | n+1,hm,hno=>by
  have ih:=qyc hms hV hz n (by omega) fun k h1=>hno k (by omega)
  cases hd:D n with
  | eff N w q mm v mk=>
   rw[←(qDG (k:=n) hms hV (by omega) hd).2]
   exact hno n (by omega) N w q mm v mk hd
  | _=>
   have:=qcA hms hV 1 n (by omega) fun k h1 h2=>by
    obtain rfl:k=n:=by omega
    rw[hd];rfl
   rw[this];exact ih
theorem qnd{r:Option (List Nat)}{n:Nat}{w:List Nat}(h:qt8 r n w=true):∃R,r=some R∧∀b,b∈R→b<n∧b∉w:=by
 unfold qt8 at h
 cases r with
 | none=>cases h
 | some R=>
  refine⟨R,rfl,fun b hb=>?_⟩
  simp only[List.all_eq_true,Bool.and_eq_true,Bool.not_eq_true',List.contains_eq_mem,decide_eq_false_iff_not] at h
  obtain⟨h1,h2⟩:=h b hb
  exact⟨Nat.blt_eq.mp h1,h2⟩
theorem quO{anc:List Nat}{a k s:Nat}{d:Desc}(h:q3r anc (a,.alc s) k d=true)(hn:qoA anc k a=false):q5L s d=true:=by
 unfold q3r at h
 simp only[Bool.and_eq_true,hn,Bool.false_or] at h
 exact h.1
theorem qsH{anc:List Nat}{x:Nat×Desc}{k s:Nat}(h:q3r anc x k (.alc s)=true):q5L s x.2=true:=by
 unfold q3r at h
 simp only[Bool.and_eq_true] at h
 exact h.2.1
theorem qfS{s N:Nat}{w q mm v:List Nat}{mk:Bool}(h:q5L s (.eff N w q mm v mk)=true):s∉w∧s∉q∧s∉mm∧s∉v∧mk=true:=by
 simp only[q5L,Bool.and_eq_true,Bool.not_eq_true',List.contains_eq_mem,decide_eq_false_iff_not] at h
 exact⟨h.1.1.1.1,h.1.1.1.2,h.1.1.2,h.1.2,h.2⟩
theorem qlv{s:Nat}{r:Option (List Nat)}{v:List Nat}(h:q5L s (.still r v)=true):(∃R,r=some R∧s∉R)∧s∉v:=by
 cases r with
 | none=>simp[q5L] at h
 | some R=>
  simp only[q5L,Bool.and_eq_true,Bool.not_eq_true',List.contains_eq_mem,decide_eq_false_iff_not] at h
  exact⟨⟨R,rfl,h.1⟩,h.2⟩
theorem qw8(_:DrawOk all)(_:m≤all.size)(_:∀i o,all[i]?=some o→i<m→qj5 E callS all h0 i o (TLp (qU all) V T0 (fun _=>true) i) (V i) (H i) (H (i+1)) (D i))
  (hX:∀i j,i<j→j<m→q3r (q31 all.toList) (i,D i) j (D j)=true)
  {L:Nat→Bool} (_:qbX all L) {a s:Nat} (hm:q3y D L m a s) {k:Nat} (hk:k<m) (hka:k≠a) (hn:qoA (q31 all.toList) k a=false):q5L s (D k)=true:=by
 obtain⟨h1,h2,h3⟩:=hm
 rcases Nat.lt_or_ge a k with h|h
 ·have:=hX a k h hk
  rw[h2] at this
  exact quO this hn
 ·have:=hX k a (by omega) h1
  rw[h2] at this
  exact qsH this
theorem qaA(hd:DrawOk all)(hms:m≤all.size)(hV:∀i o,all[i]?=some o→i<m→qj5 E callS all h0 i o (TLp (qU all) V T0 (fun _=>true) i) (V i) (H i) (H (i+1)) (D i))
  (hX:∀i j,i<j→j<m→q3r (q31 all.toList) (i,D i) j (D j)=true)
  {L:Nat→Bool} (hc:qbX all L) {a s:Nat} (hm:q3y D L m a s) {k:Nat} (hk:k<m) (hL:L k=true):q5L s (D k)=true:=by
 refine qw8 hd hms hV hX hc hm hk (fun e=>?_) ?_
 ·rw[e,hm.2.2] at hL;cases hL
 ·cases hb:qoA (q31 all.toList) k a with
  | false=>rfl
  | true=>
   have:=qgH hd hc k a hL hb
   rw[hm.2.2] at this;cases this
theorem qyU(hE:E.tok P)(hS:E.specs P)(hc:qbS E P callS)(hmo:q2k E callS)(hd:DrawOk all)(hms:m≤all.size)
    (hV:∀i o,all[i]?=some o→i<m→qj5 E callS all (H 0) i o (TLp (qU all) V T0 (fun _=>true) i) (V i) (H i) (H (i+1)) (D i))
    (hX:∀i j,i<j→j<m→q3r (q31 all.toList) (i,D i) j (D j)=true)
    (hsl:∀i s,i<m→D i=.alc s→s∉AV.menL T0∧s∉qgr fs∧s∉q59 (H 0))
    (hq:all.size≤m→∀X a,Sim E B X { t:=TLp (qU all) V T0 (fun _=>true) all.size,fs:=fs,pend:=pd,h:=H m } a→Q .normal a X.w)
    (hlast:∀i fuel listed X a,i<all.size→m≤i→listed.size=all.size→i∈Region.ready .any all listed→qbX all (fun j=>listed.getD j false)→(∀j,m≤j→j<all.size→listed.getD j false=false)→(∀j,j<m→listed.getD j false=true) →
      Sim E B X { t:=TLp (qU all) V T0 (fun j=>listed.getD j false) all.size,fs:=fs,pend:=pd,h:=H m } a →
      unl listed all.size≤fuel+1→wpOpIn (q1u B.ro) n0 P all Q i (wpAnyIn (q1u B.ro) n0 P .any all Q fuel (listed.setIfInBounds i true)) a X.w)
    (hsuf:∀i j,m≤i→i<all.size→j<i→((q31 all.toList).getD i 0).testBit j=true) :
    ∀(fuel:Nat) (listed:Array Bool) (X:Ctx) (a:Act) (t:Nat),listed.size=all.size→qbX all (fun j=>listed.getD j false)→(∀i,m≤i→i<all.size→listed.getD i false=false) →
      t≤m→(∀k,k<t→(D k).isE=true→listed.getD k false=true)→(∀k,t≤k→k<m→(D k).isE=true→listed.getD k false=false) →
      unl listed all.size≤fuel→Sim E B X { t:=TLp (qU all) V T0 (fun j=>listed.getD j false) all.size,fs:=fs,pend:=pd,h:=q1Q D (fun j=>listed.getD j false) m (H t) } a→wpAnyIn (q1u B.ro) n0 P .any all Q fuel listed a X.w:=by
  intro fuel
  have toEnd:∀(listed:Array Bool) (t:Nat),t≤m→(∀k,t≤k→k<m→(D k).isE=true→listed.getD k false=false)→(∀j,j<m→listed.getD j false=true)→q1Q D (fun j=>listed.getD j false) m (H t)=H m:=by
    intro listed t htm h2 hall
    have:=qcA hms hV (m-t) t (by omega) fun k k1 k2=>by
      cases hde:(D k).isE with
      | false=>rfl
      | true=>have:=h2 k k1 (by omega) hde;rw[hall k (by omega)] at this;cases this
    rw[show t+(m-t)=m by omega] at this
    rw[this]
    exact qns m fun a s hm=>by
      have h3:listed.getD a false=false:=hm.2.2
      rw[hall a hm.1] at h3;cases h3
  have fin:∀(listed:Array Bool) (X:Ctx) (a:Act) (t:Nat),listed.size=all.size→(∀i,m≤i→i<all.size→listed.getD i false=false)→t≤m→(∀k,t≤k→k<m→(D k).isE=true→listed.getD k false=false)→Region.ready .any all listed=[] →
      Sim E B X { t:=TLp (qU all) V T0 (fun j=>listed.getD j false) all.size,fs:=fs,pend:=pd,h:=q1Q D (fun j=>listed.getD j false) m (H t) } a→Q .normal a X.w:=by
    intro listed X a t hsz hm htm h2 hr hs
    have hall:=qn0 hd hsz hr
    rcases Nat.lt_or_ge m all.size with hlt|hge
    · have:=hm m (Nat.le_refl _) hlt
      rw[hall m hlt] at this;cases this
    · rw[toEnd listed t htm h2 fun j hj=>hall j (by omega)] at hs
      rw[stL (L':=fun _=>true) all.size fun j hj=>hall j hj] at hs
      exact hq hge X a hs
  induction fuel with
  | zero =>
    intro listed X a t hsz hcl hm htm h1 h2 hu hs
    have hr:Region.ready .any all listed=[]:=by
      apply List.eq_nil_iff_forall_not_mem.2
      intro j hj
      rw[mem_ready] at hj
      obtain⟨h1,o,h2,_⟩:=hj
      have hj':=(Array.getElem?_eq_some_iff.1 h2).1
      have:=qmf (listed:=listed) (Nat.le_zero.1 hu) j hj'
      have hj2:j<listed.size:=by omega
      simp[Array.getD_eq_getD_getElem?,hj2] at this h1
      rw[this] at h1;cases h1
    exact⟨hr,fin listed X a t hsz hm htm h2 hr hs⟩
  | succ fuel ih =>
    intro listed X a t hsz hcl hm htm hlo hhi hu hs
    refine⟨fun hr=>fin listed X a t hsz hm htm hhi hr hs,fun i hi=>?_⟩
    have hri:=hi
    rw[mem_ready] at hi
    obtain⟨h1,o,ho,hedge⟩:=hi
    have hin:=(Array.getElem?_eq_some_iff.1 ho).1
    have hil:i<listed.size:=by omega
    have hLi:listed.getD i false=false:=by simpa[Array.getD_eq_getD_getElem?,hil] using h1
    have hedge':∀e,e∈o.after.toList→Region.binds .any e=true→listed.getD e.on false=true:=fun e he hb=>hedge e (by simpa using he) hb
    have hcl':=qc2 hsz ho hcl hedge'
    have hget:∀j,(listed.setIfInBounds i true).getD j false=if j=i then true else listed.getD j false:=fun j=>vL hil
    have before:∀k,k≠i→qoA (q31 all.toList) i k=true→listed.getD k false=true:=by
      intro k hki hk
      have:=qgH hd hcl' i k (by show (listed.setIfInBounds i true).getD i false=true;rw[vL hil,if_pos rfl]) hk
      have h':(listed.setIfInBounds i true).getD k false=true:=this
      rwa [vL hil,if_neg hki] at h'
    have behind:∀k,qoA (q31 all.toList) k i=true→listed.getD k false=false:=by
      intro k hk
      cases hl:listed.getD k false with
      | false=>rfl
      | true =>
        have:=qgH hd hcl k i hl hk
        have h':listed.getD i false=true:=this
        rw[hLi] at h';cases h'
    have mind:∀b s,q3y D (fun j=>listed.getD j false) m b s→b≠i→i<m→q5L s (D i)=true:=by
      intro b s hb hbi him
      refine qw8 hd hms hV hX hcl hb him (fun e=>hbi e.symm) ?_
      cases hb':qoA (q31 all.toList) i b with
      | false=>rfl
      | true =>
        have:=before b hbi hb'
        have h3:listed.getD b false=false:=hb.2.2
        rw[h3] at this;cases this
    rcases Nat.lt_or_ge i m with him|him
    · have hv:=hV i o ho him
      have hsame:∀t,t∈qt2 all o→(TLp (qU all) V T0 (fun j=>listed.getD j false) all.size)[t]?=(TLp (qU all) V T0 (fun _=>true) i)[t]?:=fun t ht =>
        qzC hd hcl ho (Nat.le_of_lt hin) hLi hedge' ht
      have hopd:∀x,x∈o.op.operands.toList→E.opd (TLp (qU all) V T0 (fun j=>listed.getD j false) all.size) x=E.opd (TLp (qU all) V T0 (fun _=>true) i) x:=fun x hx=>by
        cases x with
        | tmp t =>
          have:=hsame t (List.mem_append_left _ (List.mem_filterMap.2 ⟨.tmp t,hx,rfl⟩))
          simp only[Env.opd,List.getD_eq_getElem?_getD]
          rw[this]
        | const v=>rfl
        | global g=>rfl
        | func f=>rfl
      have hwant:u5 all o (TLp (qU all) V T0 (fun j=>listed.getD j false) all.size)=u5 all o (TLp (qU all) V T0 (fun _=>true) i):=by
        unfold u5
        cases hg:o.guard with
        | none=>rfl
        | some p =>
          obtain⟨j,want⟩:=p
          simp only
          cases hj:(all[j]?).bind (·.dst) with
          | none=>rfl
          | some d =>
            simp only
            rw[hsame d (by simp[qt2,hg,hj])]
      have hun:unl (listed.setIfInBounds i true) all.size≤fuel:=by
        have:=(qrj hil hLi all.size).2 hin;omega
      have hdi:qU all i=o.dst:=by simp[qU,ho]
      have hmask:(∀s,D i≠.alc s)→∀h,q1Q D (fun j=>(listed.setIfInBounds i true).getD j false) m h=q1Q D (fun j=>listed.getD j false) m h:=fun hna h=>qhZ m fun k s _ hk=>by
        rw[hget k,if_neg (fun e=>by subst e;exact hna s hk)]
      have hnext:∀(X':Ctx) (u:Value) (t':Nat),t'≤m→(∀k,k<t'→(D k).isE=true→k=i∨listed.getD k false=true)→(∀k,t'≤k→k<m→(D k).isE=true→k≠i∧listed.getD k false=false) →
          Sim E B X' { t:=TLp (qU all) V T0 (fun j=>listed.getD j false) all.size,fs:=fs,pend:=pd,h:=q1Q D (fun j=>(listed.setIfInBounds i true).getD j false) m (H t') } a→Rep X' (V i) u →
          wpAnyIn (q1u B.ro) n0 P .any all Q fuel (listed.setIfInBounds i true) (a.put o.dst u) X'.w:=by
        intro X' u t' ht' k1 k2 hs' hu'
        refine ih _ X' _ t' (by simp[hsz]) hcl' ?_ ht' ?_ ?_ hun ?_
        · intro k hk1 hk2
          rw[vL hil,if_neg (by omega)]
          exact hm k hk1 hk2
        · intro k hk hke
          rw[vL hil]
          rcases k1 k hk hke with rfl|h
          · rw[if_pos rfl]
          · split
            · rfl
            · exact h
        · intro k hk hk2 hke
          obtain⟨g1,g2⟩:=k2 k hk hk2 hke
          rw[vL hil,if_neg g1];exact g2
        · have hput:=hs'.put hu' o.dst
          have hT:TLp (qU all) V T0 (fun j=>(listed.setIfInBounds i true).getD j false) all.size=qeu (TLp (qU all) V T0 (fun j=>listed.getD j false) all.size) o.dst (V i):=by
            rw[←hdi,←qzQ hin hLi]
            · exact stL all.size fun j _=>vL hil
            · intro k hk hki t ht he
              cases hk':all[k]? with
              | none=>simp[qU,hk'] at he
              | some ok =>
                simp only[qU,hk',Option.bind_some] at he
                rw[hdi] at ht
                exact(hd.dst i k o ok ho hk' hki t he).1 ht
          rw[hT]
          exact hput
      have between:∀k,k<m→(D k).isE=true→(t≤k∧k<i∨i<k∧k<t)→qoA (q31 all.toList) i k=false∧qoA (q31 all.toList) k i=false:=by
        intro k hkm hke hk
        rcases hk with⟨q1,q2⟩|⟨q1,q2⟩
        · have hLk:=hhi k q1 hkm hke
          refine⟨?_,?_⟩
          · cases hb:qoA (q31 all.toList) i k with
            | false=>rfl
            | true=>rw[before k (by omega) hb] at hLk;cases hLk
          · cases hb:qoA (q31 all.toList) k i with
            | false=>rfl
            | true=>have:=qw3 hd k i hb;omega
        · have hLk:=hlo k q2 hke
          refine⟨?_,?_⟩
          · cases hb:qoA (q31 all.toList) i k with
            | false=>rfl
            | true=>have:=qw3 hd i k hb;omega
          · cases hb:qoA (q31 all.toList) k i with
            | false=>rfl
            | true=>rw[behind k hb] at hLk;cases hLk
      unfold wpOpIn
      rw[ho]
      simp only
      rcases hv with⟨w1,w2,w3,w4⟩|⟨w1,u,w3,w4,w2⟩|⟨w1,w3,ty,z,s,w4,w5,w6,w7,w8⟩
      ·
        rw[q11 hs.t (hwant.trans w1)]
        simp only[Bool.false_eq_true,if_false]
        refine⟨fun _ _=>trivial,hnext X _ t htm (fun k hk hke=>.inr (hlo k hk hke)) (fun k hk hk2 hke=>⟨fun e=>?_,hhi k hk hk2 hke⟩) (by rw[hmask fun s e=>by rw[w4] at e;cases e];exact hs) (by rw[w2];exact .skip)⟩
        rw[e,w4] at hke;cases hke
      · rw [q11 hs.t (hwant.trans w1)]
        simp only[if_true]
        unfold qmM at w3
        have hna:∀s,D i≠.alc s:=fun s e=>by rw[w2] at e;unfold qch at e;split at e<;>cases e
        cases he:qr2 E (H i) (E.opd (TLp (qU all) V T0 (fun _=>true) i)) o.op with
        | true =>
          rw[he] at w3
          have hDi:(D i).isE=true:=by rw[w2,qCo];exact he
          have hDi2:D i=.eff (H i).length (qDU (H i) (E.opd (TLp (qU all) V T0 (fun _=>true) i)) o.op) (qrJ (E.opd (TLp (qU all) V T0 (fun _=>true) i)) o.op) (q59 (H (i+1))) u.men (qBq (H i) (E.opd (TLp (qU all) V T0 (fun _=>true) i)) o.op):=by
            rw[w2];unfold qch;rw[he]
          have hbet:∀k,k<m→(D k).isE=true→¬(t≤k∧k<i∨i<k∧k<t):=by
            intro k hkm hke hk
            obtain⟨g1,g2⟩:=between k hkm hke hk
            rcases hk with⟨q1,q2⟩|⟨q1,q2⟩
            · have:=hX k i q2 him
              unfold q3r at this
              cases hDk:D k<;>rw[hDk] at hke<;>first|(cases hke;done)|skip
              cases hDi':D i<;>rw[hDi'] at hDi<;>first|(cases hDi;done)|skip
              rw[hDk,hDi'] at this
              simp only[Bool.true_and] at this
              rw[g1] at this;cases this
            · have:=hX i k q1 hkm
              unfold q3r at this
              cases hDk:D k<;>rw[hDk] at hke<;>first|(cases hke;done)|skip
              cases hDi':D i<;>rw[hDi'] at hDi<;>first|(cases hDi;done)|skip
              rw[hDk,hDi'] at this
              simp only[Bool.true_and] at this
              rw[g2] at this;cases this
          have hHt:H t=H i:=by
            rcases Nat.le_total t i with hti|hti
            · have:=qcA hms hV (i-t) t (by omega) fun k k1 k2=>by
                cases hde:(D k).isE with
                | false=>rfl
                | true=>exact absurd (.inl ⟨k1,by omega⟩) (hbet k (by omega) hde)
              rw[show t+(i-t)=i by omega] at this
              exact this.symm
            · rcases Nat.eq_or_lt_of_le hti with hti|hti
              · rw[hti]
              · have:=hlo i hti hDi
                rw[hLi] at this;cases this
          rw[hHt] at hs
          have w3':=(qoa (D:=D) (L:=fun j=>listed.getD j false) w3 m fun b s hb=>by
            have hbi:b≠i:=fun e=>hna s (by rw[←e];exact hb.2.1)
            have:=mind b s hb hbi him
            rw[hDi2] at this
            obtain⟨_,q2,_,_,q5⟩:=qfS this
            refine⟨?_,q2,q5⟩
            have hz:∃z,(H 0)[s]?=some z:=by
              rcases hV b _ (Array.getElem?_eq_getElem (by have:=hb.1;omega)) hb.1 with⟨_,_,_,q⟩|⟨_,u,_,_,q⟩|⟨_,_,_,z,s',_,_,q1,q,_⟩
              · rw[hb.2.1] at q;cases q
              · have q':=hb.2.1.symm.trans q
                unfold qch at q';split at q'<;>cases q'
              · rw[hb.2.1] at q;cases q;exact⟨z,q1⟩
            obtain⟨z,hz⟩:=hz
            have:=qqy hms hV hz t htm fun k hk N w q mm v mk hDk=>by
              have:=qaA hd hms hV hX hcl hb (k:=k) (by omega) (hlo k hk (by rw[hDk];rfl))
              rw[hDk] at this
              exact(qfS this).1
            rw[hHt] at this
            exact qp this).1
          have hcg:=qvs (E:=E) (h:=q1Q D (fun j=>listed.getD j false) m (H i)) hopd
          rw[←hcg.2] at w3'
          obtain⟨g1,g2⟩:=que hE hS (st:={ t:=TLp (qU all) V T0 (fun j=>listed.getD j false) all.size,fs:=fs,pend:=pd,h:=q1Q D (fun j=>listed.getD j false) m (H i) }) hs w3' (o:=o)
            (next:=fun a w=>wpAnyIn (q1u B.ro) n0 P .any all Q fuel (listed.setIfInBounds i true) a w) (Q:=Q) fun X' v hs' hv' =>
              hnext X' v (i+1) (by omega) (fun k hk hke=>by
                rcases Nat.lt_or_ge k i with hki|hki
                · right
                  rcases Nat.lt_or_ge k t with hkt|hkt
                  · exact hlo k hkt hke
                  · exact absurd (.inl ⟨hkt,hki⟩) (hbet k (by omega) hke)
                · exact .inl (by omega)) (fun k hk hk2 hke=>⟨by omega,by
                rcases Nat.lt_or_ge k t with hkt|hkt
                · exact absurd (.inr ⟨by omega,hkt⟩) (hbet k hk2 hke)
                · exact hhi k hkt hk2 hke⟩) (by rw[hmask hna];exact hs') (by rw[w4];exact qjj hv')
          exact qhi B.ro n0 g1 g2
        | false =>
          rw[he] at w3
          obtain⟨av,k1,k2⟩:=bind_some w3
          simp only[Tree.run,Option.some.injEq,Prod.mk.injEq] at k2
          obtain⟨rfl,_⟩:=k2
          have hDi:(D i).isE=false:=by rw[w2,qCo];exact he
          have hDi':D i=.still (qBo E (E.opd (TLp (qU all) V T0 (fun _=>true) i)) o.op) av.men:=by rw[w2];unfold qch;rw[he]
          have hclear:∀k N w q mm v mk,k<m→D k=.eff N w q mm v mk→(t≤k∧k<i∨i<k∧k<t)→qt8 (qBo E (E.opd (TLp (qU all) V T0 (fun _=>true) i)) o.op) N w=true:=by
            intro k N w q mm v mk hkm hk hkk
            obtain⟨g1,g2⟩:=between k hkm (by rw[hk];rfl) hkk
            rcases hkk with⟨q1,q2⟩|⟨q1,q2⟩
            · have:=hX k i q2 him
              rw[hk,hDi'] at this
              simp only[q3r,Bool.true_and] at this
              rw[g1] at this
              simpa using this
            · have:=hX i k q1 hkm
              rw[hk,hDi'] at this
              simp only[q3r,Bool.true_and] at this
              rw[g2] at this
              simpa using this
          have hval:(q6C E (callS (q1Q D (fun j=>listed.getD j false) m (H t))) (q1Q D (fun j=>listed.getD j false) m (H t)) (E.opd (TLp (qU all) V T0 (fun _=>true) i)) o.op).run=some av:=by
            have hR:(∃R,qBo E (E.opd (TLp (qU all) V T0 (fun _=>true) i)) o.op=some R∧∀b,b∈R→(H t)[b]?=(H i)[b]?)∨H t=H i:=by
              by_cases hno:∃k N w q mm v mk,k<m∧D k=.eff N w q mm v mk∧(t≤k∧k<i∨i<k∧k<t)
              · obtain⟨k,N,w,q,mm,v,mk,a1,a2,a3⟩:=hno
                obtain⟨R,r1,_⟩:=qnd (hclear k N w q mm v mk a1 a2 a3)
                refine .inl ⟨R,r1,fun b hb=>?_⟩
                have clr:∀k N w q mm v mk,k<m→D k=.eff N w q mm v mk→(t≤k∧k<i∨i<k∧k<t)→b<N∧b∉w:=by
                  intro k N w q mm v mk b1 b2 b3
                  obtain⟨R',q1,q2⟩:=qnd (hclear k N w q mm v mk b1 b2 b3)
                  rw[r1] at q1;cases q1
                  exact q2 b hb
                rcases Nat.le_total t i with hti|hti
                · have:=qrM hms hV (b:=b) (i-t) t (by omega) fun k c1 c2 N w q mm v mk c3=>clr k N w q mm v mk (by omega) c3 (.inl ⟨c1,by omega⟩)
                  rw[show t+(i-t)=i by omega] at this
                  exact this.symm
                · have:=qrM hms hV (b:=b) (t-i) i (by omega) fun k c1 c2 N w q mm v mk c3=>clr k N w q mm v mk (by omega) c3 (.inr ⟨by
                    rcases Nat.eq_or_lt_of_le c1 with c1|c1
                    · rw[←c1,hDi'] at c3;cases c3
                    · exact c1,by omega⟩)
                  rw[show i+(t-i)=t by omega] at this
                  exact this
              · right
                rcases Nat.le_total t i with hti|hti
                · have:=qcA hms hV (i-t) t (by omega) fun k c1 c2=>by
                    cases hDk:D k with
                    | eff N w q mm v mk=>exact absurd ⟨k,N,w,q,mm,v,mk,by omega,hDk,.inl ⟨c1,by omega⟩⟩ hno
                    | _=>rfl
                  rw[show t+(i-t)=i by omega] at this
                  exact this.symm
                · have:=qcA hms hV (t-i) i (by omega) fun k c1 c2=>by
                    cases hDk:D k with
                    | eff N w q mm v mk =>
                      rcases Nat.eq_or_lt_of_le c1 with c1|c1
                      · rw[←c1,hDi'] at hDk;cases hDk
                      · exact absurd ⟨k,N,w,q,mm,v,mk,by omega,hDk,.inr ⟨c1,by omega⟩⟩ hno
                    | _=>rfl
                  rw[show i+(t-i)=t by omega] at this
                  exact this
            by_cases hmi:∃b s,q3y D (fun j=>listed.getD j false) m b s
            · obtain⟨b0,s0,hb0⟩:=hmi
              have hbi:∀b s,q3y D (fun j=>listed.getD j false) m b s→b≠i:=fun b s hb e=>hna s (by rw[←e];exact hb.2.1)
              have hm0:=mind b0 s0 hb0 (hbi b0 s0 hb0) him
              rw[hDi'] at hm0
              obtain⟨⟨R,r1,_⟩,_⟩:=qlv hm0
              refine qfJ hmo r1 (fun b hb=>?_) k1
              rw[qf2 m fun c s hcs e=>?_]
              · rcases hR with⟨R',r2,r3⟩|hR
                · rw[r1] at r2;cases r2
                  exact r3 b hb
                · rw[hR]
              · have:=mind c s hcs (hbi c s hcs) him
                rw[hDi',r1] at this
                obtain⟨⟨R',r2,r3⟩,_⟩:=qlv this
                cases r2
                rw[e] at r3
                exact r3 hb
            · rw[qns m fun b s hb=>hmi ⟨b,s,hb⟩]
              rcases hR with⟨R,r1,r2⟩|hR
              · exact qfJ hmo r1 r2 k1
              · rw[hR];exact k1
          rw[←qjo hopd] at hval
          refine qhi B.ro n0 (qjr hE hc hs hval fun X' v hs' hv'=>hnext X' v t htm (fun k hk hke=>.inr (hlo k hk hke)) (fun k hk hk2 hke=>⟨fun e=>?_,hhi k hk hk2 hke⟩) (by rw[hmask hna];exact hs') (by rw[w4];exact qjj hv')) (fun c hc=>by rw[hc] at hval;simp[q6C,q9s,Tree.run] at hval)
          rw[e,hDi] at hke;cases hke
      ·
        rw[q11 hs.t (hwant.trans w1)]
        simp only[if_true]
        have hmi:q3y D (fun j=>listed.getD j false) m i s:=⟨him,w7,hLi⟩
        have hzt:(H t)[s]?=some z:=qqy hms hV w6 t htm fun k hk N w q mm v mk hDk=>by
          have:=qaA hd hms hV hX hcl hmi (k:=k) (by omega) (hlo k hk (by rw[hDk];rfl))
          rw[hDk] at this
          exact(qfS this).1
        have hmt:s∉q59 (H t):=qyc hms hV (hsl i s him w7).2.2 t htm fun k hk N w q mm v mk hDk=>by
          have:=qaA hd hms hV hX hcl hmi (k:=k) (by omega) (hlo k hk (by rw[hDk];rfl))
          rw[hDk] at this
          exact(qfS this).2.2.1
        have hdead:=qfV (D:=D) (L:=fun j=>listed.getD j false) (h:=H t) (qp hzt) m hmi
        have htm2:s∉AV.menL (TLp (qU all) V T0 (fun j=>listed.getD j false) all.size):=qrz (hsl i s him w7).1 _ fun j hj hLj=>by
          have hjm:j<m:=by
            rcases Nat.lt_or_ge j m with h|h
            · exact h
            · have:=hm j h hj
              rw[show listed.getD j false=true from hLj] at this;cases this
          exact qAQ (hV j _ (Array.getElem?_eq_getElem hj) hjm) (qaA hd hms hV hX hcl hmi hjm hLj)
        have hDi:(D i).isE=false:=by rw[w7];rfl
        refine qhi B.ro n0 (qrT hE hs w4 w5 hdead (qt5 hmt m) htm2 (hsl i s him w7).2.1 fun X' v hs' hv'=>hnext X' v t htm (fun k hk hke=>.inr (hlo k hk hke)) (fun k hk hk2 hke=>⟨fun e=>?_,hhi k hk hk2 hke⟩) ?_ (by rw[w8];exact hv')) (fun c hc=>by rw[hc] at w4;cases w4)
        · rw[e,hDi] at hke;cases hke
        · have e1:=qyC (D:=D) (L:=fun j=>listed.getD j false) (h:=H t) hmi hzt fun a' s' hm' hne=>by
            intro e
            have:=mind a' s' hm' hne him
            rw[w7,e] at this
            simp[q5L] at this
          have e2:q1Q D (fun j=>(listed.setIfInBounds i true).getD j false) m (H t)=q1Q D (fun j=>if j=i then true else listed.getD j false) m (H t):=qhZ m fun k _ _ _=>hget k
          rw[e2,e1]
          exact hs'
    · have hall:∀j,j<m→listed.getD j false=true:=fun j hj=>before j (by omega) (hsuf i j him hin (by omega))
      rw[toEnd listed t htm hhi hall] at hs
      exact hlast i fuel listed X a hin him hsz hri hcl hm hall hs hu
end
theorem qcP{n:Nat}(i:Nat):(Array.replicate n false).getD i false=false:=by
 rcases Nat.lt_or_ge i n with h|h<;>simp[Array.getD_eq_getD_getElem?,h]
theorem qy9(listed:Array Bool):∀n,unl listed n≤n
 | 0=>Nat.le_refl _
 | n+1=>by simp only[unl];have:=qy9 listed n;split<;>omega
theorem qwe(all:Array Oper):zZ all≤all.size:=by
 unfold zZ
 simp only
 cases hf:(List.range all.toList.length).find? _ with
 | none=>simp
 | some m=>
  have:=List.mem_of_find?_eq_some hf
  simp at this
  simp;omega
theorem qcz(all:Array Oper){i j:Nat}(hj:zZ all≤j)(hjn:j<all.size)(hij:i<j):((q31 all.toList).getD j 0).testBit i=true:=by
 unfold zZ at hj
 simp only at hj
 cases hf:(List.range all.toList.length).find? (fun m=>(List.range all.toList.length).all fun j=>decide (j<m)||(List.range j).all fun i=>((q31 all.toList).getD j 0).testBit i) with
 | none=>rw[hf] at hj;simp at hj;omega
 | some m=>
  rw[hf] at hj
  simp only[Option.getD_some] at hj
  have h:=List.find?_some hf
  rw[List.all_eq_true] at h
  have h2:=h j (List.mem_range.2 (by simpa using hjn))
  simp only[Bool.or_eq_true,decide_eq_true_eq,List.all_eq_true,List.mem_range] at h2
  rcases h2 with h2|h2
  ·omega
  ·exact h2 i hij
section
variable {E:Env} {P:Program} {B:Base} {all:Array Oper} {Q:Exit→Act→World→Prop} {callH:q5l} {n0:Nat}
theorem qtB(hE:E.tok P)(hcH:CallOK E P callH B)(hd:DrawOk all){st':St}(hq:∀X' a',Sim E B X' st' a'→Q .normal a' X'.w):∀(l:List Oper) (i:Nat),all.toList.drop i=l→zZ all≤i →
  ∀(fuel:Nat) (listed:Array Bool) (X:Ctx) (a:Act) (st:St),listed.size=all.size→(∀j,j<i→j<all.size→listed.getD j false=true)→(∀j,i≤j→listed.getD j false=false)→unl listed all.size≤fuel →
   Sim E B X st a→(qfk E callH all i l st).run=some st'→wpAnyIn (q1u B.ro) n0 P .any all Q fuel listed a X.w:=by
 intro l
 induction l with
 | nil=>
  intro i hl hm fuel listed X a st hsz hlo hhi hun hs h
  simp only[qfk,Tree.run,Option.some.injEq] at h
  subst h
  have hi:all.size≤i:=by simpa using List.drop_eq_nil_iff.1 hl
  have hr:Region.ready .any all listed=[]:=by
   apply List.eq_nil_iff_forall_not_mem.2
   intro j hj
   rw[mem_ready] at hj
   obtain⟨q1,o',q2,_⟩:=hj
   have hj':=(Array.getElem?_eq_some_iff.1 q2).1
   have hjt:=hlo j (by omega) hj'
   have hj2:j<listed.size:=by omega
   rw[Array.getD_eq_getD_getElem?,Array.getElem?_eq_getElem hj2] at hjt q1
   simp only[Option.getD_some] at hjt q1
   rw[hjt] at q1;cases q1
  cases fuel with
  | zero=>exact⟨hr,hq X a hs⟩
  | succ fuel=>exact⟨fun _=>hq X a hs,fun j hj=>by rw[hr] at hj;cases hj⟩
 | cons o rest ih=>
  intro i hl hm fuel listed X a st hsz hlo hhi hun hs h
  have hin:i<all.size:=by
   rcases Nat.lt_or_ge i all.size with h1|h1
   ·exact h1
   ·rw[List.drop_eq_nil_of_le (by simpa using h1)] at hl;cases hl
  have ho:all[i]?=some o:=by
   have:=List.getElem?_drop (xs:=all.toList) (i:=i) (j:=0)
   rw[hl] at this
   simpa using this.symm
  have hrest:all.toList.drop (i+1)=rest:=by rw[←List.drop_drop,hl];rfl
  have hil:i<listed.size:=by omega
  have hcl:qbX all fun j=>listed.getD j false:=by
   intro j oj hj hL e he hb
   have hj':=(Array.getElem?_eq_some_iff.1 hj).1
   have hji:j<i:=by
    rcases Nat.lt_or_ge j i with h1|h1
    ·exact h1
    ·have hL':listed.getD j false=true:=hL
     rw[hhi j h1] at hL';cases hL'
   have:=hd.edge j oj hj e he hb
   exact hlo e.on (by omega) (by omega)
  have hpos:0<unl listed all.size:=by
   rcases Nat.eq_zero_or_pos (unl listed all.size) with h0|h0
   ·have:=qmf h0 i hin
    rw[hhi i (Nat.le_refl _)] at this;cases this
   ·exact h0
  obtain⟨fuel,rfl⟩:∃f,fuel=f+1:=⟨fuel-1,by omega⟩
  have hLi:=hhi i (Nat.le_refl _)
  have hone:∀j,j∈Region.ready .any all listed→j=i:=by
   intro j hj
   rw[mem_ready] at hj
   obtain⟨q1,oj,q2,gedge⟩:=hj
   have hj':=(Array.getElem?_eq_some_iff.1 q2).1
   have hj2:j<listed.size:=by omega
   have hLj:listed.getD j false=false:=by simpa[Array.getD_eq_getD_getElem?,hj2] using q1
   rcases Nat.lt_trichotomy j i with h1|h1|h1
   ·rw[hlo j h1 hj'] at hLj;cases hLj
   ·exact h1
   ·have hedge':∀e,e∈oj.after.toList→Region.binds .any e=true→listed.getD e.on false=true:=fun e he hb=>gedge e (by simpa using he) hb
    have hcl':=qc2 hsz q2 hcl hedge'
    have hb':=qcz all (by omega) hj' h1
    have:=qgH hd hcl' j i (by show (listed.setIfInBounds j true).getD j false=true;rw[vL hj2,if_pos rfl]) hb'
    have h':(listed.setIfInBounds j true).getD i false=true:=this
    rw[vL hj2,if_neg (by omega),hLi] at h'
    cases h'
  refine⟨fun hr=>?_,fun j hj=>?_⟩
  ·
   exfalso
   have:=qn0 hd hsz hr i hin
   rw[hLi] at this;cases this
  ·obtain rfl:=hone j hj
   have hgo:∀(X'':Ctx) (a'':Act) (s'':St),Sim E B X'' s'' a''→(qfk E callH all (j+1) rest s'').run=some st'→wpAnyIn (q1u B.ro) n0 P .any all Q fuel (listed.setIfInBounds j true) a'' X''.w:=by
    intro X'' a'' s'' hs'' h''
    refine ih (j+1) hrest (by omega) fuel _ X'' a'' s'' (by simp[hsz]) (fun k hk hk2=>?_) (fun k hk=>?_) ?_ hs'' h''
    ·rw[vL hil];split
     ·rfl
     ·exact hlo k (by omega) hk2
    ·rw[vL hil,if_neg (by omega)];exact hhi k (by omega)
    ·have:=(qrj hil hLi all.size).2 hin;omega
   simp only[qfk] at h
   unfold wpOpIn
   rw[ho]
   simp only
   cases hwa:u5 all o st.t with
   | none=>rw[hwa] at h;cases h
   | some b=>
    rw[hwa] at h
    rw[q11 hs.t hwa]
    cases b with
    | true=>
     simp only[if_true]
     obtain⟨s1,k1,k2⟩:=bind_some h
     obtain⟨s2,k3,k4⟩:=bind_some k2
     exact ql2 hE hcH hs k1 fun X'' a'' hs''=>hgo X'' a'' s2 (qmK hs'' k3) k4
    | false=>
     simp only[Bool.false_eq_true,if_false]
     exact⟨fun _ _=>trivial,hgo X _ (qw7 o st) (hs.put (av:=.skip) .skip o.dst) h⟩
end
theorem qqH(h h':List Blk):q59 (h++h')=q59 h++q59 h':=by
 induction h with
 | nil=>rfl
 | cons k h ih=>simp[q59,ih]
theorem qpL{zs:List Blk}(h:∀z,z∈zs→z.menB=[]){s:Nat}:s∉q59 zs:=by
 induction zs with
 | nil=>intro h;cases h
 | cons z zs ih=>
  simp only[q59,List.mem_append,not_or]
  exact⟨by rw[h z List.mem_cons_self];simp,ih fun z hz=>h z (List.mem_cons_of_mem _ hz)⟩
theorem qqJ{E:Env}{P:Program}(hm:P.follows .mixedOrders=true)(hE:E.tok P)(hS:E.specs P){callH:q5l}{B:Base}(hcH:CallOK E P callH B){callS:List Blk→q2c}(hc:qbS E P callS)(hmo:q2k E callS){id:Nat}{all:Array Oper}{X:Ctx}{st st':St}{a:Act}
  (hs:Sim E B X st a) (h:(quC E callH callS all st).run=some st') {Q:Exit→Act→World→Prop} {n0:Nat} (hq:∀X' a',Sim E B X' st' a'→Q .normal a' X'.w):(Code.region id all true).wpIn (q1u B.ro) n0 P Q a X.w:=by
 apply wpIn_region_any hm
 have hs1:=hs.drawn (X.w.drawn+1)
 generalize hX1:({ X with w:={ X.w with drawn:=X.w.drawn+1 } }:Ctx)=X1 at hs1
 have hw:({ X.w with drawn:=X.w.drawn+1 }:World)=X1.w:=by rw[←hX1]
 rw[hw]
 obtain⟨T0,fs,hb,pd⟩:=st
 unfold quC at h
 by_cases hdb:qse all=false
 ·rw[if_pos hdb] at h;cases h
 ·rw[if_neg hdb] at h
  have hd:=qvI (by simpa using hdb:qse all=true)
  have hcl0:qbX all fun j=>(Array.replicate all.size false).getD j false:=by
   intro i o _ hL
   have hL':(Array.replicate all.size false).getD i false=true:=hL
   rw[qcP] at hL';cases hL'
  have hdst:qU all=fun i=>(all.toList[i]?).bind (·.dst):=by funext i;simp[qU]
  have hsl:=qwe all
  simp only at h
  cases hal:qiO E (all.toList.take (zZ all)) with
  | none=>rw[hal] at h;cases h
  | some zs=>
  rw[hal] at h
  simp only at h
  split at h
  case h_2=>cases h
  rename_i hzc
  obtain⟨r,h1,h2⟩:=bind_some h
  obtain⟨V,H,D,e0,e1,e2,_,e4,e5,e6⟩:=qpC (h0:=hb++zs) _ 0 hb.length [] _ r zs hal (fun j z hj=>by rw[List.getElem?_append_right (by omega),Nat.add_sub_cancel_left];exact hj) h1
  simp only[Nat.zero_add] at e1 e2 e4 e5 e6
  have htlen:(all.toList.take (zZ all)).length=zZ all:=by simp;omega
  have htk:∀i,i<zZ all→(all.toList.take (zZ all))[i]?=all[i]?:=by
   intro i hi
   rw[List.getElem?_take,if_pos hi];simp
  have hTm:∀i,i≤zZ all→TLp (qU all) V T0 (fun _=>true) i=q56 V 0 ((all.toList.take (zZ all)).take i) T0:=by
   intro i hi
   rw[hdst,qwr i (by simp;omega),List.take_take,Nat.min_eq_left hi]
  have hVA:∀i o,all[i]?=some o→i<zZ all→qj5 E callS all (H 0) i o (TLp (qU all) V T0 (fun _=>true) i) (V i) (H i) (H (i+1)) (D i):=by
   intro i o ho hi
   rw[hTm i (by omega)]
   rw[e0]
   exact e2 i o (by rw[htk i hi];exact ho)
  have hs0:∀(X':Ctx) (a':Act),Sim E B X' { t:=TLp (qU all) V T0 (fun _=>true) (zZ all),fs:=fs,pend:=pd,h:=H (zZ all) } a'→Sim E B X' r a':=by
   intro X' a' hs'
   have:r={ t:=TLp (qU all) V T0 (fun _=>true) (zZ all),fs:=fs,pend:=pd,h:=H (zZ all) }:=by
    rw[hTm _ (Nat.le_refl _),e1,List.take_of_length_le (i:=zZ all) (l:=all.toList.take (zZ all)) (by simp;omega),htlen]
   rw[this];exact hs'
  have hsl2:∀i s,i<zZ all→D i=.alc s→s∉AV.menL T0∧s∉qgr fs∧s∉q59 (H 0):=by
   intro i s hi hds
   have hs':=e6 i s (by rw[htlen];exact hi) hds
   have hne:zs.isEmpty=false:=by
    cases zs with
    | nil=>simp at hs';omega
    | cons _ _=>rfl
   rw[hne] at hzc
   simp only[Bool.false_or,Bool.and_eq_true,List.all_eq_true,List.mem_append] at hzc
   obtain⟨c1,c2⟩:=hzc
   have lt:∀b,(b∈AV.menL T0∨b∈qgr fs)∨b∈q59 hb→b<hb.length:=fun b hb'=>Nat.blt_eq.mp (c1 b hb')
   refine⟨fun hm=>?_,fun hm=>?_,fun hm=>?_⟩
   ·have:=lt s (.inl (.inl hm));omega
   ·have:=lt s (.inl (.inr hm));omega
   ·rw[e0,qqH] at hm
    rcases List.mem_append.1 hm with hm|hm
    ·have:=lt s (.inr hm);omega
    ·exact qpL (fun z hz=>by simpa using c2 z hz) hm
  obtain⟨X2,hX2,hs2⟩:=Sim.padN zs.length hs1
  rw[←hX2]
  have hpad:hb++List.replicate zs.length .dead=q1Q D (fun j=>(Array.replicate all.size false).getD j false) (zZ all) (H 0):=by
   rw[e0]
   apply List.ext_getElem?
   intro b
   rcases Nat.lt_or_ge b hb.length with hlt|hge
   ·rw[List.getElem?_append_left hlt,qf2 _ fun a' s hm' e=>by
     have:=e6 a' s (by rw[htlen];exact hm'.1) hm'.2.1
     omega,List.getElem?_append_left hlt]
   ·rcases Nat.lt_or_ge b (hb.length+zs.length) with hlt|hge2
    ·obtain⟨i,q1,q2⟩:=e5 (b-hb.length) (by omega)
     rw[htlen] at q1
     rw[show hb.length+(b-hb.length)=b by omega] at q2
     rw[List.getElem?_append_right hge,List.getElem?_replicate_of_lt (by omega)]
     exact(qfV (by simp;omega) (zZ all) ⟨q1,q2,qcP i⟩).symm
    ·rw[List.getElem?_eq_none (by simp;omega),List.getElem?_eq_none (by rw[q9K];simp;omega)]
  have start:Sim E B X2 { t:=TLp (qU all) V T0 (fun j=>(Array.replicate all.size false).getD j false) all.size,fs:=fs,pend:=pd,h:=q1Q D (fun j=>(Array.replicate all.size false).getD j false) (zZ all) (H 0) } a:=by
   have:TLp (qU all) V T0 (fun j=>(Array.replicate all.size false).getD j false) all.size=T0:=by
    have:∀n,TLp (qU all) V T0 (fun j=>(Array.replicate all.size false).getD j false) n=T0:=by
     intro n
     induction n with
     | zero=>rfl
     | succ n ih=>simp only[TLp];rw[if_neg (by rw[qcP];simp),ih]
    exact this _
   rw[this,←hpad];exact hs2
  refine qyU (m:=zZ all) (V:=V) (T0:=T0) (H:=H) (D:=D) (fs:=fs) hE hS hc hmo hd hsl hVA (fun i j hij hj=>e4 i j hij (by rw[htlen];exact hj)) hsl2 ?_ ?_ (fun i j h1 h2 h3=>qcz all h1 h2 h3) all.size _ X2 a 0 (by simp) hcl0 (fun i _ _=>qcP i) (Nat.zero_le _) (fun k hk=>by omega) (fun k _ _ _=>qcP k) (qy9 _ _) start
  ·intro hge X' a' hs'
   have hsz:zZ all=all.size:=by omega
   rw[show TLp (qU all) V T0 (fun _=>true) all.size=TLp (qU all) V T0 (fun _=>true) (zZ all) by rw[hsz]] at hs'
   have h3:=hs0 X' a' hs'
   rw[List.drop_eq_nil_of_le (by simp;omega)] at h2
   simp only[qfk,Tree.run,Option.some.injEq] at h2
   rw[h2] at h3
   exact hq X' a' h3
  ·intro i fuel listed X' a' hin him hsz hri hcl hlm hallm hs' hun
   have hri':=hri
   rw[mem_ready] at hri'
   obtain⟨g1,o,ho,gedge⟩:=hri'
   have hil:i<listed.size:=by omega
   have hLi:listed.getD i false=false:=by simpa[Array.getD_eq_getD_getElem?,hil] using g1
   have hedge':∀e,e∈o.after.toList→Region.binds .any e=true→listed.getD e.on false=true:=fun e he hb=>gedge e (by simpa using he) hb
   have hcl':=qc2 hsz ho hcl hedge'
   have hallb:∀j,j<i→listed.getD j false=true:=by
    intro j hj
    have hb':=qcz all him hin hj
    have:=qgH hd hcl' i j (by show (listed.setIfInBounds i true).getD i false=true;rw[vL hil,if_pos rfl]) hb'
    have h':(listed.setIfInBounds i true).getD j false=true:=this
    rw[vL hil,if_neg (by omega)] at h'
    exact h'
   have him2:i=zZ all:=by
    rcases Nat.eq_or_lt_of_le him with h3|h3
    ·exact h3.symm
    ·have h4:=hallb _ h3
     rw[hlm _ (Nat.le_refl _) (by omega)] at h4;cases h4
   have hcut:∀n,zZ all≤n→n≤all.size→TLp (qU all) V T0 (fun j=>listed.getD j false) n=TLp (qU all) V T0 (fun _=>true) (zZ all):=by
    intro n
    induction n with
    | zero=>
     intro h3 _
     have h0:zZ all=0:=by omega
     rw[h0];rfl
    | succ n ihn=>
     intro h3 h4
     rcases Nat.eq_or_lt_of_le h3 with h5|h5
     ·rw[←h5]
      exact stL (zZ all) fun j hj=>hallb j (by omega)
     ·simp only[TLp]
      rw[if_neg (by rw[hlm n (by omega) (by omega)];simp)]
      exact ihn (by omega) (by omega)
   rw[hcut _ hsl (Nat.le_refl _)] at hs'
   have h3:=hs0 X' a' hs'
   subst him2
   exact(qtB hE hcH hd hq _ (zZ all) rfl (Nat.le_refl _) (fuel+1) listed X' a' _ hsz (fun j hj _=>hallb j hj) (fun j hj=>by
    rcases Nat.lt_or_ge j all.size with h5|h5
    ·exact hlm j hj h5
    ·simp[Array.getD_eq_getD_getElem?,show listed.size≤j by omega]) hun h3 h2).2 _ hri
end Go.Eng

namespace Go.Eng
theorem HSim.renum{B:Base}{X X':Ctx}{f:Nat→Option Nat}(hs:HSim B X)(hm:Move X X' f)(hw:X'.w=X.w)(hM:X'.M=X.M)(g:Nat→Nat)
  (hget:∀b k,X'.h[b]?=some k→k=.dead∨(X.h[g b]?=some k∧X'.σ b=X.σ (g b)∧k.ren f=k))
  (hinj:∀b b',g b=g b'→b=b'∨X'.h[b]?=some .dead∨X'.h[b']?=some .dead)
  (hi:∀b,b<B.imps.length→X'.σ b=X.σ b∧X'.h[b]?=X.h[b]?) (hg:∀b,B.imps.length≤b→B.imps.length≤g b):HSim B X':=by
 have hown:∀b n,X'.own b n→X.own (g b) n:=by
  intro b n ⟨h1,k,h2,h3⟩
  rcases hget b k h2 with rfl|⟨q1,q2,_⟩
  ·cases h3
  ·exact⟨q2▸h1,k,q1,h3⟩
 constructor
 ·intro b k h
  rcases hget b k h with rfl|⟨q1,q2,q3⟩
  ·trivial
  ·by_cases hd:k=.dead
   ·subst hd;trivial
   ·have:=yQ.move hm.toMove0 (b':=b) q2 (fun n _=>by rw[hw]) (hs.blk (g b) k q1)
    rwa [q3] at this
 ·intro b b' n h h'
  rcases hinj b b' (hs.inj _ _ n (hown b n h) (hown b' n h')) with e|e|e
  ·exact e
  ·obtain⟨_,k,q1,q2⟩:=h;rw[e] at q1;cases q1;cases q2
  ·obtain⟨_,k,q1,q2⟩:=h';rw[e] at q1;cases q1;cases q2
 ·intro b n h;rw[hM];exact hs.notM _ n (hown b n h)
 ·intro n h;rw[hM] at h;rw[hw];exact hs.ltM n h
 ·intro n h;rw[hM];exact hs.M0 n h
 ·intro n h;rw[hM] at h;exact hs.newM n h
 ·rw[hw];exact hs.os
 ·rw[hw];exact hs.tape
 ·rw[hw];exact hs.output
 ·rw[hw];exact hs.size
 ·intro n h1 h2;rw[hw];exact hs.frame n h1 h2
 ·intro b hb;rw[(hi b hb).1];exact hs.imps b hb
 ·intro b hb;rw[(hi b hb).2];exact hs.impc b hb
 ·intro b n h hb;exact hs.fresh _ n (hown b n h) (hg b hb)
 ·intro p hp;rw[hm.kept] at hp;rw[hw];exact hs.kept p hp
theorem qv4{B:Base}{X:Ctx}(hs:HSim B X){b:Nat}{k:Blk}(h:X.h[b]?=some k)(hk:k.solid=false):B.imps.length≤b:=by
 rcases Nat.lt_or_ge b B.imps.length with hb|hb
 ·obtain⟨k',h1,h2⟩:=hs.impc b hb
  rw[h] at h1;cases h1;rw[hk] at h2;cases h2
 ·exact hb
def Ctx.alias(X:Ctx)(b s:Nat)(k:Blk):Ctx:=
 { σ:=fun x=>if x=s then X.σ b else X.σ x,h:=(X.h.set b .dead).set s k,w:=X.w,M:=X.M,kept:=X.kept,y:=X.y }
theorem qsk{X:Ctx}{b s:Nat}{k:Blk}(hb:b<X.h.length)(hsl:s<X.h.length)(x:Nat):(X.alias b s k).h[x]?=if x=s then some k else if x=b then some .dead else X.h[x]?:=by
 show ((X.h.set b .dead).set s k)[x]?=_
 by_cases h1:x=s
 ·subst h1;rw[if_pos rfl,List.getElem?_set_self (by simpa using hsl)]
 ·rw[if_neg h1,List.getElem?_set_ne (fun e=>h1 e.symm)]
  by_cases h2:x=b
  ·subst h2;rw[if_pos rfl,List.getElem?_set_self hb]
  ·rw[if_neg h2,List.getElem?_set_ne (fun e=>h2 e.symm)]
theorem qpt{B:Base}{X:Ctx}(hs:HSim B X){b s:Nat}{e:TypeId}{sh:List Sh}{l:R}(hb:X.h[b]?=some (.vec e sh l))(hd:X.h[s]?=some .dead)(hmen:s∉q59 X.h) :
  HSim B (X.alias b s (.vec e sh l))∧Move X (X.alias b s (.vec e sh l)) (qcn s)∧∀v,Rep X (.vec b) v→Rep (X.alias b s (.vec e sh l)) (.vec s) v:=by
 have hbl:=qp hb
 have hsl:=qp hd
 have hbs:b≠s:=fun he=>by rw[he,hd] at hb;cases hb
 have hget:=fun x=>qsk (X:=X) (k:=.vec e sh l) hbl hsl x
 have hlen:(X.alias b s (.vec e sh l)).h.length=X.h.length:=by simp[Ctx.alias]
 have hm:Move X (X.alias b s (.vec e sh l)) (qcn s):=by
  refine Move.of (fun _ h=>h) (fun _ _=>rfl) (fun b1 b2 hb1 h=>?_)
  have hne:b1≠s:=by intro e;subst e;simp[qcn] at h
  have:b2=b1:=by simp[qcn,hne] at h;exact h.symm
  subst this
  refine⟨by rw[hlen];exact hb1,by simp[Ctx.alias,hne],fun sh1 m ⟨e1,l1,h1,h2⟩=>?_,fun _ _ _ n _ c T fr hc=>⟨c,T,fr,hc,rfl⟩⟩
  rw[hget,if_neg hne] at h1
  by_cases h3:b2=b
  ·rw[if_pos h3] at h1;rcases h1 with h1|h1<;>cases h1
  ·rw[if_neg h3] at h1;exact⟨e1,l1,h1,h2⟩
 refine⟨hs.renum hm rfl rfl (fun x=>if x=s then b else x) (fun x k h=>?_) (fun x x' h=>?_) (fun x hx=>?_) (fun x hx=>?_),hm,fun v hv=>?_⟩
 ·rw[hget] at h
  by_cases h1:x=s
  ·rw[if_pos h1] at h;cases h
   right;rw[if_pos h1];exact⟨hb,by simp[Ctx.alias,h1],rfl⟩
  ·rw[if_neg h1] at h
   by_cases h2:x=b
   ·rw[if_pos h2] at h;cases h;exact .inl rfl
   ·rw[if_neg h2] at h
    right;rw[if_neg h1];exact⟨h,by simp[Ctx.alias,h1],Blk.ren_void k (qjt hmen h)⟩
 ·by_cases h1:x=s
  ·by_cases h2:x'=s
   ·exact .inl (h1.trans h2.symm)
   ·rw[if_pos h1,if_neg h2] at h
    right;right;rw[hget,if_neg h2,if_pos h.symm]
  ·by_cases h2:x'=s
   ·rw[if_neg h1,if_pos h2] at h
    right;left;rw[hget,if_neg h1,if_pos h]
   ·rw[if_neg h1,if_neg h2] at h;exact .inl h
 ·have h1:=qv4 hs hb rfl
  have h2:=qv4 hs hd rfl
  exact⟨by simp[Ctx.alias,show x≠s by omega],by rw[hget,if_neg (by omega),if_neg (by omega)]⟩
 ·have h1:=qv4 hs hb rfl
  split<;>omega
 ·cases hv with
  | vec _ p n c hlt h=>
   refine .vec s p n c (by rw[hlen];exact hsl) fun sh' m ⟨e',l',q1,q2⟩=>?_
   rw[hget,if_pos rfl] at q1
   have q3:e'=e∧sh'=sh∧l'=l:=by
    rcases q1 with q1|q1
    ·cases q1;exact⟨rfl,rfl,rfl⟩
    ·cases q1
   obtain⟨rfl,rfl,rfl⟩:=q3
   have:=h sh' m ⟨e',l',.inl hb,q2⟩
   unfold qtW at this ⊢
   have hσ:(X.alias b s (.vec e' sh' l')).σ s=X.σ b:=by simp[Ctx.alias]
   rw[hσ];exact this
theorem qwZ{B:Base}{X:Ctx}(hs:HSim B X){h':List Blk}(hX:X.h=h'++[.dead])(hmen:h'.length∉q59 h') :
  HSim B { X with h:=h' }∧Move X { X with h:=h' } (qcn h'.length):=by
 have hget:∀(x:Nat) (k:Blk),h'[x]?=some k→X.h[x]?=some k:=fun x k h=>by rw[hX,List.getElem?_append_left (qp h)];exact h
 have hm:Move X { X with h:=h' } (qcn h'.length):=by
  refine Move.of (fun _ h=>h) (fun _ _=>rfl) (fun b1 b2 hb1 h=>?_)
  have hne:b1≠h'.length:=by intro e;subst e;simp[qcn] at h
  have:b2=b1:=by simp[qcn,hne] at h;exact h.symm
  subst this
  rw[hX] at hb1
  simp only[List.length_append,List.length_cons,List.length_nil] at hb1
  refine⟨by show b2<h'.length;omega,rfl,fun sh1 m ⟨e1,l1,h1,h2⟩=>⟨e1,l1,?_,h2⟩,fun _ _ _ n _ c T fr hc=>⟨c,T,fr,hc,rfl⟩⟩
  exact h1.elim (fun h=>.inl (hget _ _ h)) (fun h=>.inr (hget _ _ h))
 refine⟨hs.renum hm rfl rfl id (fun x k h=>.inr ⟨hget x k h,rfl,Blk.ren_void k (qjt hmen h)⟩) (fun x x' h=>.inl h) (fun x hx=>⟨rfl,?_⟩) (fun x hx=>hx),hm⟩
 obtain⟨k,h1,h2⟩:=hs.impc x hx
 have hxl:x<h'.length:=by
  rcases Nat.lt_or_ge x h'.length with h|h
  ·exact h
  ·rw[hX,List.getElem?_append_right h] at h1
   rcases Nat.eq_or_lt_of_le h with h|h
   ·rw[←h] at h1;simp at h1;subst h1;cases h2
   ·rw[List.getElem?_eq_none (by simp;omega)] at h1;cases h1
 show h'[x]?=X.h[x]?
 rw[hX,List.getElem?_append_left hxl]
theorem Sim.moved{E:Env}{B:Base}{X X':Ctx}{st:St}{a:Act}(hs:Sim E B X st a){s:Nat}(h2:HSim B X')(h3:Move X X' (qcn s))(ht:s∉AV.menL st.t)(hf:s∉qgr st.fs):Sim E B X' { st with h:=X'.h } a:=by
 refine⟨h2,rfl,?_,?_,fun x hx=>?_,h3.kept▸hs.df,hs.ni,h3.y.trans hs.y,fun p hp=>h3.kept▸hs.pin p hp⟩
 ·have:=hs.t.ren h3.toMove0
  rwa [AV.renL_void _ ht] at this
 ·have:=hs.fs.ren h3.toMove0
  rwa [qkX _ hf] at this
 ·obtain⟨⟨sh,l,i,off,he⟩,hr⟩:=hs.glob x hx
  refine⟨⟨sh,l,i,off,he⟩,hr.move h3.M h3.w ?_⟩
  have:=hr.1.ren h3.toMove0
  rw[he] at this ⊢
  exact this
theorem Rep.voided{X X':Ctx}{s b:Nat}{v:Value}(h:Move X X' (qcn s))(hr:Rep X (.vec b) v)(hne:b≠s):Rep X' (.vec b) v:=by
 have:=hr.ren h.toMove0
 simpa[AV.ren,qcn,hne] using this
theorem brR{α:Type}{b:Bool}{t:Tree α}{r:α}(h:(Tree.br b t .fail).run=some r):b=true∧t.run=some r:=by
 cases b
 ·cases h
 ·exact⟨rfl,h⟩
theorem qam{h:List Blk}{s c:Nat}{k:Blk}(hk:k.menB=[])(hc:c∉q59 h):c∉q59 (h.set s k):=by
 induction h generalizing s with
 | nil=>exact hc
 | cons a h ih=>
  simp only[q59,List.mem_append,not_or] at hc
  cases s with
  | zero=>simp only[List.set_cons_zero,q59,hk,List.nil_append];exact hc.2
  | succ s=>simp only[List.set_cons_succ,q59,List.mem_append,not_or];exact⟨hc.1,ih hc.2⟩
theorem qBm{E:Env}{B:Base}{X:Ctx}{st:St}{a:Act}{e:TypeId}{sh:List Sh}{l:R}{s:Nat}{h:List Blk}{v:Value}(hs:Sim E B X { st with h:=h++[.vec e sh l] } a)(hv:Rep X (.vec h.length) v)
  (hd:h[s]?=some .dead) (h1:s∉q59 h) (h2:s∉AV.menL st.t) (h3:s∉qgr st.fs) (n1:h.length∉q59 h) (n2:h.length∉AV.menL st.t) (n3:h.length∉qgr st.fs) :
  ∃X',X'.w=X.w∧Sim E B X' { st with h:=h.set s (.vec e sh l) } a∧Rep X' (.vec s) v:=by
 have hsl:=qp hd
 have hX:X.h=h++[.vec e sh l]:=hs.h
 have hb:X.h[h.length]?=some (.vec e sh l):=by rw[hX,List.getElem?_append_right (Nat.le_refl _)];simp
 have hd':X.h[s]?=some .dead:=by rw[hX,List.getElem?_append_left hsl];exact hd
 have hm':s∉q59 X.h:=by rw[hX,qqH];simp[q59,Blk.menB];exact h1
 obtain⟨g1,g2,g3⟩:=qpt hs.hs hb hd' hm'
 have s1:=hs.moved g1 g2 h2 h3
 have hA:(X.alias h.length s (.vec e sh l)).h=h.set s (.vec e sh l)++[.dead]:=by
  show (X.h.set h.length .dead).set s (.vec e sh l)=_
  rw[hX,List.set_append_right (h:=Nat.le_refl _),Nat.sub_self,List.set_append_left (h:=hsl)];rfl
 obtain⟨k1,k2⟩:=qwZ g1 hA (by simp only[List.length_set];exact qam rfl n1)
 rw[List.length_set] at k2
 have s2:=s1.moved k1 k2 n2 n3
 have hne:s≠h.length:=by omega
 exact⟨{ X.alias h.length s (.vec e sh l) with h:=h.set s (.vec e sh l) },rfl,s2,(g3 v hv).voided k2 hne⟩
theorem vU(h:List Blk)(x:AV):(q0J h x).length=h.length:=by
 cases x<;>simp[q0J,qbc]
theorem q8X{h:List Blk}{x:AV}{c:Nat}(hc:c∉x.men):(q0J h x)[c]?=h[c]?:=by
 cases x<;>first|rfl|skip
 rename_i b
 exact qpm (fun e=>hc (by simp[AV.men,e]))
theorem qjd{h:List Blk}{x:AV}{c:Nat}(hc:c∉q59 h):c∉q59 (q0J h x):=by
 cases x<;>first|exact hc|skip
 rename_i b
 show c∉q59 (wE h b)
 unfold wE
 split
 ·rename_i e sh l _
  exact qam (k:=.frz e sh l) rfl hc
 ·exact hc
theorem qjZ{P:Program}{B:Base}{X:Ctx}{o:Oper}{a:Act}{r:Res}(h:qY P B X (execOp a.eval o) r){next:Act→World→Prop}{Q:Exit→Act→World→Prop}
  (hq:∀X' v,HSim B X'→Rep X' r.1 v→(match r.2.2 with|none=>X'.h=r.2.1∧Ext X X'|some b=>X'.h=r.2.1.map (Blk.ren (qcn b))∧Move X X' (qcn b))→next (a.put o.dst v) X'.w):o.wp P a X.w next Q:=by
 obtain⟨nx,v,X',g1,g2,g3,g4,g5⟩:=h
 unfold Oper.wp
 rw[g1]
 rcases g2 with rfl|⟨rfl,rfl⟩
 ·exact hq X' _ g4 g3 g5
 ·exact hq X' _ g4 g3 g5
theorem qAU{s:Nat}{h:List Blk}(hs:s∉q59 h):h.map (Blk.ren (qcn s))=h:=by
 induction h with
 | nil=>rfl
 | cons k h ih=>
  simp only[q59,List.mem_append,not_or] at hs
  simp only[List.map_cons,Blk.ren_void k hs.1,ih hs.2]
theorem qyp{o:Option Blk}(h:qpH o=true):o=some .dead:=by
 unfold qpH at h;split at h
 ·rfl
 ·cases h
theorem Sim.ext'{E:Env}{B:Base}{X X':Ctx}{st:St}{a:Act}{h':List Blk}(hs:Sim E B X st a)(hx:Ext X X')(h4:HSim B X')(hh:X'.h=h'):Sim E B X' { st with h:=h' } a:=by
 have:=hs.ext hx h4
 rw[hh] at this;exact this
theorem qxS{b:Nat}{h:List Blk}{x:AV}{sh:List Sh}{m:R}(hr:vS h x=some (sh,m))(hn:qvV b x=true):b∉x.men:=by
 cases x<;>simp only[vS] at hr<;>first|(cases hr;done)|simp[AV.men]
 rename_i b'
 intro e
 subst e
 simp[qvV] at hn
theorem qsO{h h':List Blk}{x:AV}(H:∀b,b∈x.men→h'[b]?=h[b]?):vS h' x=vS h x:=by
 cases x<;>simp only[vS]
 rename_i b
 rw[H b (by simp[AV.men])]
theorem qE7{args:Array Operand}{tys:Array TypeId}{o:Oper}{a:Act}(hop:o.op=.call { callee:=.builtin .append,args:=args,argTypes:=tys }) :
  ∃ty cs,execOp a.eval o=builtin .append tys ty cs ((args.toList.map a.eval).toArray):=by
 have hA:args.map a.eval=(args.toList.map a.eval).toArray:=by apply Array.ext';simp
 refine⟨o.type,args.map fun|.const _=>true|_=>false,?_⟩
 unfold execOp
 rw[hop,←hA]
 rfl
theorem qrL{E:Env}{P:Program}(hE:E.tok P){callS:List Blk→q2c}{B:Base}{X:Ctx}{st:St}{a:Act}(hs:Sim E B X st a){o:Oper}{av:AV}{h':List Blk}{s:Nat}
  (h:(q6m E callS st.h (E.opd st.t) o.op s).run=some (av,h')) (hl:qu1 o.op=true) (h1:s∉q59 st.h) (h2:s∉AV.menL st.t) (h3:s∉qgr st.fs) (n1:st.h.length∉q59 st.h) (n2:st.h.length∉AV.menL st.t) (n3:st.h.length∉qgr st.fs)
  {next:Act→World→Prop} {Q:Exit→Act→World→Prop} (hq:∀X' v,Sim E B X' { st with h:=h' } a→Rep X' av v→next (a.put o.dst v) X'.w):o.wp P a X.w next Q:=by
 unfold q6m at h
 rw[hl] at h
 simp only at h
 cases hdd:qpH st.h[s]? with
 | false=>rw[hdd] at h;cases h
 | true=>
  rw[hdd] at h
  have hd:=qyp hdd
  simp only at h
  split at h
  ·
   rename_i t len parts hop
   obtain⟨r,k1,k2⟩:=bind_some h
   simp only[Tree.run,Option.some.injEq,Prod.mk.injEq] at k2
   obtain⟨rfl,rfl⟩:=k2
   obtain⟨v0,z⟩:=r
   have hvz:v0=.vec st.h.length∧∃e sh l,z=.vec e sh l:=by
    have k1:=k1
    rw[hop] at k1
    unfold q9u at k1
    simp only at k1
    split at k1
    ·split at k1
     ·split at k1
      ·split at k1
       ·split at k1
        ·cases k1;exact⟨rfl,_,_,_,rfl⟩
        ·cases k1
       ·cases k1
      ·cases k1
     ·cases k1
    ·cases k1
   obtain⟨rfl,e,sh,l,rfl⟩:=hvz
   refine qjZ (qju hE hs (qsY k1).1) fun X' v g4 g3 g5=>?_
   have s1:Sim E B X' { st with h:=st.h++[.vec e sh l] } a:=hs.ext' g5.2 g4 g5.1
   obtain⟨X2,e2,s2,r2⟩:=qBm s1 g3 hd h1 h2 h3 n1 n2 n3
   rw[←e2]
   exact hq X2 v s2 r2
  ·
   rename_i args tys hop
   obtain⟨ty,cs,hrun⟩:=qE7 (a:=a) hop
   have hargs:=q5Z hs args.toList
   unfold qrk at h
   generalize args.toList.map (E.opd st.t)=als at h hargs
   generalize args.toList.map a.eval=avs at hrun hargs
   split at h
   case h_2=>cases h
   rename_i t t' sa xa htys
   by_cases htt:t=t'
   ·subst htt
    rw[if_pos rfl] at h
    cases hargs with
    | cons hsa hargs=>cases hargs with
     | cons hxa hargs=>
     cases hargs
     rename_i vs vx
     have hrun':execOp a.eval o=(do pure (.value (←Builtin.append_ #[t,t] ty #[vs,vx])):Sem Next):=by
      rw[hrun]
      obtain⟨tys⟩:=tys
      simp only at htys
      subst htys
      rfl
     unfold qpI at h
     cases htd:(E.ty t).d<;>rw[htd] at h<;>simp only at h<;>first|(cases h;done)|skip
     rename_i e es
     obtain⟨ht,rfl⟩:=q1e hE htd
     split at h
     case h_2=>cases h
     rename_i sh sh' m hsh hro
     by_cases hc:(sh.length=P.cellsOf e∧0<P.cellsOf e∧(E.ty e).zero.length=P.cellsOf e)∧Sh.beqL sh sh'=true
     ·rw[if_pos hc] at h
      obtain⟨⟨hc1,hc2,hc4⟩,hbq⟩:=hc
      obtain rfl:=Sh.beqL_eq _ _ hbq
      obtain⟨i,z,he⟩:=qyd hE hc2 hc4
      split at h
      ·
       obtain⟨g1,g2⟩:=brR h
       simp only[Tree.run,Option.some.injEq,Prod.mk.injEq] at g2
       obtain⟨rfl,rfl⟩:=g2
       have hh:(qo8 (qso (E.ty e).bytes) X.h e sh .nils xa).run=some (.vec X.h.length,q0J X.h xa++[.vec e sh m],none):=by
        unfold qo8
        rw[hs.h,hro]
        simp only
        rw[if_pos hbq]
        simp only[Tree.run,g1]
       have hg:=qi7 (ty:=ty) hs.hs ht hc2 hc1 he hsa hxa hh
       rw[←hrun'] at hg
       refine qjZ hg fun X' v g4 g3 g5=>?_
       have hfl:(q0J st.h xa).length=st.h.length:=vU _ _
       have s1:Sim E B X' { st with h:=q0J st.h xa++[.vec e sh m] } a:=hs.ext' g5.2 g4 (by rw[g5.1,hs.h])
       rw[hs.h,←hfl] at g3
       have hxs:s∉xa.men:=fun hm=>by
        cases xa<;>simp only[vS] at hro<;>first|(cases hro;done)|(simp[AV.men] at hm;done)|skip
        simp only[AV.men,List.mem_singleton] at hm
        subst hm
        rw[hd] at hro;cases hro
       obtain⟨X2,e2,s2,r2⟩:=qBm s1 g3 (by rw[q8X hxs];exact hd) (qjd h1) h2 h3 (by rw[hfl];exact qjd n1) (by rw[hfl];exact n2) (by rw[hfl];exact n3)
       rw[←e2]
       exact hq X2 v s2 r2
      ·
       rename_i b
       split at h
       case h_2=>cases h
       rename_i e' sh'' l hbk
       by_cases hq2:(Sh.beqL sh sh''=true∧e=e')∧qvV b xa=true
       ·rw[if_pos hq2] at h
        obtain⟨⟨hbq2,rfl⟩,hnv⟩:=hq2
        obtain rfl:=Sh.beqL_eq _ _ hbq2
        obtain⟨g1,g2⟩:=brR h
        simp only[Tree.run,Option.some.injEq,Prod.mk.injEq] at g2
        obtain⟨rfl,rfl⟩:=g2
        have hbx:=qxS hro hnv
        have hxs:s∉xa.men:=fun hm=>by
         cases xa<;>simp only[vS] at hro<;>first|(cases hro;done)|(simp[AV.men] at hm;done)|skip
         simp only[AV.men,List.mem_singleton] at hm
         subst hm
         rw[hd] at hro;cases hro
        have hbs:b≠s:=fun he=>by rw[he,hd] at hbk;cases hbk
        have hb':X.h[b]?=some (.vec e sh l):=by rw[hs.h];exact hbk
        have hd':X.h[s]?=some .dead:=by rw[hs.h];exact hd
        obtain⟨a1,a2,a3⟩:=qpt hs.hs hb' hd' (by rw[hs.h];exact h1)
        have hbl:=qp hbk
        have hsl:=qp hd
        have ag:∀x,(X.alias b s (.vec e sh l)).h[x]?=if x=s then some (.vec e sh l) else if x=b then some .dead else st.h[x]?:=fun x=>by
         rw[qsk (by rw[hs.h];exact hbl) (by rw[hs.h];exact hsl),hs.h]
        have hxr:vS (X.alias b s (.vec e sh l)).h xa=some (sh,m):=by
         rw[qsO (h:=st.h) fun c hc=>by
          have z1:c≠s:=fun e=>hxs (e▸hc)
          have z2:c≠b:=fun e=>hbx (e▸hc)
          rw[ag,if_neg z1,if_neg z2]]
         exact hro
        have hxrep:Rep (X.alias b s (.vec e sh l)) xa vx:=by
         have:=hxa.ren a2.toMove0
         rwa [AV.ren_void xa hxs] at this
        have hfin:(q0J (X.alias b s (.vec e sh l)).h xa).set s (.vec e sh (q3z l m))=((q0J st.h xa).set b .dead).set s (.vec e sh (q3z l m)):=by
         apply List.ext_getElem?
         intro x
         by_cases x1:x=s
         ·subst x1
          rw[List.getElem?_set_self (by rw[vU];simp[Ctx.alias,hs.h];exact hsl),List.getElem?_set_self (by simp[vU];exact hsl)]
         ·rw[List.getElem?_set_ne (fun e=>x1 e.symm),List.getElem?_set_ne (fun e=>x1 e.symm)]
          by_cases x2:x=b
          ·subst x2
           rw[List.getElem?_set_self (by rw[vU];exact hbl),q8X hbx,ag,if_neg x1,if_pos rfl]
          ·rw[List.getElem?_set_ne (fun e=>x2 e.symm)]
           cases xa<;>first|(show (X.alias b s (.vec e sh l)).h[x]?=st.h[x]?;rw[ag,if_neg x1,if_neg x2];done)|skip
           rename_i b'
           have y1:b'≠s:=fun e=>hxs (by simp[AV.men,e])
           have y2:b'≠b:=fun e=>hbx (by simp[AV.men,e])
           have y3:=ag b'
           rw[if_neg y1,if_neg y2] at y3
           unfold q0J wE
           simp only[y3]
           cases hk:st.h[b']? with
           | none=>simp only;rw[ag,if_neg x1,if_neg x2]
           | some k=>
            cases k<;>simp only<;>first|(rw[ag,if_neg x1,if_neg x2];done)|skip
            by_cases x3:x=b'
            ·subst x3
             rw[List.getElem?_set_self (by simp[Ctx.alias,hs.h];exact qp hk),List.getElem?_set_self (qp hk)]
            ·rw[List.getElem?_set_ne (fun e=>x3 e.symm),List.getElem?_set_ne (fun e=>x3 e.symm),ag,if_neg x1,if_neg x2]
        have hh:(qo8 (qso (E.ty e).bytes) (X.alias b s (.vec e sh l)).h e sh (.vec s) xa).run=some (.vec s,(q0J (X.alias b s (.vec e sh l)).h xa).set s (.vec e sh (q3z l m)),some s):=by
         unfold qo8
         rw[hxr]
         simp only
         rw[if_pos hbq,ag,if_pos rfl]
         simp only
         rw[if_pos ⟨hbq,trivial⟩]
         unfold qyF
         cases xa<;>simp only[q0J]<;>first|(simp only[Tree.run,g1];done)|skip
         rename_i b'
         rw[if_neg (fun e=>hxs (by simp[AV.men,←e]))]
         simp only[Tree.run,g1]
        have hg:=qi7 (ty:=ty) a1 ht hc2 hc1 he (a3 _ hsa) hxrep hh
        rw[←hrun'] at hg
        have hg':qY P B (X.alias b s (.vec e sh l)) (execOp a.eval o) (.vec s,(q0J (X.alias b s (.vec e sh l)).h xa).set s (.vec e sh (q3z l m)),some s):=hg
        have s0:=hs.moved a1 a2 h2 h3
        have hw:(X.alias b s (.vec e sh l)).w=X.w:=rfl
        rw[←hw]
        refine qjZ hg' fun X' v g4 g3 g5=>?_
        obtain⟨g5,g6⟩:=g5
        simp only at g5 g6
        rw[hfin,qAU (qam rfl (qam rfl (qjd h1)))] at g5
        have s1:=s0.moved g4 g6 h2 h3
        have:({ ({ st with h:=(X.alias b s (.vec e sh l)).h }:St) with h:=X'.h }:St)={ st with h:=((q0J st.h xa).set b .dead).set s (.vec e sh (q3z l m)) }:=by rw[g5]
        rw[this] at s1
        exact hq X' v s1 g3
       ·rw[if_neg hq2] at h;cases h
      ·cases h
     ·rw[if_neg hc] at h;cases h
   ·rw[if_neg htt] at h;cases h
  ·cases h
def qfN(w:List Nat)(k h:List Blk):List Blk:=h.mapIdx fun b x=>if b∈w then k.getD b .dead else x
theorem qxA(w:List Nat)(k h:List Blk):(qfN w k h).length=h.length:=by simp[qfN]
theorem qgf{w:List Nat}{k h:List Blk}{b:Nat}(hb:b∉w):(qfN w k h)[b]?=h[b]?:=by
 unfold qfN
 rw[List.getElem?_mapIdx]
 cases h[b]? with
 | none=>rfl
 | some x=>simp[hb]
theorem qex{w:List Nat}{k h:List Blk}{b:Nat}(hb:b∈w)(hk:k.length=h.length):(qfN w k h)[b]?=k[b]?:=by
 unfold qfN
 rw[List.getElem?_mapIdx]
 rcases Nat.lt_or_ge b h.length with hl|hl
 ·rw[List.getElem?_eq_getElem hl,List.getElem?_eq_getElem (hk▸hl)]
  simp[hb,List.getD_eq_getElem?_getD,List.getElem?_eq_getElem (hk▸hl)]
 ·rw[List.getElem?_eq_none hl,List.getElem?_eq_none (by omega)];rfl
theorem qcx{w:List Nat}{k h k':List Blk}(hk:k.length=h.length)(h1:∀b,b∈w→k'[b]?=k[b]?)(h2:∀b,b∉w→k'[b]?=h[b]?):k'=qfN w k h:=by
 apply List.ext_getElem?
 intro b
 by_cases hb:b∈w
 ·rw[h1 b hb,qex hb hk]
 ·rw[h2 b hb,qgf hb]
theorem qqr{E:Env}{callS:List Blk→q2c}{h:List Blk}{f g:Operand→AV}{op:Op}{k:Nat}(hfg:∀x∈op.operands.toList,f x=g x):q6m E callS h f op k=q6m E callS h g op k:=by
 unfold q6m
 cases hl:qu1 op with
 | false=>simp only;rw[qjo hfg]
 | true=>
  simp only
  cases qpH h[k]? with
  | false=>rfl
  | true=>
   simp only
   split
   ·rw[qlB hfg]
   ·rename_i args tys
    have:args.toList.map f=args.toList.map g:=List.map_congr_left fun y hy=>hfg y (by simpa[Op.operands,Call.operands] using hy)
    rw[this]
   ·rfl
theorem qvg{E:Env}{h h':List Blk}{ev:Operand→AV}{t:TypeId}{len:Nat}{ps:Array (Nat×Operand)}(hl:h'.length=h.length):q9u E h' ev (.buildSlice t len ps)=q9u E h ev (.buildSlice t len ps):=by
 unfold q9u
 simp only
 split
 ·split
  ·split
   ·split
    ·rename_i hc
     rw[qhY (h':=h) _ _ hc.2,hl]
    ·rfl
   ·rfl
  ·rfl
 ·rfl
theorem qzW{h h':List Blk}{x:AV}{c:Nat}(H:∀b,b∈x.men→h'[b]?=h[b]?)(hc:h'[c]?=h[c]?)(hl:h'.length=h.length):(q0J h' x)[c]?=(q0J h x)[c]?:=by
 cases x<;>first|exact hc|skip
 rename_i b
 have hb:=H b (by simp[AV.men])
 show (wE h' b)[c]?=(wE h b)[c]?
 unfold wE
 rw[hb]
 split
 ·rename_i e sh l hv
  by_cases hcb:c=b
  ·subst hcb
   rw[List.getElem?_set_self (by rw[hl];exact qp hv),List.getElem?_set_self (qp hv)]
  ·rw[List.getElem?_set_ne (fun e=>hcb e.symm),List.getElem?_set_ne (fun e=>hcb e.symm)];exact hc
 ·exact hc
theorem qwm{h h':List Blk}{s c:Nat}{k:Blk}(hl:h'.length=h.length)(hc:c≠s→h'[c]?=h[c]?):(h'.set s k)[c]?=(h.set s k)[c]?:=by
 by_cases hcs:c=s
 ·subst hcs
  rcases Nat.lt_or_ge c h.length with hlt|hge
  ·rw[List.getElem?_set_self (by omega),List.getElem?_set_self hlt]
  ·rw[List.getElem?_eq_none (by simp;omega),List.getElem?_eq_none (by simp;omega)]
 ·rw[List.getElem?_set_ne (fun e=>hcs e.symm),List.getElem?_set_ne (fun e=>hcs e.symm)];exact hc hcs
theorem qt7{E:Env}{h h':List Blk}{t:TypeId}{s x:AV}{k:Nat}{u:AV}{r:List Blk}{R:List Nat}(hR:∀b,(b=k∨b∈s.men∨b∈x.men)→b∈R)(H:∀b,b∈R→h'[b]?=h[b]?)(hl:h'.length=h.length)
  (hr:(qpI E h t s x k).run=some (u,r)):r.length=h.length∧(∀b,b∉R→r[b]?=h[b]?)∧∃r',(qpI E h' t s x k).run=some (u,r')∧r'.length=h.length∧(∀b,b∉R→r'[b]?=h'[b]?)∧(∀b,b∈R→r'[b]?=r[b]?):=by
 have hk:∀b,b∉R→b≠k:=fun b hb e=>hb (hR b (.inl e))
 have hx:∀b,b∉R→b∉x.men:=fun b hb e=>hb (hR b (.inr (.inr e)))
 have hro:vS h' x=vS h x:=qsO fun b hb=>H b (hR b (.inr (.inr hb)))
 have hfa:∀c,c∈R→(q0J h' x)[c]?=(q0J h x)[c]?:=fun c hc=>qzW (fun b hb=>H b (hR b (.inr (.inr hb)))) (H c hc) hl
 unfold qpI at hr ⊢
 cases htd:(E.ty t).d<;>rw[htd] at hr<;>simp only at hr ⊢<;>first|(cases hr;done)|skip
 rename_i e es
 rw[hro]
 split at hr
 case h_2=>cases hr
 rename_i sh sh' m hsh hrw
 split at hr
 case isFalse=>cases hr
 rename_i hc
 split at hr
 ·
  obtain⟨g1,g2⟩:=brR hr
  simp only[Tree.run,Option.some.injEq,Prod.mk.injEq] at g2
  obtain⟨rfl,rfl⟩:=g2
  refine⟨by simp[vU],fun b hb=>?_,(q0J h' x).set k (.vec e sh m),?_,by simp[vU,hl],fun b hb=>?_,fun b hb=>?_⟩
  ·rw[List.getElem?_set_ne (fun e=>hk b hb e.symm),q8X (hx b hb)]
  ·simp only[if_pos hc,Tree.run,g1]
  ·rw[List.getElem?_set_ne (fun e=>hk b hb e.symm),q8X (hx b hb)]
  ·exact qwm (by simp[vU,hl]) fun _=>hfa b hb
 ·rename_i b0
  split at hr
  case h_2=>cases hr
  rename_i e' sh'' l hbk
  split at hr
  case isFalse=>cases hr
  rename_i hq
  obtain⟨g1,g2⟩:=brR hr
  simp only[Tree.run,Option.some.injEq,Prod.mk.injEq] at g2
  obtain⟨rfl,rfl⟩:=g2
  have hb0:b0∈R:=hR b0 (.inr (.inl (by simp[AV.men])))
  have hs:∀b,b∉R→b≠b0:=fun b hb e=>hb (e▸hb0)
  refine⟨by simp[vU],fun b hb=>?_,((q0J h' x).set b0 .dead).set k (.vec e sh (q3z l m)),?_,by simp[vU,hl],fun b hb=>?_,fun b hb=>?_⟩
  ·rw[List.getElem?_set_ne (fun e=>hk b hb e.symm),List.getElem?_set_ne (fun e=>hs b hb e.symm),q8X (hx b hb)]
  ·simp only[if_pos hc,H b0 hb0,hbk,if_pos hq,Tree.run,g1]
  ·rw[List.getElem?_set_ne (fun e=>hk b hb e.symm),List.getElem?_set_ne (fun e=>hs b hb e.symm),q8X (hx b hb)]
  ·exact qwm (by simp[vU,hl]) fun _=>qwm (by simp[vU,hl]) fun _=>hfa b hb
 ·cases hr
theorem qjR{E:Env}{callS:List Blk→q2c}(hmo:q2k E callS){h h':List Blk}{ev:Operand→AV}{op:Op}{k:Nat}{u:AV}{r:List Blk}{R:List Nat}(hR:(q3K E ev op k u).r=some R)
  (H:∀b,b∈R→h'[b]?=h[b]?) (hl:h'.length=h.length) (hr:(q6m E callS h ev op k).run=some (u,r)) :
  r.length=h.length∧(∀b,b∉(q3K E ev op k u).w→r[b]?=h[b]?)∧(q6m E callS h' ev op k).run=some (u,qfN (q3K E ev op k u).w r h'):=by
 unfold q6m q3K at *
 cases hloc:qu1 op with
 | false=>
  rw[hloc] at hr hR
  simp only at hr hR ⊢
  obtain⟨v,k1,k2⟩:=bind_some hr
  simp only[Tree.run,Option.some.injEq,Prod.mk.injEq] at k2
  obtain⟨rfl,rfl⟩:=k2
  refine⟨rfl,fun _ _=>rfl,?_⟩
  rw[Tree.run_bind,qfJ hmo hR H k1]
  simp only[Option.bind_some,Tree.run]
  rw[←qcx (k':=h') hl.symm (fun b hb=>by cases hb) (fun _ _=>rfl)]
 | true=>
  rw[hloc] at hr hR
  simp only[Option.some.injEq] at hr hR ⊢
  subst hR
  have hk:=H k List.mem_cons_self
  cases hdd:qpH h[k]? with
  | false=>rw[hdd] at hr;cases hr
  | true=>
   rw[hdd] at hr
   rw[hk,hdd]
   simp only at hr ⊢
   split at hr
   ·rename_i t len parts
    obtain⟨q,k1,k2⟩:=bind_some hr
    simp only[Tree.run,Option.some.injEq,Prod.mk.injEq] at k2
    obtain⟨rfl,rfl⟩:=k2
    refine⟨by simp,fun b hb=>?_,?_⟩
    ·simp only[List.mem_cons,not_or] at hb
     rw[List.getElem?_set_ne (fun e=>hb.1 e.symm)]
    ·rw[qvg hl,Tree.run_bind,k1]
     simp only[Option.bind_some,Tree.run]
     rw[←qcx (k':=h'.set k q.2) (by simp[hl]) (fun b hb=>qwm hl fun _=>H b hb) (fun b hb=>by
      simp only[List.mem_cons,not_or] at hb
      rw[List.getElem?_set_ne (fun e=>hb.1 e.symm)])]
   ·rename_i args tys
    have hmen:qrJ ev (.call { callee:=.builtin .append,args:=args,argTypes:=tys })=AV.menL (args.toList.map ev):=by
     unfold qrJ kg
     simp[Op.operands,Call.operands]
    rw[hmen] at H ⊢
    unfold qrk at hr ⊢
    generalize args.toList.map ev=als at *
    split at hr
    case h_2=>cases hr
    rename_i t t' sa xa htys
    split at hr
    case isFalse=>cases hr
    rename_i htt
    have hR':∀b,(b=k∨b∈sa.men∨b∈xa.men)→b∈k::AV.menL [sa,xa]:=by
     intro b hb
     simp only[AV.menL,List.append_nil,List.mem_cons,List.mem_append]
     exact hb
    obtain⟨q1,q2,r',q3,q4,q5,q6⟩:=qt7 hR' H hl hr
    refine⟨q1,q2,?_⟩
    simp only[if_pos htt]
    rw[q3,←qcx (k':=r') (by rw[q1,hl]) q6 q5]
   ·cases hr
theorem quB{E:Env}{callS:List Blk→q2c}{h:List Blk}{ev:Operand→AV}{op:Op}{k:Nat}{u:AV}{r:List Blk}(hr:(q6m E callS h ev op k).run=some (u,r)){c:Nat}(hc:c∉q59 h):c∉q59 r:=by
 unfold q6m at hr
 cases hloc:qu1 op with
 | false=>
  rw[hloc] at hr
  simp only at hr
  obtain⟨v,k1,k2⟩:=bind_some hr
  simp only[Tree.run,Option.some.injEq,Prod.mk.injEq] at k2
  rw[←k2.2];exact hc
 | true=>
  rw[hloc] at hr
  simp only at hr
  split at hr
  ·split at hr
   ·rename_i t len parts
    obtain⟨q,k1,k2⟩:=bind_some hr
    simp only[Tree.run,Option.some.injEq,Prod.mk.injEq] at k2
    rw[←k2.2]
    obtain⟨v0,z⟩:=q
    have hz:∃e sh l,z=.vec e sh l:=by
     unfold q9u at k1
     simp only at k1
     split at k1
     ·split at k1
      ·split at k1
       ·split at k1
        ·split at k1
         ·cases k1;exact⟨_,_,_,rfl⟩
         ·cases k1
        ·cases k1
       ·cases k1
      ·cases k1
     ·cases k1
    obtain⟨e,sh,l,rfl⟩:=hz
    exact qam rfl hc
   ·rename_i args tys
    unfold qrk at hr
    split at hr
    case h_2=>cases hr
    split at hr
    case isFalse=>cases hr
    unfold qpI at hr
    split at hr
    case h_2=>cases hr
    split at hr
    case h_2=>cases hr
    split at hr
    case isFalse=>cases hr
    split at hr
    ·obtain⟨g1,g2⟩:=brR hr
     simp only[Tree.run,Option.some.injEq,Prod.mk.injEq] at g2
     rw[←g2.2]
     exact qam rfl (qjd hc)
    ·split at hr
     case h_2=>cases hr
     split at hr
     case isFalse=>cases hr
     obtain⟨g1,g2⟩:=brR hr
     simp only[Tree.run,Option.some.injEq,Prod.mk.injEq] at g2
     rw[←g2.2]
     exact qam rfl (qam rfl (qjd hc))
    ·cases hr
   ·cases hr
  ·cases hr
end Go.Eng

namespace Go.Eng
inductive LocOK (E:Env) (callS:List Blk→q2c) (all:Array Oper) (base:Nat) (i:Nat) (o:Oper) (T:List AV) (v:AV) (h h':List Blk) (d:Option LDesc):Prop
 | out (h1:u5 all o T=some false) (h2:v=.skip) (h3:h'=h) (h4:d=none)
 | op (u:AV) (h1:u5 all o T=some true) (h2:(q6m E callS h (E.opd T) o.op (base+i)).run=some (u,h')) (h3:v=qs5 all i u) (h4:d=some (q3K E (E.opd T) o.op (base+i) u))
   (h5:(q3K E (E.opd T) o.op (base+i) u).r.isSome=true) (h6:∀b,b∈u.men→b<h.length)
theorem qyn{E:Env}{ev:Operand→AV}{op:Op}{k:Nat}{u:AV}:(q3K E ev op k u).v=u.men:=by
 unfold q3K;split<;>rfl
theorem qpp{E:Env}{callS:List Blk→q2c}{all:Array Oper}{anc:List Nat}{base:Nat}:∀(l:List Oper) (k:Nat) (ds:List (Nat×LDesc)) (st st':St),
  (qv7 E callS all anc base k l ds st).run=some st' →
  ∃(V:Nat→AV) (H:Nat→List Blk) (D:Nat→Option LDesc),H k=st.h∧st'={ st with t:=q56 V k l st.t,h:=H (k+l.length) } ∧
   (∀j o,l[j]?=some o→LocOK E callS all base (k+j) o (q56 V k (l.take j) st.t) (V (k+j)) (H (k+j)) (H (k+j+1)) (D (k+j))) ∧
   (∀j d,j<l.length→D (k+j)=some d→∀x,x∈ds→qfL anc base x (k+j) d=true) ∧
   (∀j j' d d',j<j'→j'<l.length→D (k+j)=some d→D (k+j')=some d'→qfL anc base (k+j,d) (k+j') d'=true)
 | [],k,ds,st,st',h=>by
  simp only[qv7,Tree.run,Option.some.injEq] at h
  subst h
  exact⟨fun _=>.undef,fun _=>st.h,fun _=>none,rfl,rfl,fun j o hj=>by simp at hj,fun j d hj=>by simp at hj,fun j j' _ _ _ hj=>by simp at hj⟩
 | o::rest,k,ds,st,st',h=>by
  have fin:∀(v:AV) (h':List Blk) (d:Option LDesc) (ds':List (Nat×LDesc)),LocOK E callS all base k o st.t v st.h h' d→(∀d0,d=some d0→∀x,x∈ds→qfL anc base x k d0=true)→(∀x,x∈ds→x∈ds')→(∀d0,d=some d0→(k,d0)∈ds') →
    (qv7 E callS all anc base (k+1) rest ds' { st with t:=qeu st.t o.dst v,h:=h' }).run=some st' →
    ∃(V:Nat→AV) (H:Nat→List Blk) (D:Nat→Option LDesc),H k=st.h∧st'={ st with t:=q56 V k (o::rest) st.t,h:=H (k+(o::rest).length) } ∧
   (∀j o',(o::rest)[j]?=some o'→LocOK E callS all base (k+j) o' (q56 V k ((o::rest).take j) st.t) (V (k+j)) (H (k+j)) (H (k+j+1)) (D (k+j))) ∧
   (∀j d,j<(o::rest).length→D (k+j)=some d→∀x,x∈ds→qfL anc base x (k+j) d=true) ∧
   (∀j j' d d',j<j'→j'<(o::rest).length→D (k+j)=some d→D (k+j')=some d'→qfL anc base (k+j,d) (k+j') d'=true):=by
   intro v h' d ds' hmx hcr hds hd hr
   obtain⟨V,H,D,e1,e2,e3,e4,e5⟩:=qpp rest (k+1) ds' _ st' hr
   have hfold:∀(l:List Oper) (t:List AV),q56 (fun j=>if j=k then v else V j) (k+1) l t=q56 V (k+1) l t:=fun l t=>qhP l (k+1) t fun j hj=>if_neg (by omega)
   refine⟨fun j=>if j=k then v else V j,fun j=>if j=k then st.h else H j,fun j=>if j=k then d else D j,by simp,?_,?_,?_,?_⟩
   ·rw[e2]
    simp only[q56,if_true,List.length_cons]
    rw[hfold,if_neg (by omega),show k+(rest.length+1)=k+1+rest.length by omega]
   ·intro j o' hj
    cases j with
    | zero=>
     simp only[List.getElem?_cons_zero,Option.some.injEq] at hj
     subst hj
     simp only[Nat.add_zero,if_true,List.take_zero,q56]
     rw[if_neg (by omega),e1]
     exact hmx
    | succ j=>
     have:=e3 j o' (by simpa using hj)
     simp only[List.take_succ_cons,q56,if_true]
     rw[hfold,show k+(j+1)=k+1+j by omega,if_neg (by omega),if_neg (by omega),if_neg (by omega),if_neg (by omega)]
     exact this
   ·intro j d0 hj hdj x hx
    cases j with
    | zero=>simp only[Nat.add_zero,if_true] at hdj ⊢;exact hcr d0 hdj x hx
    | succ j=>
     simp only at hdj
     rw[show k+(j+1)=k+1+j by omega,if_neg (by omega)] at hdj
     have:=e4 j d0 (by simpa using hj) hdj x (hds x hx)
     rw[show k+(j+1)=k+1+j by omega]
     exact this
   ·intro j j' d0 d0' hjj hj' hdj hdj'
    obtain⟨j'',rfl⟩:∃x,j'=x+1:=⟨j'-1,by omega⟩
    have hl:j''<rest.length:=by simpa using hj'
    simp only at hdj hdj'
    rw[show k+(j''+1)=k+1+j'' by omega,if_neg (by omega)] at hdj'
    rw[show k+(j''+1)=k+1+j'' by omega]
    cases j with
    | zero=>
     simp only[Nat.add_zero,if_true] at hdj ⊢
     exact e4 j'' d0' hl hdj' _ (hd d0 hdj)
    | succ j=>
     rw[show k+(j+1)=k+1+j by omega,if_neg (by omega)] at hdj
     rw[show k+(j+1)=k+1+j by omega]
     exact e5 j j'' d0 d0' (by omega) hl hdj hdj'
  simp only[qv7] at h
  cases hw:u5 all o st.t with
  | none=>rw[hw] at h;cases h
  | some b=>
   rw[hw] at h
   cases b with
   | true=>
    simp only at h
    obtain⟨r,h1,h2⟩:=bind_some h
    split at h2
    ·rename_i hall
     simp only[Bool.and_eq_true,List.all_eq_true] at hall
     obtain⟨c1,c2,c3⟩:=hall
     obtain⟨s,h3,h4⟩:=bind_some h2
     obtain⟨u,h'⟩:=r
     obtain rfl:=qsM (st:={ st with h:=h' }) h3
     exact fin _ h' (some (q3K E (E.opd st.t) o.op (base+k) u)) _ (.op u hw h1 rfl rfl c1 fun b hb=>Nat.blt_eq.mp (c2 b hb)) (fun d0 he x hx=>by cases he;exact c3 x hx) (fun x hx=>List.mem_append_left _ hx) (fun d0 he=>by cases he;exact List.mem_append_right _ List.mem_cons_self) h4
    ·cases h2
   | false=>
    simp only at h
    exact fin .skip st.h none ds (.out hw rfl rfl rfl) (fun d0 he=>by cases he) (fun x hx=>hx) (fun d0 he=>by cases he) h
section
variable (W:Nat→List Nat) (H:Nat→List Blk) (h0:List Blk)
def hLp(L:Nat→Bool):Nat→List Blk
 | 0=>h0
 | m+1=>if L m=true then qfN (W m) (H (m+1)) (hLp L m) else hLp L m
variable {W H h0}
theorem q9l(L:Nat→Bool):∀m,(hLp W H h0 L m).length=h0.length
 | 0=>rfl
 | m+1=>by simp only[hLp];split<;>simp[qxA,q9l L m]
theorem qug{L:Nat→Bool}{b lo:Nat}:∀m,lo≤m→(∀j,lo≤j→j<m→L j=true→b∉W j)→(hLp W H h0 L m)[b]?=(hLp W H h0 L lo)[b]?
  | 0, h, _ => by have : lo = 0 := by omega
                  rw[this]
  | m+1,h,hj=>by
    rcases Nat.eq_or_lt_of_le h with rfl|h
    · rfl
    · rw[←qug m (by omega) fun j h1 h2=>hj j h1 (by omega)]
      simp only[hLp]
      split
      · rename_i hl
        exact qgf (hj m (by omega) (by omega) hl)
      · rfl
theorem qrX{L L':Nat→Bool}{b:Nat}(hH:∀m,(H m).length=h0.length):∀m,(∀j,j<m→b∈W j→L j=L' j)→(hLp W H h0 L m)[b]?=(hLp W H h0 L' m)[b]?
 | 0,_=>rfl
 | m+1,hj=>by
  have ih:=qrX (L:=L) (L':=L') hH m fun j h1=>hj j (by omega)
  by_cases hb:b∈W m
  ·have:=hj m (by omega) hb
   simp only[hLp]
   rw[this]
   split
   ·rw[qex hb (by rw[q9l,hH]),qex hb (by rw[q9l,hH])]
   ·exact ih
  ·have out:∀L:Nat→Bool,(hLp W H h0 L (m+1))[b]?=(hLp W H h0 L m)[b]?:=fun L=>by
    simp only[hLp]
    split
    ·exact qgf hb
    ·rfl
   rw[out,out,ih]
theorem qnu{L L':Nat→Bool}:∀m,(∀j,j<m→L j=L' j)→hLp W H h0 L m=hLp W H h0 L' m
 | 0,_=>rfl
 | m+1,h=>by
  simp only[hLp]
  rw[h m (Nat.lt_succ_self m),qnu m fun j hj=>h j (by omega)]
theorem qyt(hk:∀i,(H (i+1)).length=(H i).length∧∀b,b∉W i→(H (i+1))[b]?=(H i)[b]?)(h1:H 0=h0):∀m,hLp W H h0 (fun _=>true) m=H m
 | 0=>h1.symm
 | m+1=>by
  simp only[hLp,if_true]
  rw[qyt hk h1 m]
  exact(qcx (hk m).1 (fun _ _=>rfl) (hk m).2).symm
theorem qyr{L:Nat→Bool}{i m:Nat}(hi:i<m)(hL:L i=false)(hH:∀m,(H m).length=h0.length)(hu:∀j,i<j→j<m→L j=true→∀b,b∈W i→b∉W j) :
  hLp W H h0 (fun j=>if j=i then true else L j) m=qfN (W i) (H (i+1)) (hLp W H h0 L m):=by
 refine qcx (by rw[hH,q9l]) (fun b hb=>?_) (fun b hb=>?_)
 ·rw[qug (lo:=i+1) m (by omega) fun j h1 h2 h3=>hu j (by omega) h2 (by rwa [if_neg (by omega)] at h3) b hb]
  simp only[hLp,if_true]
  exact qex hb (by rw[q9l,hH])
 ·refine qrX hH m fun j _ hbj=>if_neg fun e=>?_
  subst e;exact hb hbj
theorem qBX{h:List Blk}{c:Nat}(hb:∀(b:Nat) (k:Blk),h[b]?=some k→c∉k.menB):c∉q59 h:=by
 induction h with
 | nil=>intro h;cases h
 | cons k h ih=>
  simp only[q59,List.mem_append,not_or]
  exact⟨hb 0 k rfl,ih fun b k' hk=>hb (b+1) k' (by simpa using hk)⟩
theorem qve{L:Nat→Bool}{c:Nat}(hH:∀m,(H m).length=h0.length)(h1:c∉q59 h0)(h2:∀m,c∉q59 (H m)):∀m,c∉q59 (hLp W H h0 L m)
 | 0=>h1
 | m+1=>by
  have ih:=qve (L:=L) hH h1 h2 m
  simp only[hLp]
  split
  ·refine qBX fun b k hk=>?_
   by_cases hb:b∈W m
   ·rw[qex hb (by rw[q9l,hH])] at hk;exact qjt (h2 _) hk
   ·rw[qgf hb] at hk;exact qjt ih hk
  ·exact ih
end
theorem qpZ{w R:List Nat}(h:qB6 w (some R)=true):∀b,b∈w→b∉R:=by
 intro b hb
 cases w with
 | nil=>cases hb
 | cons a w=>
  simp only[qB6,List.all_eq_true,Bool.not_eq_true',List.contains_eq_mem,decide_eq_false_iff_not] at h
  exact h b hb
def wOf(D:Nat→Option LDesc)(j:Nat):List Nat:=match D j with
 | some d=>d.w
 | none=>[]
theorem qDC{E:Env}{ev:Operand→AV}{op:Op}{k:Nat}{u:AV}{R:List Nat}(hR:(q3K E ev op k u).r=some R):∀b,b∈(q3K E ev op k u).w→b∈R:=by
 unfold q3K at *
 split at hR
 ·simp only[Option.some.injEq] at hR;subst hR;exact fun b hb=>hb
 ·intro b hb;cases hb
section
variable {E:Env} {P:Program} {callS:List Blk→q2c} {B:Base} {all:Array Oper} {V:Nat→AV} {T0:List AV} {H:Nat→List Blk} {D:Nat→Option LDesc} {fs:List (List AV)} {pd:Option Ex} {Q:Exit→Act→World→Prop} {n0 m base:Nat}
theorem qzl(hE:E.tok P)(hc:qbS E P callS)(hmo:q2k E callS)(hd:DrawOk all)(hms:m≤all.size)
  (hV:∀i o,all[i]?=some o→i<m→LocOK E callS all base i o (TLp (qU all) V T0 (fun _=>true) i) (V i) (H i) (H (i+1)) (D i))
  (hX:∀i j d d',i<j→j<m→D i=some d→D j=some d'→qfL (q31 all.toList) base (i,d) j d'=true)
  (hcon:∀i,m≤i→H i=H m) (_:∀i,m≤i→D i=none)
  (hlen:(H 0).length=base+m) (hT0:∀c,base≤c→c∉AV.menL T0) (hfs:∀c,base≤c→c∉qgr fs) (hH0:∀c,base≤c→c∉q59 (H 0))
  (hq:all.size≤m→∀X a,Sim E B X { t:=TLp (qU all) V T0 (fun _=>true) all.size,fs:=fs,pend:=pd,h:=H m } a→Q .normal a X.w)
  (hlast:∀i fuel listed X a,i<all.size→m≤i→listed.size=all.size→i∈Region.ready .any all listed→qbX all (fun j=>listed.getD j false)→(∀j,m≤j→j<all.size→listed.getD j false=false)→(∀j,j<m→listed.getD j false=true) →
   Sim E B X { t:=TLp (qU all) V T0 (fun j=>listed.getD j false) all.size,fs:=fs,pend:=pd,h:=H m } a →
   unl listed all.size≤fuel+1→wpOpIn (q1u B.ro) n0 P all Q i (wpAnyIn (q1u B.ro) n0 P .any all Q fuel (listed.setIfInBounds i true)) a X.w)
  (hsuf:∀i j,m≤i→i<all.size→j<i→((q31 all.toList).getD i 0).testBit j=true) :
  ∀(fuel:Nat) (listed:Array Bool) (X:Ctx) (a:Act),listed.size=all.size→qbX all (fun j=>listed.getD j false)→(∀i,m≤i→i<all.size→listed.getD i false=false) →
   unl listed all.size≤fuel→Sim E B X { t:=TLp (qU all) V T0 (fun j=>listed.getD j false) all.size,fs:=fs,pend:=pd,h:=hLp (wOf D) H (H 0) (fun j=>listed.getD j false) m } a→wpAnyIn (q1u B.ro) n0 P .any all Q fuel listed a X.w:=by
 intro fuel
 have step:∀i,(H (i+1)).length=(H i).length∧(∀b,b∉wOf D i→(H (i+1))[b]?=(H i)[b]?)∧∀c,c∉q59 (H i)→c∉q59 (H (i+1)):=by
  intro i
  rcases Nat.lt_or_ge i m with him|him
  ·have hi:i<all.size:=by omega
   cases hV i _ (Array.getElem?_eq_getElem hi) him with
   | out h1 h2 h3 h4=>rw[h3];exact⟨rfl,fun _ _=>rfl,fun _ h=>h⟩
   | op u h1 h2 h3 h4 h5 h6=>
    obtain⟨R,hR⟩:=Option.isSome_iff_exists.1 h5
    obtain⟨q1,q2,_⟩:=qjR (h':=H i) hmo hR (fun _ _=>rfl) rfl h2
    refine⟨q1,?_,fun c hc=>quB h2 hc⟩
    unfold wOf;rw[h4];exact q2
  ·rw[hcon i him,hcon (i+1) (by omega)];exact⟨rfl,fun _ _=>rfl,fun _ h=>h⟩
 have hlenA:∀i,(H i).length=(H 0).length:=by
  intro i
  induction i with
  | zero=>rfl
  | succ i ih=>rw[(step i).1,ih]
 have hmenA:∀i c,base≤c→c∉q59 (H i):=by
  intro i c hbc
  induction i with
  | zero=>exact hH0 c hbc
  | succ i ih=>exact(step i).2.2 c ih
 have hall:∀i,hLp (wOf D) H (H 0) (fun _=>true) i=H i:=qyt (fun i=>⟨(step i).1,(step i).2.1⟩) rfl
 have toEnd:∀(listed:Array Bool),(∀j,j<m→listed.getD j false=true)→hLp (wOf D) H (H 0) (fun j=>listed.getD j false) m=H m:=by
  intro listed h
  rw[←hall m]
  exact qnu m h
 have fin:∀(listed:Array Bool) (X:Ctx) (a:Act),listed.size=all.size→(∀i,m≤i→i<all.size→listed.getD i false=false)→Region.ready .any all listed=[] →
   Sim E B X { t:=TLp (qU all) V T0 (fun j=>listed.getD j false) all.size,fs:=fs,pend:=pd,h:=hLp (wOf D) H (H 0) (fun j=>listed.getD j false) m } a→Q .normal a X.w:=by
  intro listed X a hsz hm hr hs
  have hal:=qn0 hd hsz hr
  rcases Nat.lt_or_ge m all.size with hlt|hge
  ·have:=hm m (Nat.le_refl _) hlt
   rw[hal m hlt] at this;cases this
  ·rw[toEnd listed fun j hj=>hal j (by omega)] at hs
   rw[stL (L':=fun _=>true) all.size fun j hj=>hal j hj] at hs
   exact hq hge X a hs
 induction fuel with
 | zero=>
  intro listed X a hsz hcl hm hu hs
  have hr:Region.ready .any all listed=[]:=by
   apply List.eq_nil_iff_forall_not_mem.2
   intro j hj
   rw[mem_ready] at hj
   obtain⟨h1,o,h2,_⟩:=hj
   have hj':=(Array.getElem?_eq_some_iff.1 h2).1
   have:=qmf (listed:=listed) (Nat.le_zero.1 hu) j hj'
   have hj2:j<listed.size:=by omega
   simp[Array.getD_eq_getD_getElem?,hj2] at this h1
   rw[this] at h1;cases h1
  exact⟨hr,fin listed X a hsz hm hr hs⟩
 | succ fuel ih=>
  intro listed X a hsz hcl hm hu hs
  refine⟨fun hr=>fin listed X a hsz hm hr hs,fun i hi=>?_⟩
  have hri:=hi
  rw[mem_ready] at hi
  obtain⟨h1,o,ho,hedge⟩:=hi
  have hin:=(Array.getElem?_eq_some_iff.1 ho).1
  have hil:i<listed.size:=by omega
  have hLi:listed.getD i false=false:=by simpa[Array.getD_eq_getD_getElem?,hil] using h1
  have hedge':∀e,e∈o.after.toList→Region.binds .any e=true→listed.getD e.on false=true:=fun e he hb=>hedge e (by simpa using he) hb
  have hcl':=qc2 hsz ho hcl hedge'
  have before:∀k,k≠i→qoA (q31 all.toList) i k=true→listed.getD k false=true:=by
   intro k hki hk
   have:=qgH hd hcl' i k (by show (listed.setIfInBounds i true).getD i false=true;rw[vL hil,if_pos rfl]) hk
   have h':(listed.setIfInBounds i true).getD k false=true:=this
   rwa [vL hil,if_neg hki] at h'
  have behind:∀k,qoA (q31 all.toList) k i=true→listed.getD k false=false:=by
   intro k hk
   cases hl:listed.getD k false with
   | false=>rfl
   | true=>
    have:=qgH hd hcl k i hl hk
    have h':listed.getD i false=true:=this
    rw[hLi] at h';cases h'
  rcases Nat.lt_or_ge i m with him|him
  ·have hv:=hV i o ho him
   have hsame:∀t,t∈qt2 all o→(TLp (qU all) V T0 (fun j=>listed.getD j false) all.size)[t]?=(TLp (qU all) V T0 (fun _=>true) i)[t]?:=fun t ht=>
    qzC hd hcl ho (Nat.le_of_lt hin) hLi hedge' ht
   have hopd:∀x,x∈o.op.operands.toList→E.opd (TLp (qU all) V T0 (fun j=>listed.getD j false) all.size) x=E.opd (TLp (qU all) V T0 (fun _=>true) i) x:=fun x hx=>by
    cases x with
    | tmp t=>
     have:=hsame t (List.mem_append_left _ (List.mem_filterMap.2 ⟨.tmp t,hx,rfl⟩))
     simp only[Env.opd,List.getD_eq_getElem?_getD]
     rw[this]
    | const v=>rfl
    | global g=>rfl
    | func f=>rfl
   have hwant:u5 all o (TLp (qU all) V T0 (fun j=>listed.getD j false) all.size)=u5 all o (TLp (qU all) V T0 (fun _=>true) i):=by
    unfold u5
    cases hg:o.guard with
    | none=>rfl
    | some p=>
     obtain⟨j,want⟩:=p
     simp only
     cases hj:(all[j]?).bind (·.dst) with
     | none=>rfl
     | some d=>
      simp only
      rw[hsame d (by simp[qt2,hg,hj])]
   have hun:unl (listed.setIfInBounds i true) all.size≤fuel:=by
    have:=(qrj hil hLi all.size).2 hin;omega
   have hdi:qU all i=o.dst:=by simp[qU,ho]
   have hnext:∀(X':Ctx) (u:Value),Sim E B X' { t:=TLp (qU all) V T0 (fun j=>listed.getD j false) all.size,fs:=fs,pend:=pd,h:=hLp (wOf D) H (H 0) (fun j=>(listed.setIfInBounds i true).getD j false) m } a→Rep X' (V i) u →
     wpAnyIn (q1u B.ro) n0 P .any all Q fuel (listed.setIfInBounds i true) (a.put o.dst u) X'.w:=by
    intro X' u hs' hu'
    refine ih _ X' _ (by simp[hsz]) hcl' ?_ hun ?_
    ·intro k hk1 hk2
     rw[vL hil,if_neg (by omega)]
     exact hm k hk1 hk2
    ·have hput:=hs'.put hu' o.dst
     have hT:TLp (qU all) V T0 (fun j=>(listed.setIfInBounds i true).getD j false) all.size=qeu (TLp (qU all) V T0 (fun j=>listed.getD j false) all.size) o.dst (V i):=by
      rw[←hdi,←qzQ hin hLi]
      ·exact stL all.size fun j _=>vL hil
      ·intro k hk hki t ht he
       cases hk':all[k]? with
       | none=>simp[qU,hk'] at he
       | some ok=>
        simp only[qU,hk',Option.bind_some] at he
        rw[hdi] at ht
        exact(hd.dst i k o ok ho hk' hki t he).1 ht
     rw[hT]
     exact hput
   have hLset:hLp (wOf D) H (H 0) (fun j=>(listed.setIfInBounds i true).getD j false) m=hLp (wOf D) H (H 0) (fun j=>if j=i then true else listed.getD j false) m:=qnu m fun j _=>vL hil
   unfold wpOpIn
   rw[ho]
   simp only
   cases hv with
   | out w1 w2 w3 w4=>
    rw[q11 hs.t (hwant.trans w1)]
    simp only[Bool.false_eq_true,if_false]
    refine⟨fun _ _=>trivial,hnext X _ ?_ (by rw[w2];exact .skip)⟩
    rw[hLset,qyr him hLi hlenA (fun j _ _ _ b hb=>by unfold wOf at hb;rw[w4] at hb;cases hb)]
    have:wOf D i=[]:=by unfold wOf;rw[w4]
    rw[this,←qcx (k':=hLp (wOf D) H (H 0) (fun j=>listed.getD j false) m) (by rw[hlenA,q9l]) (fun b hb=>by cases hb) (fun _ _=>rfl)]
    exact hs
   | op u w1 w2 w3 w4 w5 w6=>
    rw[q11 hs.t (hwant.trans w1)]
    simp only[if_true]
    obtain⟨R,hR⟩:=Option.isSome_iff_exists.1 w5
    have hwi:wOf D i=(q3K E (E.opd (TLp (qU all) V T0 (fun _=>true) i)) o.op (base+i) u).w:=by unfold wOf;rw[w4]
    have wr:∀j b,b∈R→b∈wOf D j→j<m→j≠i→(j<i→qoA (q31 all.toList) i j=true)∧(i<j→qoA (q31 all.toList) j i=true):=by
     intro j b hb hbj hjm hji
     cases hDj:D j with
     | none=>unfold wOf at hbj;rw[hDj] at hbj;cases hbj
     | some dj=>
      have hbj':b∈dj.w:=by unfold wOf at hbj;rw[hDj] at hbj;exact hbj
      refine⟨fun hlt=>?_,fun hlt=>?_⟩
      ·have:=hX j i dj _ hlt him hDj w4
       unfold qfL at this
       simp only[Bool.and_eq_true,Bool.or_eq_true] at this
       rcases this.2 with h3|h3
       ·exact h3
       ·rw[hR] at h3;exact absurd hb (qpZ h3.2.1 b hbj')
      ·have:=hX i j _ dj hlt hjm w4 hDj
       unfold qfL at this
       simp only[Bool.and_eq_true,Bool.or_eq_true] at this
       rcases this.2 with h3|h3
       ·exact h3
       ·rw[hR] at h3;exact absurd hb (qpZ h3.2.2 b hbj')
    have hat:∀b,b∈R→(hLp (wOf D) H (H 0) (fun j=>listed.getD j false) m)[b]?=(H i)[b]?:=by
     intro b hb
     rw[←hall i,qug (lo:=i) m (by omega) fun j h3 h4 h5 h6=>?_]
     ·refine qrX hlenA i fun j h3 h4=>?_
      exact before j (by omega) ((wr j b hb h4 (by omega) (by omega)).1 h3)
     ·have hji:j≠i:=fun e=>by rw[e,hLi] at h5;cases h5
      have:=behind j ((wr j b hb h6 h4 hji).2 (by omega))
      rw[this] at h5;cases h5
    have hln:(hLp (wOf D) H (H 0) (fun j=>listed.getD j false) m).length=(H i).length:=by rw[q9l];exact(hlenA i).symm
    obtain⟨_,_,hrun⟩:=qjR hmo hR hat hln w2
    have hnew:hLp (wOf D) H (H 0) (fun j=>(listed.setIfInBounds i true).getD j false) m=qfN (wOf D i) (H (i+1)) (hLp (wOf D) H (H 0) (fun j=>listed.getD j false) m):=by
     rw[hLset,qyr him hLi hlenA fun j h3 h4 h5 b hb hbj=>?_]
     have:=behind j ((wr j b (qDC hR b (hwi▸hb)) hbj h4 (by omega)).2 h3)
     rw[this] at h5;cases h5
    rw[←hwi,←hnew,←qqr hopd] at hrun
    have hTs:base+i∉AV.menL (TLp (qU all) V T0 (fun j=>listed.getD j false) all.size):=qrz (hT0 _ (by omega)) _ fun j hj hLj=>by
     have hjm:j<m:=by
      rcases Nat.lt_or_ge j m with h|h
      ·exact h
      ·have:=hm j h hj
       rw[show listed.getD j false=true from hLj] at this;cases this
     have hji:j≠i:=fun e=>by
      have h3:listed.getD j false=true:=hLj
      rw[e,hLi] at h3;cases h3
     cases hV j _ (Array.getElem?_eq_getElem hj) hjm with
     | out _ q2 _ _=>rw[q2];simp[AV.men]
     | op uj _ _ q3 q4 _ _=>
      rw[q3]
      apply qmN
      rw[←qyn (E:=E) (ev:=E.opd (TLp (qU all) V T0 (fun _=>true) j)) (op:=all[j].op) (k:=base+j)]
      rcases Nat.lt_or_ge j i with h3|h3
      ·have:=hX j i _ _ h3 him q4 w4
       unfold qfL at this
       simp only[Bool.and_eq_true,Bool.not_eq_true',List.contains_eq_mem,decide_eq_false_iff_not] at this
       exact this.1
      ·have:=hX i j _ _ (by omega) hjm w4 q4
       unfold qfL at this
       simp only[Bool.and_eq_true,Bool.or_eq_true,Bool.not_eq_true',List.contains_eq_mem,decide_eq_false_iff_not] at this
       rcases this.2 with h4|h4
       ·have:=behind j h4
        rw[show listed.getD j false=true from hLj] at this;cases this
       ·exact h4.1
    have hTn:(hLp (wOf D) H (H 0) (fun j=>listed.getD j false) m).length∉AV.menL (TLp (qU all) V T0 (fun j=>listed.getD j false) all.size):=by
     rw[q9l,hlen]
     refine qrz (hT0 _ (by omega)) _ fun j hj hLj=>?_
     have hjm:j<m:=by
      rcases Nat.lt_or_ge j m with h|h
      ·exact h
      ·have:=hm j h hj
       rw[show listed.getD j false=true from hLj] at this;cases this
     cases hV j _ (Array.getElem?_eq_getElem hj) hjm with
     | out _ q2 _ _=>rw[q2];simp[AV.men]
     | op uj _ _ q3 q4 _ q6=>
      rw[q3]
      apply qmN
      intro hmm
      have:=q6 _ hmm
      rw[hlenA,hlen] at this;omega
    cases hloc:qu1 o.op with
    | true=>
     refine qhi B.ro n0 (qrL hE hs hrun hloc (qve hlenA (hH0 _ (by omega)) (fun j=>hmenA j _ (by omega)) m) hTs (hfs _ (by omega)) ?_ hTn ?_ fun X' v hs' hv'=>hnext X' v hs' (by rw[w3];exact qjj hv')) (fun c hcc=>by rw[hcc] at hloc;cases hloc)
     ·rw[q9l,hlen];exact qve hlenA (hH0 _ (by omega)) (fun j=>hmenA j _ (by omega)) m
     ·rw[q9l,hlen];exact hfs _ (by omega)
    | false=>
     unfold q6m at hrun
     rw[hloc] at hrun
     simp only at hrun
     obtain⟨av,k1,k2⟩:=bind_some hrun
     simp only[Tree.run,Option.some.injEq,Prod.mk.injEq] at k2
     obtain⟨rfl,k2⟩:=k2
     refine qhi B.ro n0 (qjr hE hc hs k1 fun X' v hs' hv'=>hnext X' v (by rw[←k2];exact hs') (by rw[w3];exact qjj hv')) (fun c hcc=>by rw[hcc] at k1;simp[q6C,q9s,Tree.run] at k1)
  ·have hallb:∀j,j<m→listed.getD j false=true:=fun j hj=>before j (by omega) (hsuf i j him hin (by omega))
   rw[toEnd listed hallb] at hs
   exact hlast i fuel listed X a hin him hsz hri hcl hm hallb hs hu
end
theorem qqQ{E:Env}{P:Program}(hm:P.follows .mixedOrders=true)(hE:E.tok P){callH:q5l}{B:Base}(hcH:CallOK E P callH B){callS:List Blk→q2c}(hc:qbS E P callS)(hmo:q2k E callS){id:Nat}{all:Array Oper}{X:Ctx}{st st':St}{a:Act}
  (hs:Sim E B X st a) (h:(qvm E callH callS all st).run=some st') {Q:Exit→Act→World→Prop} {n0:Nat} (hq:∀X' a',Sim E B X' st' a'→Q .normal a' X'.w):(Code.region id all true).wpIn (q1u B.ro) n0 P Q a X.w:=by
 apply wpIn_region_any hm
 have hs1:=hs.drawn (X.w.drawn+1)
 generalize hX1:({ X with w:={ X.w with drawn:=X.w.drawn+1 } }:Ctx)=X1 at hs1
 have hw:({ X.w with drawn:=X.w.drawn+1 }:World)=X1.w:=by rw[←hX1]
 rw[hw]
 obtain⟨T0,fs,hb,pd⟩:=st
 unfold qvm at h
 by_cases hdb:qse all=false
 ·rw[if_pos hdb] at h;cases h
 ·rw[if_neg hdb] at h
  have hd:=qvI (by simpa using hdb:qse all=true)
  have hcl0:qbX all fun j=>(Array.replicate all.size false).getD j false:=by
   intro i o _ hL
   have hL':(Array.replicate all.size false).getD i false=true:=hL
   rw[qcP] at hL';cases hL'
  have hdst:qU all=fun i=>(all.toList[i]?).bind (·.dst):=by funext i;simp[qU]
  have hsl:=qwe all
  simp only at h
  split at h
  case h_2=>cases h
  rename_i hzc
  simp only[List.all_eq_true,List.mem_append] at hzc
  have lt:∀b,(b∈AV.menL T0∨b∈qgr fs)∨b∈q59 hb→b<hb.length:=fun b hb'=>Nat.blt_eq.mp (hzc b hb')
  obtain⟨r,h1,h2⟩:=bind_some h
  obtain⟨V,H0,D0,e0,e1,e2,_,e5⟩:=qpp _ 0 [] _ r h1
  simp only[Nat.zero_add] at e1 e2 e5
  have htlen:(all.toList.take (zZ all)).length=zZ all:=by simp;omega
  obtain⟨H,hH1,hH2⟩:∃H:Nat→List Blk,(∀i,i≤zZ all→H i=H0 i)∧∀i,zZ all≤i→H i=H (zZ all):=
   ⟨fun i=>if i≤zZ all then H0 i else H0 (zZ all),fun i hi=>if_pos hi,fun i hi=>by
    simp only[Nat.le_refl,if_true]
    split
    ·rw[show i=zZ all by omega]
    ·rfl⟩
  obtain⟨D,hD1,hD2⟩:∃D:Nat→Option LDesc,(∀i,i<zZ all→D i=D0 i)∧∀i,zZ all≤i→D i=none:=
   ⟨fun i=>if i<zZ all then D0 i else none,fun i hi=>if_pos hi,fun i hi=>if_neg (by omega)⟩
  have htk:∀i,i<zZ all→(all.toList.take (zZ all))[i]?=all[i]?:=by
   intro i hi
   rw[List.getElem?_take,if_pos hi];simp
  have hTm:∀i,i≤zZ all→TLp (qU all) V T0 (fun _=>true) i=q56 V 0 ((all.toList.take (zZ all)).take i) T0:=by
   intro i hi
   rw[hdst,qwr i (by simp;omega),List.take_take,Nat.min_eq_left hi]
  have hVA:∀i o,all[i]?=some o→i<zZ all→LocOK E callS all hb.length i o (TLp (qU all) V T0 (fun _=>true) i) (V i) (H i) (H (i+1)) (D i):=by
   intro i o ho hi
   rw[hTm i (by omega),hH1 i (by omega),hH1 (i+1) (by omega),hD1 i hi]
   exact e2 i o (by rw[htk i hi];exact ho)
  have hs0:∀(X':Ctx) (a':Act),Sim E B X' { t:=TLp (qU all) V T0 (fun _=>true) (zZ all),fs:=fs,pend:=pd,h:=H (zZ all) } a'→Sim E B X' r a':=by
   intro X' a' hs'
   have:r={ t:=TLp (qU all) V T0 (fun _=>true) (zZ all),fs:=fs,pend:=pd,h:=H (zZ all) }:=by
    rw[hTm _ (Nat.le_refl _),e1,List.take_of_length_le (i:=zZ all) (l:=all.toList.take (zZ all)) (by simp;omega),htlen,hH1 _ (Nat.le_refl _)]
   rw[this];exact hs'
  have hH00:H 0=hb++List.replicate (zZ all) .dead:=by rw[hH1 0 (Nat.zero_le _)];exact e0
  obtain⟨X2,hX2,hs2⟩:=Sim.padN (zZ all) hs1
  rw[←hX2]
  have start:Sim E B X2 { t:=TLp (qU all) V T0 (fun j=>(Array.replicate all.size false).getD j false) all.size,fs:=fs,pend:=pd,h:=hLp (wOf D) H (H 0) (fun j=>(Array.replicate all.size false).getD j false) (zZ all) } a:=by
   have q1:TLp (qU all) V T0 (fun j=>(Array.replicate all.size false).getD j false) all.size=T0:=by
    have:∀n,TLp (qU all) V T0 (fun j=>(Array.replicate all.size false).getD j false) n=T0:=by
     intro n
     induction n with
     | zero=>rfl
     | succ n ih=>simp only[TLp];rw[if_neg (by rw[qcP];simp),ih]
    exact this _
   have q2:∀n,hLp (wOf D) H (H 0) (fun j=>(Array.replicate all.size false).getD j false) n=H 0:=by
    intro n
    induction n with
    | zero=>rfl
    | succ n ih=>simp only[hLp];rw[if_neg (by rw[qcP];simp),ih]
   rw[q1,q2,hH00];exact hs2
  refine qzl (m:=zZ all) (V:=V) (T0:=T0) (H:=H) (D:=D) (fs:=fs) (base:=hb.length) hE hc hmo hd hsl hVA (fun i j d d' hij hj q1 q2=>?_) hH2 hD2 (by rw[hH00];simp) (fun c hc hm'=>?_) (fun c hc hm'=>?_) (fun c hc hm'=>?_) ?_ ?_ (fun i j h1 h2 h3=>qcz all h1 h2 h3) all.size _ X2 a (by simp) hcl0 (fun i _ _=>qcP i) (qy9 _ _) start
  ·rw[hD1 i (by omega)] at q1
   rw[hD1 j hj] at q2
   exact e5 i j d d' hij (by rw[htlen];exact hj) q1 q2
  ·have:=lt c (.inl (.inl hm'));omega
  ·have:=lt c (.inl (.inr hm'));omega
  ·rw[hH00,qqH] at hm'
   rcases List.mem_append.1 hm' with hm'|hm'
   ·have:=lt c (.inr hm');omega
   ·exact qpL (fun z hz=>by rw[List.mem_replicate] at hz;rw[hz.2];rfl) hm'
  ·intro hge X' a' hs'
   have hsz:zZ all=all.size:=by omega
   rw[show TLp (qU all) V T0 (fun _=>true) all.size=TLp (qU all) V T0 (fun _=>true) (zZ all) by rw[hsz]] at hs'
   have h3:=hs0 X' a' hs'
   rw[List.drop_eq_nil_of_le (by simp;omega)] at h2
   simp only[qfk,Tree.run,Option.some.injEq] at h2
   rw[h2] at h3
   exact hq X' a' h3
  ·intro i fuel listed X' a' hin him hsz hri hcl hlm hallm hs' hun
   have hri':=hri
   rw[mem_ready] at hri'
   obtain⟨g1,o,ho,gedge⟩:=hri'
   have hil:i<listed.size:=by omega
   have hLi:listed.getD i false=false:=by simpa[Array.getD_eq_getD_getElem?,hil] using g1
   have hedge':∀e,e∈o.after.toList→Region.binds .any e=true→listed.getD e.on false=true:=fun e he hb=>gedge e (by simpa using he) hb
   have hcl':=qc2 hsz ho hcl hedge'
   have hallb:∀j,j<i→listed.getD j false=true:=by
    intro j hj
    have hb':=qcz all him hin hj
    have:=qgH hd hcl' i j (by show (listed.setIfInBounds i true).getD i false=true;rw[vL hil,if_pos rfl]) hb'
    have h':(listed.setIfInBounds i true).getD j false=true:=this
    rw[vL hil,if_neg (by omega)] at h'
    exact h'
   have him2:i=zZ all:=by
    rcases Nat.eq_or_lt_of_le him with h3|h3
    ·exact h3.symm
    ·have h4:=hallb _ h3
     rw[hlm _ (Nat.le_refl _) (by omega)] at h4;cases h4
   have hcut:∀n,zZ all≤n→n≤all.size→TLp (qU all) V T0 (fun j=>listed.getD j false) n=TLp (qU all) V T0 (fun _=>true) (zZ all):=by
    intro n
    induction n with
    | zero=>
     intro h3 _
     have h0:zZ all=0:=by omega
     rw[h0];rfl
    | succ n ihn=>
     intro h3 h4
     rcases Nat.eq_or_lt_of_le h3 with h5|h5
     ·rw[←h5]
      exact stL (zZ all) fun j hj=>hallb j (by omega)
     ·simp only[TLp]
      rw[if_neg (by rw[hlm n (by omega) (by omega)];simp)]
      exact ihn (by omega) (by omega)
   rw[hcut _ hsl (Nat.le_refl _)] at hs'
   have h3:=hs0 X' a' hs'
   subst him2
   exact(qtB hE hcH hd hq _ (zZ all) rfl (Nat.le_refl _) (fuel+1) listed X' a' _ hsz (fun j hj _=>hallb j hj) (fun j hj=>by
    rcases Nat.lt_or_ge j all.size with h5|h5
    ·exact hlm j hj h5
    ·simp[Array.getD_eq_getD_getElem?,show listed.size≤j by omega]) hun h3 h2).2 _ hri
theorem qsh{E:Env}{P:Program}(hm:P.follows .mixedOrders=true)(hE:E.tok P)(hS:E.specs P){callH:q5l}{B:Base}(hcH:CallOK E P callH B){callS:List Blk→q2c}(hc:qbS E P callS)(hmo:q2k E callS){id:Nat}{all:Array Oper}{X:Ctx}{st st':St}{a:Act}
  (hs:Sim E B X st a) (h:(qzp E callH callS all st).run=some st') {Q:Exit→Act→World→Prop} {n0:Nat} (hq:∀X' a',Sim E B X' st' a'→Q .normal a' X'.w):(Code.region id all true).wpIn (q1u B.ro) n0 P Q a X.w:=by
 unfold qzp at h
 split at h
 ·exact qqQ hm hE hcH hc hmo hs h hq
 ·exact qqJ hm hE hS hcH hc hmo hs h hq
end Go.Eng

namespace Go.Eng
theorem HSim.base{B B':Base}{X:Ctx}(h:HSim B X)(h0:B'.w0=B.w0)(h1:B'.imps=B.imps)(h2:B'.M0=B.M0):HSim B' X:=by
 obtain⟨w0,imps,M0,fs,ro,y,pin⟩:=B
 obtain⟨w0',imps',M0',fs',ro',y',pin'⟩:=B'
 simp only at h0 h1 h2
 subst h0 h1 h2
 exact⟨h.blk,h.inj,h.notM,h.ltM,h.M0,h.newM,h.os,h.tape,h.output,h.size,h.frame,h.imps,h.impc,h.fresh,h.kept⟩
def qjg(o:Obj):Prop:=∀c T fr,o≠.cells c T fr
def qbm(n:Nat)(o:Obj)(l:List (Nat×Obj)):List (Nat×Obj):=l.map fun p=>if p.1=n then (n,o) else p
theorem q1f{p:Nat×Obj}{n:Nat}{o:Obj}{l:List (Nat×Obj)}(h:p∈l)(hne:p.1≠n):p∈qbm n o l:=
 List.mem_map.2 ⟨p,h,if_neg hne⟩
theorem qfQ{n:Nat}{o o':Obj}{l:List (Nat×Obj)}(h:(n,o)∈l):(n,o')∈qbm n o' l:=
 List.mem_map.2 ⟨(n,o),h,if_pos rfl⟩
theorem qhs{p:Nat×Obj}{n:Nat}{o:Obj}{l:List (Nat×Obj)}(h:p∈qbm n o l):p=(n,o)∨(p∈l∧p.1≠n):=by
 obtain⟨q,h1,h2⟩:=List.mem_map.1 h
 by_cases hq:q.1=n
 ·rw[if_pos hq] at h2;exact .inl h2.symm
 ·rw[if_neg hq] at h2;subst h2;exact .inr ⟨h1,hq⟩
structure SameCells (w w':World):Prop where
 cells:∀(n:Nat) c T fr,w.heap[n]?=some (.cells c T fr)→w'.heap[n]?=some (.cells c T fr)
 cell:∀a:Addr,a.block<w.heap.size→w'.cell? a=w.cell? a
theorem SameCells.blk{X X':Ctx}(hw:SameCells X.w X'.w)(hm:Move0 X X' some){b:Nat}{k:Blk}(hσ:X'.σ b=X.σ b)(h:yQ X b k):yQ X' b k:=by
 cases k with
 | cells cs=>
  obtain⟨n,c,T,e1,e2,e3⟩:=h
  exact⟨n,c,T,by rw[hσ];exact e1,hw.cells _ _ _ _ e2,e3.ext0 hm⟩
 | big cs k N l=>
  obtain⟨n,c,T,vs,e1,e2,e3,e4,e5⟩:=h
  exact⟨n,c,T,vs,by rw[hσ];exact e1,hw.cells _ _ _ _ e2,e3.ext0 hm,e4,e5⟩
 | vec e sh l=>
  rcases h with⟨e1,e2⟩|⟨n,c,e1,e2,e3⟩
  ·exact .inl ⟨by rw[hσ];exact e1,e2⟩
  ·exact .inr ⟨n,c,by rw[hσ];exact e1,hw.cells _ _ _ _ e2,e3.mono hm.M hm.w⟩
 | frz e sh l=>
  rcases h with⟨e1,e2⟩|⟨n,c,e1,e2,e3,e4⟩
  ·exact .inl ⟨by rw[hσ];exact e1,e2⟩
  ·exact .inr ⟨n,c,by rw[hσ];exact e1,hw.cells _ _ _ _ e2,e3.mono hm.M hm.w,hm.M n e4⟩
 | dead=>trivial
theorem qsG{B:Base}{X:Ctx}(hs:HSim B X){w':World}{kept':List (Nat×Obj)}(hw:SameCells X.w w')(hsz:X.w.heap.size≤w'.heap.size)(ho:w'.os=X.w.os)(ht:w'.tape=X.w.tape)(hp:w'.output=X.w.output)
  (hf:∀n,n<B.w0.heap.size→w'.heap[n]?=X.w.heap[n]?) (hk:∀p,p∈kept'→w'.heap[p.1]?=some p.2∧qjg p.2∧B.w0.heap.size≤p.1) :
  HSim B { X with w:=w',kept:=kept' }∧Move0 X { X with w:=w',kept:=kept' } some:=by
 have hm:Move0 X { X with w:=w',kept:=kept' } some:=
  ⟨fun _ h=>h,fun a ha=>hw.cell a (hs.ltM _ ha),fun b b' hb h=>by
   cases h;exact⟨hb,rfl,fun _ _ h=>h,fun _ _ _ n _ c T fr h=>⟨c,T,fr,hw.cells n c T fr h,rfl⟩⟩,rfl⟩
 refine⟨⟨fun b k hb=>SameCells.blk hw hm rfl (hs.blk b k hb),hs.inj,hs.notM,fun n hn=>Nat.lt_of_lt_of_le (hs.ltM n hn) hsz,hs.M0,hs.newM,ho.trans hs.os,ht.trans hs.tape,hp.trans hs.output,
  Nat.le_trans hs.size hsz,fun n hn hi=>(hf n hn).trans (hs.frame n hn hi),hs.imps,hs.impc,hs.fresh,hk⟩,hm⟩
theorem qqY{w:World}{n:Nat}{o o':Obj}(h:w.heap[n]?=some o)(ho:qjg o)(ho':qjg o'):SameCells w (w.putObj n o'):=by
 have hn:=(Array.getElem?_eq_some_iff.1 h).1
 refine⟨fun m c T fr hm=>?_,fun a _=>?_⟩
 ·by_cases e:m=n
  ·subst e;rw[h] at hm;exact absurd (Option.some.inj hm) (ho _ _ _)
  ·rw[World.putObj_heap_other e];exact hm
 ·by_cases e:a.block=n
  ·unfold World.cell?
   rw[e,h,World.putObj_heap_same hn]
   cases o'<;>cases o<;>first|rfl|exact absurd rfl (ho _ _ _)|exact absurd rfl (ho' _ _ _)
  ·exact World.cell?_of_block (World.putObj_heap_other e)
theorem qb2{B:Base}{X:Ctx}(hs:HSim B X){n:Nat}{o o':Obj}(hk:(n,o)∈X.kept)(ho':qjg o') :
  HSim B { X with w:=X.w.putObj n o',kept:=qbm n o' X.kept }∧Move0 X { X with w:=X.w.putObj n o',kept:=qbm n o' X.kept } some:=by
 obtain⟨h1,h2,h3⟩:=hs.kept _ hk
 simp only at h1 h2 h3
 have hn:=(Array.getElem?_eq_some_iff.1 h1).1
 refine qsG hs (qqY h1 h2 ho') (by simp) rfl rfl rfl (fun m hm=>World.putObj_heap_other (by omega)) fun p hp=>?_
 rcases qhs hp with rfl|⟨hp,hne⟩
 ·exact⟨World.putObj_heap_same hn,ho',h3⟩
 ·obtain⟨g1,g2,g3⟩:=hs.kept p hp
  exact⟨by rw[World.putObj_heap_other hne];exact g1,g2,g3⟩
theorem qj6{B:Base}{X:Ctx}(hs:HSim B X){o:Obj}(ho:qjg o) :
  HSim B { X with w:=X.w.alloc o,kept:=(X.w.heap.size,o)::X.kept }∧Move0 X { X with w:=X.w.alloc o,kept:=(X.w.heap.size,o)::X.kept } some:=by
 refine qsG hs ⟨fun m c T fr hm=>?_,fun a ha=>World.cell?_of_block (wx _ _ ha)⟩ (by simp) rfl rfl rfl (fun m hm=>wx _ _ (Nat.lt_of_lt_of_le hm hs.size)) fun p hp=>?_
 ·rw[wx _ _ (Array.getElem?_eq_some_iff.1 hm).1];exact hm
 ·rcases List.mem_cons.1 hp with rfl|hp
  ·exact⟨ww _ _,ho,hs.size⟩
  ·obtain⟨g1,g2,g3⟩:=hs.kept p hp
   exact⟨by rw[wx _ _ (Array.getElem?_eq_some_iff.1 g1).1];exact g1,g2,g3⟩
theorem quM{B:Base}{X:Ctx}(hs:HSim B X){p:Nat×Obj}(h:p∈X.kept):p.1<X.w.heap.size:=(Array.getElem?_eq_some_iff.1 (hs.kept p h).1).1
mutual
theorem Rep.setY'{X:Ctx}(l:Nat):∀{av:AV} {v:Value},Rep X av v→av.noY=true→Rep { X with y:=l } av v
 | _,_,.undef v,_=>.undef v
 | _,_,.skip,_=>.skip
 | _,_,.yld,h=>by cases h
 | _,_,.blit b,_=>.blit b
 | _,_,.bool b,_=>.bool b
 | _,_,.ilit k n,_=>.ilit k n
 | _,_,.int k n,_=>.int k n
 | _,_,.str s,_=>.str s
 | _,_,.nilp,_=>.nilp
 | _,_,.ptr b off n hb hσ,_=>.ptr b off n hb hσ
 | _,_,.eptr sh l i off a hsp h0 h1 hr,_=>.eptr sh l i off a hsp h0 h1 hr
 | _,_,.mnil sh l i off,_=>.mnil sh l i off
 | _,_,.mptr sh l i off a hsp h0 h1 hr,_=>.mptr sh l i off a hsp h0 h1 hr
 | _,_,.vptr b i off n k hb hσ h,_=>.vptr b i off n k hb hσ h
 | _,_,.vsub b i n k m c hb hσ h,_=>.vsub b i n k m c hb hσ h
 | _,_,.aptr b o i n hb hσ h0,_=>.aptr b o i n hb hσ h0
 | _,_,.asub b o N i m n k c hb hσ h0 h1 h2 h3,_=>.asub b o N i m n k c hb hσ h0 h1 h2 h3
 | _,_,.nils,_=>.nils
 | _,_,.imm sh l v h,_=>.imm sh l v h
 | _,_,.full sh l p n h,_=>.full sh l p n h
 | _,_,.vec b p nn cc hb h,_=>.vec b p nn cc hb h
 | _,_,.nilf,_=>.nilf
 | _,_,.fn g first caps vf vc h1 h2,h=>by
  simp only[AV.noY,Bool.and_eq_true] at h
  exact .fn g _ _ vf vc (RepL.setY' l h1 h.1) (RepL.setY' l h2 h.2)
 | _,_,.agg cs vs h1,h=>.agg _ vs (RepL.setY' l h1 (by simpa only [AV.noY] using h))
 | _,_,.tuple cs vs h1,h=>.tuple _ vs (RepL.setY' l h1 (by simpa only [AV.noY] using h))
 | _,_,.bagg cs k n r vs h1 hl,h=>.bagg _ k n r vs (RepL.setY' l h1 (by simpa only [AV.noY] using h)) hl
theorem RepL.setY'{X:Ctx}(l:Nat):∀{av:List AV} {v:List Value},RepL X av v→AV.noYL av=true→RepL { X with y:=l } av v
 | _,_,.nil,_=>.nil
 | _,_,.cons h1 t,h=>by
  simp only[AV.noYL,Bool.and_eq_true] at h
  exact .cons (Rep.setY' l h1 h.1) (RepL.setY' l t h.2)
end
theorem Rep.setY{X:Ctx}(l:Nat){av:AV}{v:Value}(h:av.noY=true)(hr:Rep X av v):Rep { X with y:=l } av v:=hr.setY' l h
theorem RepL.setY{X:Ctx}(l:Nat){av:List AV}{v:List Value}(h:AV.noYL av=true)(hr:RepL X av v):RepL { X with y:=l } av v:=hr.setY' l h
theorem HSim.setY{B:Base}{X:Ctx}(h:HSim B X)(l:Nat)(hy:X.h.all Blk.noY=true):HSim B { X with y:=l }:=by
 refine⟨fun b k hb=>?_,h.inj,h.notM,h.ltM,h.M0,h.newM,h.os,h.tape,h.output,h.size,h.frame,h.imps,h.impc,h.fresh,h.kept⟩
 have h1:=h.blk b k hb
 cases k with
 | cells cs=>
  obtain⟨n,c,T,e1,e2,e3⟩:=h1
  have:(Blk.cells cs).noY=true:=List.all_eq_true.1 hy _ (List.mem_of_getElem? hb)
  exact⟨n,c,T,e1,e2,e3.setY l this⟩
 | big cs k N r=>
  obtain⟨n,c,T,vs,e1,e2,e3,e4,e5⟩:=h1
  have:(Blk.big cs k N r).noY=true:=List.all_eq_true.1 hy _ (List.mem_of_getElem? hb)
  exact⟨n,c,T,vs,e1,e2,e3.setY l this,e4,e5⟩
 | vec e sh l=>exact h1
 | frz e sh l=>exact h1
 | dead=>trivial
theorem qsF{gl:List (Nat×AV)}{X:Ctx}(h:qaI gl X)(l:Nat):qaI gl { X with y:=l }:=by
 intro x hx
 obtain⟨⟨sh,r,i,off,he⟩,hr⟩:=h x hx
 refine⟨⟨sh,r,i,off,he⟩,hr.move (fun _ h=>h) (fun _ _=>rfl) (Rep.setY l (by rw[he];rfl) hr.1)⟩
theorem qfi{gl:List (Nat×AV)}{X X':Ctx}(hm:Move0 X X' some)(h:qaI gl X):qaI gl X':=fun x hx=>⟨(h x hx).1,(h x hx).2.move hm.M hm.w ((h x hx).2.1.ext0 hm)⟩
theorem Sim.moveB{E:Env}{B B':Base}{X X':Ctx}{st:St}{a:Act}(hs:Sim E B X st a)(h1:HSim B' X')(h2:Move0 X X' some)(h3:X'.h=X.h)(hfs:B'.fs=B.fs)(hy:B'.y=B.y)(hi:B'.imps=B.imps)
  {ds:List Deferred} (h4:qvc X'.kept (B'.pin st.pend) ds) (h5:∀p,p∈B'.pin st.pend→p∈X'.kept):Sim E B' X' st { a with defers:=ds }:=
 ⟨h1,h3.trans hs.h,hs.t.ext0 h2,hfs▸hs.fs.ext0 h2,qfi h2 hs.glob,h4,hi▸hs.ni,(h2.y.trans hs.y).trans hy.symm,h5⟩
def Ex.out:Ex→Exit
 | .normal=>.normal
 | .exit i=>.exit i
 | .ret=>.ret
def qv6(E:Env)(B:Base)(r:Ex×St):Exit→Act→World→Prop:=fun e a w=>e=r.1.out∧∃X',X'.w=w∧Sim E B X' r.2 a
def Ex.code:Ex→Code
 | .normal=>.skip
 | .exit i=>.exit i
 | .ret=>.ret
def q6d(fid:FuncId)(ct:Array Value)(ps:Array Tmp)(a b:Code)(D:Nat)(e:Option Ex):Loop:=
 { state:=if e.isNone then .ready else .done,pending:=e.map Ex.code,fn:=fid,tmps:=ct,params:=ps,assign:=a,body:=b,defers:=D }
def zn:Code→List Code
 | .seq a b=>.seq a b::(zn a++zn b)
 | .cond _ a b=>zn a++zn b
 | .block _ c=>zn c
 | .scope c=>zn c
 | .loop c=>.loop c::zn c
 | .rangeFunc x ps a b=>.rangeFunc x ps a b::(zn a++zn b)
 | _=>[]
def qu7(P:Program)(yc:FuncId×Nat)(B:Base):Prop:=
 ∃(fn:Func) (c:Code) (x:Operand) (ps:Array Tmp) (a b:Code),P.funcs[yc.1]?=some fn∧fn.body=some c∧(zn c)[yc.2]?=some (.rangeFunc x ps a b) ∧
  ∃(ct:Array Value) (rest:List (List Value)) (D fid:Nat) (more:List (Nat×Obj)),B.fs=ct.toList::rest∧(∀e,B.pin e=(B.y,.loop (q6d fid ct ps a b D e))::more)∧(∀p,p∈more→p.1≠B.y)∧B.ro=none
def qC(P:Program)(it:List (FuncId×FuncId×Nat))(f:FuncId)(B:Base):Prop:=
 (B.ro.isSome=true→2≤B.fs.length)∧match qg5 it f with
  | none=>True
  | some yc=>qu7 P yc B
structure SimF (E:Env) (B:Base) (X:Ctx) (st:St):Prop where
 hs:HSim B X
 h:X.h=st.h
 fs:RepLL X (st.t::st.fs) B.fs
 glob:qaI E.glob X
 ni:B.imps.length≤E.nimp
 y:X.y=B.y
 pin:∀p,p∈B.pin st.pend→p∈X.kept
def YOK(E:Env)(P:Program)(y:qwS)(B:Base):Prop:=
 ∀(args:List AV) (st:St) (r:AV×St) (X:Ctx) (a:Act) (vargs:List Value),Sim E B X st a→RepL X args vargs→(y args st).run=some r →
  ∃(l:Nat) (f:FuncId) (tmps:Array Value) (assign body:Code),(Instr.yield X.y vargs.toArray).run P X.w=.ok (.round l f tmps assign body) X.w ∧
  ∀n,RoundIn (q1u B.ro) n P l f tmps assign body X.w fun e w'=>∃v X',e=.returned v∧X'.w=w'∧Rep X' r.1 v∧Sim E B X' r.2 a
def qht(E:Env)(P:Program)(rangeH:qcG):Prop:=
 ∀(g:FuncId) (y:qwS) (args:List AV) (st:St) (r:AV×St) (B:Base) (X:Ctx) (vargs:List Value),SimF E B X st→qC P E.iter g B→(∀B',qC P E.iter g B'→YOK E P y B')→B.ro=none →
  RepL X args vargs→(rangeH g y args st).run=some r →
  (∀w,(callFunc g vargs.toArray).run P w=.ok (.enter g vargs.toArray) w) ∧
  Calls P g vargs.toArray X.w fun e w'=>∃v X',e=.returned v∧X'.w=w'∧Rep X' r.1 v∧SimF E B X' r.2
theorem qpA{X:Ctx}:∀(ps:List Tmp) {ct:List AV} {tmps:Array Value} {args:List AV} {vargs:List Value},RepL X ct tmps.toList→RepL X args vargs →
  RepL X (qna ct ps args) ((ps.zip vargs).foldl (fun (tmps:Array Value) (p:Tmp×Value)=>tmps.setIfInBounds p.1 p.2) tmps).toList
 | [],_,_,args,_,h,_=>by cases args<;>simpa[qna] using h
 | p::ps,ct,tmps,_,_,h,.nil=>by simpa[qna] using h
 | p::ps,ct,tmps,_,_,h,.cons h1 h2=>by
  simp only[qna,List.zip_cons_cons,List.foldl_cons]
  exact qpA ps (by rw[Array.toList_setIfInBounds];exact RepL.set h1 h p) h2
theorem qwk{E:Env}{P:Program}{f:FuncId}{k:Nat}{fn:Func}{cb:Code}(hf:P.funcs[f]?=some fn)(hb:fn.body=some cb){x:Operand}{ps:Array Tmp}{a b:Code}(hk:(zn cb)[k]?=some (.rangeFunc x ps a b))
  {evA evB:St→Tree (Ex×St)} (hni:q77 E.iter f=true)
  (hA:∀(B:Base) (X:Ctx) (st:St) (act:Act) (r:Ex×St),qC P E.iter f B→Sim E B X st act→(evA st).run=some r→∀n,a.wpIn (q1u B.ro) n P (qv6 E B r) act X.w)
  (hB:∀(B:Base) (X:Ctx) (st:St) (act:Act) (r:Ex×St),qC P E.iter f B→Sim E B X st act→(evB st).run=some r→∀n,b.wpIn (q1u B.ro) n P (qv6 E B r) act X.w)
  {B:Base} (hI:qu7 P (f,k) B):YOK E P (qs8 evA evB ps.toList) B:=by
 intro args st r X act vargs hs hargs hr
 obtain⟨fn',c',x',ps',a',b',q1,q2,q3,ct,rest,D,fid,more,q4,q5,q6,q7⟩:=hI
 simp only at q1 q3
 rw[hf] at q1;cases q1
 rw[hb] at q2;cases q2
 rw[hk] at q3;cases q3
 unfold qs8 at hr
 cases hp:st.pend with
 | some e=>rw[hp] at hr;cases hr
 | none=>
 rw[hp] at hr
 cases hfs:st.fs with
 | nil=>rw[hfs] at hr;cases hr
 | cons ctA fsA=>
 rw[hfs] at hr
 simp only at hr
 cases hlen:Nat.beq args.length ps.toList.length with
 | false=>rw[hlen] at hr;cases hr
 | true=>
 rw[hlen] at hr
 simp only at hr
 have hlen':=Nat.eq_of_beq_eq_true hlen
 obtain⟨rA,h1,h2⟩:=bind_some hr
 obtain⟨xA,sA⟩:=rA
 cases xA with
 | exit i=>cases h2
 | ret=>cases h2
 | normal=>
 simp only at h2
 obtain⟨rB,h3,h4⟩:=bind_some h2
 have hpin:=hs.pin
 have hdf:=hs.df
 rw[hp,q5] at hpin hdf
 have hrec:(B.y,.loop (q6d fid ct ps a b D none))∈X.kept:=hpin _ List.mem_cons_self
 have hheap:=(hs.hs.kept _ hrec).1
 simp only at hheap
 have hfsR:=hs.fs
 rw[hfs,q4] at hfsR
 have hct:RepL X ctA ct.toList:=by cases hfsR with|cons g1 g2=>exact g1
 refine⟨B.y,fid,((ps.zip vargs.toArray).foldl (fun (tmps:Array Value) (p:Tmp×Value)=>tmps.setIfInBounds p.1 p.2) ct),a,b,?_,fun n=>?_⟩
 ·rw[hs.y]
  exact run_yield (r:=q6d fid ct ps a b D none) hheap (by simp only[q6d,List.size_toArray];rw[←hargs.length,hlen',Array.length_toList])
 rw[q7]
 apply roundIn_of_wpIn (F:=q1u none) trivial
 let BR:Base:={ B with ro:=some B.y,fs:=act.tmps.toList::B.fs,pin:=fun _=>X.kept }
 have hbR:∀pin,qC P E.iter f { BR with pin:=pin }:=by
  intro pin
  refine⟨fun _=>?_,?_⟩
  ·show 2≤(act.tmps.toList::B.fs).length
   rw[q4];simp
  ·unfold q77 at hni
   split at hni
   ·cases hni
   ·rename_i hn;rw[hn];trivial
 have hsR:Sim E BR X { t:=qna ctA ps.toList args,fs:=st.t::ctA::fsA,h:=st.h,pend:=none } { tmps:=((ps.zip vargs.toArray).foldl (fun (tmps:Array Value) (p:Tmp×Value)=>tmps.setIfInBounds p.1 p.2) ct),defers:=[] }:=by
  refine⟨hs.hs.base rfl rfl rfl,hs.h,?_,?_,hs.glob,qvc.nil,hs.ni,hs.y,fun p hp=>hp⟩
  ·have:=qpA ps.toList hct hargs
   rw[←Array.foldl_toList,Array.toList_zip]
   exact this
  ·show RepLL X _ (act.tmps.toList::B.fs)
   rw[←hfs]
   exact .cons hs.t hs.fs
 refine wpIn_mono (hA BR X _ _ _ (hbR _) hsR h1 n) fun e a1 w1 ⟨he,X1,hw1,hs1⟩=>?_
 subst he hw1
 have hrec1:(B.y,.loop (q6d fid ct ps a b D none))∈X1.kept:=hs1.pin _ hrec
 obtain⟨g1,g2⟩:=qb2 hs1.hs (o':=.loop { q6d fid ct ps a b D none with state:=.busy }) hrec1 (fun _ _ _ h=>by cases h)
 refine⟨_,run_beginRound (r:=q6d fid ct ps a b D none) (hs1.hs.kept _ hrec1).1 rfl,?_⟩
 let pinB:List (Nat×Obj):=qbm B.y (.loop { q6d fid ct ps a b D none with state:=.busy }) X.kept
 obtain⟨Ds1,d1,d2,d3⟩:=hs1.df
 have hsB:Sim E { BR with pin:=fun _=>pinB } { X1 with w:=X1.w.putObj B.y (.loop { q6d fid ct ps a b D none with state:=.busy }),kept:=qbm B.y (.loop { q6d fid ct ps a b D none with state:=.busy }) X1.kept } sA a1:=by
  refine hs1.moveB (B':={ BR with pin:=fun _=>pinB }) (ds:=a1.defers) (g1.base rfl rfl rfl) g2 rfl rfl rfl rfl ⟨Ds1,d1,d2,fun D' hD'=>⟨q1f (d3 D' hD').1 (fun e=>(d3 D' hD').2 _ hrec e.symm),fun p hp=>?_⟩⟩ fun p hp=>?_
  ·rcases qhs hp with hp|⟨hp,_⟩
   ·rw[hp];exact fun e=>(d3 D' hD').2 _ hrec e
   ·exact(d3 D' hD').2 _ hp
  ·rcases qhs hp with rfl|⟨hp,hne⟩
   ·exact qfQ hrec1
   ·exact q1f (hs1.pin _ hp) hne
 refine wpIn_mono (hB _ _ _ _ _ (hbR _) hsB h3 n) fun e2 a2 w2 ⟨he2,X2,hw2,hs2⟩=>?_
 subst he2 hw2
 obtain⟨xB,sB⟩:=rB
 have hrec2:(B.y,.loop { q6d fid ct ps a b D none with state:=.busy })∈X2.kept:=hs2.pin _ (qfQ hrec)
 have hlie2:=(hs2.hs.kept _ hrec2).1
 simp only at hlie2
 simp only at h4
 cases hfs2:sB.fs with
 | nil=>rw[hfs2] at h4;cases h4
 | cons itA fs'=>
 rw[hfs2] at h4
 simp only at h4
 have fin:∀(e:Option Ex) (_:r=(.blit e.isNone,{ t:=itA,fs:=fs',h:=sB.h,pend:=e })) (_:e=none∨∃x,e=some x),
   ∃v w',(Instr.endRound B.y (e.map Ex.code)).run P X2.w=.ok v w'∧∃v' X',Ending.returned v=.returned v'∧X'.w=w'∧Rep X' r.1 v'∧Sim E B X' r.2 act:=by
  intro e hre _
  have hend:=run_endRound (P:=P) (r:={ q6d fid ct ps a b D none with state:=.busy }) (e.map Ex.code) hlie2
  have hobj:({ ({ q6d fid ct ps a b D none with state:=.busy }:Loop) with state:=if (e.map Ex.code).isNone then .ready else .done,pending:=e.map Ex.code }:Loop)=q6d fid ct ps a b D e:=by
   cases e<;>rfl
  rw[hobj] at hend
  obtain⟨k1,k2⟩:=qb2 hs2.hs (o':=.loop (q6d fid ct ps a b D e)) hrec2 (fun _ _ _ h=>by cases h)
  refine⟨_,_,hend,_,{ X2 with w:=X2.w.putObj B.y (.loop (q6d fid ct ps a b D e)),kept:=qbm B.y (.loop (q6d fid ct ps a b D e)) X2.kept },rfl,rfl,?_,?_⟩
  ·rw[hre]
   have:(e.map Ex.code).isNone=e.isNone:=by cases e<;>rfl
   rw[this];exact .blit _
  ·have hfs3:=hs2.fs
   rw[hfs2] at hfs3
   have hfs4:=hfs3.ext0 k2
   have hold:∀p,p∈X.kept→p.1≠B.y→p∈qbm B.y (.loop (q6d fid ct ps a b D e)) X2.kept:=fun p hp hne=>
    q1f (hs2.pin p (q1f hp hne)) hne
   rw[hre]
   refine⟨k1.base rfl rfl rfl,hs2.h,?_,?_,qfi k2 hs2.glob,?_,hs.ni,hs2.y,?_⟩
   ·cases hfs4 with|cons z1 z2=>exact z1
   ·cases hfs4 with|cons z1 z2=>exact z2
   ·obtain⟨Ds,m1,m2,m3⟩:=hdf
    refine⟨Ds,m1,m2,fun D' hD'=>⟨hold _ (m3 D' hD').1 (fun e'=>(m3 D' hD').2 _ List.mem_cons_self e'.symm),fun p hp=>?_⟩⟩
    rw[q5] at hp
    rcases List.mem_cons.1 hp with rfl|hp
    ·exact(m3 D' hD').2 (B.y,.loop (q6d fid ct ps a b D none)) List.mem_cons_self
    ·exact(m3 D' hD').2 p (List.mem_cons_of_mem _ hp)
   ·intro p hp
    rw[q5] at hp
    rcases List.mem_cons.1 hp with rfl|hp
    ·exact qfQ hrec2
    ·exact hold p (hpin p (List.mem_cons_of_mem _ hp)) (q6 p hp)
 cases xB with
 | normal=>
  simp only[Tree.run,Option.some.injEq] at h4
  exact fin none h4.symm (.inl rfl)
 | ret=>
  simp only[Tree.run,Option.some.injEq] at h4
  exact fin (some .ret) h4.symm (.inr ⟨_,rfl⟩)
 | exit i=>
  simp only[Tree.run,Option.some.injEq] at h4
  exact fin (some (.exit i)) h4.symm (.inr ⟨_,rfl⟩)
theorem qsA{E:Env}{P:Program}{B:Base}{fn:Func}{st:St}{R:Ending→World→Prop}{n:Nat}:∀(Ds:List Nat) {X:Ctx} {a:Act},Sim E B X st a→a.defers=Ds.map qh1 →
  (∀X',Sim E B X' st { a with defers:=[] }→∃v,(results fn a.tmps).run P X'.w=.ok v X'.w∧R (.returned v) X'.w)→LeavesInM (q1u none) n P fn a.tmps R (Ds.map qh1) .returning X.w
 | [],X,a,hs,hd,h=>by
  have:({ a with defers:=[] }:Act)=a:=by obtain⟨t,d⟩:=a;simp only[List.map_nil] at hd;rw[hd]
  rw[this] at h
  exact h X hs
 | D::Ds,X,a,hs,hd,h=>by
  obtain⟨Ds',d1,d2,d3⟩:=hs.df
  have hDs:Ds'=D::Ds:=by
   rw[hd] at d1
   have inj:∀(l m:List Nat),l.map qh1=m.map qh1→m=l:=by
    intro l
    induction l with
    | nil=>intro m hm;cases m with
     | nil=>rfl
     | cons _ _=>cases hm
    | cons x l ih=>intro m hm;cases m with
     | nil=>cases hm
     | cons y m=>
      simp only[List.map_cons,List.cons.injEq,qh1,Deferred.mk.injEq,Target.collected.injEq,and_true] at hm
      rw[ih m hm.2,hm.1]
   exact inj _ _ d1
  subst hDs
  obtain⟨m1,m2⟩:=d3 D List.mem_cons_self
  have hlie:=(hs.hs.kept _ m1).1
  simp only at hlie
  obtain⟨g1,g2⟩:=qb2 hs.hs (o':=.deferred none) m1 (fun _ _ _ h=>by cases h)
  have hnd:=List.nodup_cons.1 d2
  have hs':=hs.moveB (B':=B) (ds:=Ds.map qh1) g1 g2 rfl rfl rfl rfl ⟨Ds,rfl,hnd.2,fun D' hD'=>⟨q1f (d3 D' (List.mem_cons_of_mem _ hD')).1 (fun e=>hnd.1 (e▸hD')),(d3 D' (List.mem_cons_of_mem _ hD')).2⟩⟩
   (fun p hp=>q1f (hs.pin p hp) (m2 p hp))
  refine⟨by simp,.inl ⟨D,_,rfl,run_takeDeferred hlie,?_⟩⟩
  exact qsA Ds (a:={ a with defers:=Ds.map qh1 }) hs' rfl h
end Go.Eng

namespace Go.Eng
theorem Sim.env{E E':Env}(he:E.glob=E'.glob)(hn:E.nimp=E'.nimp){B:Base}{X:Ctx}{st:St}{a:Act}(hs:Sim E B X st a):Sim E' B X st a:=
 ⟨hs.hs,hs.h,hs.t,hs.fs,he▸hs.glob,hs.df,hn▸hs.ni,hs.y,hs.pin⟩
theorem ka:∀c:Code,(zn c).length=wd c:=by
 intro c
 induction c<;>simp_all [zn,wd]
 all_goals omega
theorem qfG{f k:Nat}{L:St→Tree (Ex×St)}:∀{l:List ((Nat×Nat)×(St→Tree (Ex×St)))},q8m l f k=some L→((f,k),L)∈l
 | [],h=>by cases h
 | x::l,h=>by
  simp only[q8m] at h
  split at h
  ·rename_i hb
   cases h
   simp only[Bool.and_eq_true] at hb
   have h1:=Nat.eq_of_beq_eq_true hb.1
   have h2:=Nat.eq_of_beq_eq_true hb.2
   have:x=((f,k),x.2):=by obtain⟨⟨a,b⟩,c⟩:=x;simp only at h1 h2;rw[h1,h2]
   exact this▸List.mem_cons_self
  ·exact List.mem_cons_of_mem _ (qfG h)
def qo(P:Program)(gl:List (Nat×AV))(ni:Nat)(BO:Base→Prop)(c:Code)(L:St→Tree (Ex×St)):Prop:=
 ∀(E:Env) (B:Base) (X:Ctx) (st:St) (a:Act) (r:Ex×St),E.glob=gl→E.nimp=ni→BO B→Sim E B X st a→(L st).run=some r→∀(n0:Nat),c.wpIn (q1u B.ro) n0 P (qv6 E B r) a X.w
def Env.loopsOK(E:Env)(P:Program):Prop:=
 ∀x,x∈E.loops→∃fn c c',P.funcs[x.1.1]?=some fn∧fn.body=some c∧(zn c)[x.1.2]?=some c'∧qo P E.glob E.nimp (qC P E.iter x.1.1) c' x.2
theorem qAH{E:Env}{P:Program}{rangeH:qcG}(hrg:qht E P rangeH){f:FuncId}{fn:Func}(hf:P.funcs[f]?=some fn){cb:Code}(hb:fn.body=some cb){k:Nat}{x:Operand}{ps:Array Tmp}{a b:Code}
    (hk:(zn cb)[k]?=some (.rangeFunc x ps a b)) {evA evB:St→Tree (Ex×St)}
    (hA:∀(B:Base) (X:Ctx) (st:St) (act:Act) (r:Ex×St),qC P E.iter f B→Sim E B X st act→(evA st).run=some r→∀n,a.wpIn (q1u B.ro) n P (qv6 E B r) act X.w)
    (hB:∀(B:Base) (X:Ctx) (st:St) (act:Act) (r:Ex×St),qC P E.iter f B→Sim E B X st act→(evB st).run=some r→∀n,b.wpIn (q1u B.ro) n P (qv6 E B r) act X.w)
    {B:Base} {X:Ctx} {st:St} {act:Act} {r:Ex×St} {n0:Nat} (hbo:qC P E.iter f B) (hs:Sim E B X st act) {g:FuncId} {first caps:List AV} (hx:E.opd st.t x=.fn g first caps)
    (hc:(qpo E.iter g f k&&q77 E.iter f&&quW st)=true) (h:((rangeH g (qs8 evA evB ps.toList) (first++[.yld]++caps) st).bind qyS).run=some r) :
    (Code.rangeFunc x ps a b).wpIn (q1u B.ro) n0 P (qv6 E B r) act X.w:=by
  simp only[Bool.and_eq_true] at hc
  obtain⟨⟨hit,hni⟩,htop⟩:=hc
  have htop':st.fs=[[]]∧st.pend=none∧AV.noYL st.t=true∧st.h.all Blk.noY=true:=by
    unfold quW at htop
    split at htop
    · rename_i h1 h2
      simp only[Bool.and_eq_true] at htop
      exact⟨h1,h2,htop.1,htop.2⟩
    · cases htop
  obtain⟨t1,t2,t3,t4⟩:=htop'
  have hBfs:B.fs=[[]]:=by
    have:=hs.fs
    rw[t1] at this
    generalize B.fs=l at this
    cases this with
    | cons g1 g2=>cases g1;cases g2;rfl
  have hro:B.ro=none:=by
    cases hr:B.ro with
    | none=>rfl
    | some l =>
      have:=hbo.1 (by rw[hr];rfl)
      rw[hBfs] at this
      simp at this
  have hfi:qg5 E.iter g=some (f,k):=by
    unfold qpo at hit
    split at hit
    · rename_i y hy
      simp only[Bool.and_eq_true] at hit
      rw[hy]
      obtain⟨y1,y2⟩:=y
      have e1:y1=f:=Nat.eq_of_beq_eq_true hit.1
      have e2:y2=k:=Nat.eq_of_beq_eq_true hit.2
      rw[e1,e2]
    · cases hit
  obtain⟨q,h1,h2⟩:=bind_some h
  have hvx:=q7A hs x
  rw[hx] at hvx
  generalize hev:act.eval x=vx at hvx
  cases hvx with
  | fn _ _ _ vf vc g1 g2 =>
  rw[hro]
  apply wpIn_rangeFunc
  intro fid _
  let D:=X.w.heap.size
  let l:=X.w.heap.size+1
  let rec0:Obj:=.loop (q6d fid act.tmps ps a b D none)
  obtain⟨k1,k2⟩:=qj6 hs.hs (o:=.deferred (some [])) (fun _ _ _ h=>by cases h)
  obtain⟨k3,k4⟩:=qj6 k1 (o:=rec0) (fun _ _ _ h=>Obj.noConfusion h)
  let X1:Ctx:={ X with w:=(X.w.alloc (.deferred (some []))).alloc rec0,kept:=(l,rec0)::(D,.deferred (some []))::X.kept }
  have hsz:(X.w.alloc (.deferred (some []))).heap.size=l:=by simp[l]
  have hX1:({ ({ X with w:=X.w.alloc (.deferred (some [])),kept:=(X.w.heap.size,.deferred (some []))::X.kept }:Ctx) with w:=(X.w.alloc (.deferred (some []))).alloc rec0,kept:=((X.w.alloc (.deferred (some []))).heap.size,rec0)::(X.w.heap.size,.deferred (some []))::X.kept }:Ctx)=X1:=by
    rw[hsz]
  have k3':HSim B X1:=hX1▸k3
  have k4':Move0 { X with w:=X.w.alloc (.deferred (some [])),kept:=(X.w.heap.size,.deferred (some []))::X.kept } X1 some:=hX1▸k4
  have hall:X1.h.all Blk.noY=true:=by show X.h.all Blk.noY=true;rw[hs.h];exact t4
  let X2:Ctx:={ X1 with y:=l }
  have hs2:HSim B X2:=k3'.setY l hall
  let B1:Base:={ B with fs:=act.tmps.toList::B.fs,ro:=none,y:=l,pin:=fun e=>(l,.loop (q6d fid act.tmps ps a b D e))::(D,.deferred (some []))::X.kept }
  have hlt:∀p,p∈(D,(.deferred (some []):Obj))::X.kept→p.1≠l:=by
    intro p hp
    rcases List.mem_cons.1 hp with rfl|hp
    · show D≠l;simp[D,l]
    · have:=quM hs.hs hp;simp only[l];omega
  have hI:qu7 P (f,k) B1:=⟨fn,cb,x,ps,a,b,hf,hb,hk,act.tmps,B.fs,D,fid,(D,.deferred (some []))::X.kept,rfl,fun e=>rfl,hlt,rfl⟩
  have hB1:qC P E.iter g B1:=⟨fun h=>(by cases h),by rw[hfi];exact hI⟩
  have hargs:RepL X2 (first++[.yld]++caps) (vf++[Value.func (.yield l) #[] #[]]++vc):=by
    have hno:AV.noYL first=true∧AV.noYL caps=true:=by
      have hn:(AV.fn g first caps).noY=true:=by
        rw[←hx]
        cases x with
        | tmp i =>
          simp only[Env.opd]
          rw[List.getD_eq_getElem?_getD]
          cases hi:st.t[i]? with
          | none=>rfl
          | some v =>
            have:∀(l:List AV),AV.noYL l=true→∀v,v∈l→v.noY=true:=by
              intro l
              induction l with
              | nil=>intro _ v hv;cases hv
              | cons y l ih =>
                intro hl v hv
                simp only[AV.noYL,Bool.and_eq_true] at hl
                rcases List.mem_cons.1 hv with rfl|hv
                · exact hl.1
                · exact ih hl.2 v hv
            exact this _ t3 v (List.mem_of_getElem? hi)
        | const v => rw [show E.opd st.t (.const v) = ofV v from rfl] at hx; unfold ofV at hx; split at hx; · cases hx
                     · unfold jk at hx;split at hx<;>first|cases hx|(split at hx<;>cases hx)
        | global g' =>
          simp only[Env.opd] at hx
          cases hg:E.glob.find? fun x=>x.1==g' with
          | none=>rw[hg] at hx;cases hx
          | some y =>
            rw[hg] at hx
            obtain⟨⟨sh,r',i,off,he⟩,_⟩:=hs.glob y (List.mem_of_find?_eq_some hg)
            simp only[Option.map_some,Option.getD_some] at hx
            rw[he] at hx;cases hx
        | func f'=>rw[show E.opd st.t (.func f')=.fn f' [] [] from rfl] at hx;cases hx;rfl
      simpa only [AV.noY,Bool.and_eq_true] using hn
    have m1:RepL X1 first vf:=(g1.ext0 k2).ext0 k4'
    have m2:RepL X1 caps vc:=(g2.ext0 k2).ext0 k4'
    exact((m1.setY l hno.1).append (.cons .yld .nil)).append (m2.setY l hno.2)
  have hF:SimF E B1 X2 st:=by
    have m1:RepL X1 st.t act.tmps.toList:=(hs.t.ext0 k2).ext0 k4'
    refine⟨hs2.base rfl rfl rfl,hs.h,?_,qsF (qfi k4' (qfi k2 hs.glob)) l,hs.ni,rfl,fun p hp=>by rw[t2] at hp;exact hp⟩
    show RepLL X2 _ (act.tmps.toList::B.fs)
    rw[t1,hBfs]
    exact .cons (m1.setY l t3) (.cons .nil .nil)
  obtain⟨henter,hcalls⟩:=hrg g _ _ st q B1 X2 _ hF hB1 (fun B' hB'=>by
    obtain⟨_,h'⟩:=hB'
    rw[hfi] at h'
    exact qwk hf hb hk hni hA hB h') rfl hargs h1
  refine⟨l,[qh1 D],X1.w,{ target:=.fn (.func g) vc.toArray,args:=vf.toArray++#[Value.func (.yield l) #[] #[]] },X1.w,g,(vf++[Value.func (.yield l) #[] #[]]++vc).toArray,X1.w,?_,?_,fun _ _=>trivial,?_,qdf none,?_⟩
  · exact run_enterLoop_outer fid act.tmps ps a b
  · simp only[resolve,hev,Deferred.ofValue,Sem.run_pure]
    simp[Act.eval]
  · simp only[invoke]
    have:vf.toArray++#[Value.func (.yield l) #[] #[]]++vc.toArray=(vf++[Value.func (.yield l) #[] #[]]++vc).toArray:=by
      apply Array.ext';simp
    rw[this]
    exact henter X1.w
  · refine qy7.2 (hcalls.mono fun e w' ⟨v,X',e1,e2,_,hF'⟩=>?_)
    subst e1 e2
    have hpin:=hF'.pin
    have hrec:(l,.loop (q6d fid act.tmps ps a b D q.2.pend))∈X'.kept:=hpin _ List.mem_cons_self
    have hlie:=(hF'.hs.kept _ hrec).1
    simp only at hlie
    have hbusy:(q6d fid act.tmps ps a b D q.2.pend).state≠.busy:=by
      simp only[q6d];split<;>simp
    obtain⟨m1,m2⟩:=qb2 hF'.hs (o':=.loop { q6d fid act.tmps ps a b D q.2.pend with state:=.exhausted }) hrec (fun _ _ _ h=>by cases h)
    refine⟨_,_,run_endLoop hlie hbusy,?_⟩
    unfold qyS at h2
    cases htq:quW { q.2 with pend:=none } with
    | false=>rw[htq] at h2;cases h2
    | true =>
    rw[htq] at h2
    simp only at h2
    have htop2:q.2.fs=[[]]∧AV.noYL q.2.t=true∧q.2.h.all Blk.noY=true:=by
      unfold quW at htq
      split at htq
      · rename_i h1 h2
        simp only[Bool.and_eq_true] at htq
        exact⟨h1,htq.1,htq.2⟩
      · cases htq
    obtain⟨u1,u2,u3⟩:=htop2
    let X3:Ctx:={ X' with w:=X'.w.putObj l (.loop { q6d fid act.tmps ps a b D q.2.pend with state:=.exhausted }),kept:=qbm l (.loop { q6d fid act.tmps ps a b D q.2.pend with state:=.exhausted }) X'.kept }
    have hsim:Sim E B { X3 with y:=B.y } { q.2 with pend:=none } { act with defers:=[qh1 D]++act.defers }:=by
      have hfs':=hF'.fs.ext0 m2
      have hold:∀p,p∈(D,(.deferred (some []):Obj))::X.kept→p∈X3.kept:=fun p hp=>q1f (hpin p (List.mem_cons_of_mem _ hp)) (hlt p hp)
      have hfs2:RepLL X3 (q.2.t::q.2.fs) (act.tmps.toList::B.fs):=hfs'
      refine⟨((m1.base (B':=B) rfl rfl rfl).setY B.y (by show X'.h.all Blk.noY=true;rw[hF'.h];exact u3)),hF'.h,?_,?_,qsF (qfi m2 hF'.glob) B.y,?_,hs.ni,rfl,?_⟩
      · cases hfs2 with|cons z1 z2=>exact z1.setY B.y u2
      · show RepLL _ q.2.fs B.fs
        rw[u1,hBfs];exact .cons .nil .nil
      · obtain⟨Ds,d1,d2,d3⟩:=hs.df
        rw[t2] at d3
        refine⟨D::Ds,by rw[d1];rfl,List.nodup_cons.2 ⟨fun hD=>?_,d2⟩,fun D' hD'=>?_⟩
        · have:=quM hs.hs (d3 D hD).1
          simp[D] at this
        · rcases List.mem_cons.1 hD' with rfl|hD'
          · refine⟨hold _ List.mem_cons_self,fun p hp=>?_⟩
            have hp':=hs.pin p (by rw[t2];exact hp)
            have:=quM hs.hs hp'
            simp only[D];omega
          · exact⟨hold _ (List.mem_cons_of_mem _ (d3 D' hD').1),(d3 D' hD').2⟩
      · intro p hp
        exact hold p (List.mem_cons_of_mem _ (hs.pin p (by rw[t2];exact hp)))
    cases hpe:q.2.pend with
    | none =>
      rw[hpe] at h2
      simp only[Tree.run,Option.some.injEq] at h2
      subst h2
      exact⟨rfl,{ X3 with y:=B.y },by show X'.w.putObj l _=_;rw[hpe],hsim⟩
    | some e =>
      rw[hpe] at h2
      cases e with
      | normal=>cases h2
      | ret =>
        simp only[Tree.run,Option.some.injEq] at h2
        subst h2
        exact wpIn_ret ⟨rfl,{ X3 with y:=B.y },by show X'.w.putObj l _=_;rw[hpe],hsim⟩
      | exit i =>
        simp only[Tree.run,Option.some.injEq] at h2
        subst h2
        exact wpIn_exit ⟨rfl,{ X3 with y:=B.y },by show X'.w.putObj l _=_;rw[hpe],hsim⟩
theorem qax{E:Env}{P:Program}(hm:P.follows .mixedOrders=true)(hE:E.tok P)(hS:E.specs P)(hL:E.loopsOK P){f:FuncId}{fn:Func}(hf:P.funcs[f]?=some fn){cb:Code}(hb:fn.body=some cb)
  {callH:q5l} (hcH:∀B,qC P E.iter f B→CallOK E P callH B) {callS:List Blk→q2c} (hc:qbS E P callS) (hmo:q2k E callS) {rangeH:qcG} (hrg:qht E P rangeH) :
  ∀(c:Code) (k:Nat),(∀j c',(zn c)[j]?=some c'→(zn cb)[k+j]?=some c') →
  ∀{B:Base} {X:Ctx} {st:St} {a:Act} {r:Ex×St} {n0:Nat},qC P E.iter f B→Sim E B X st a→(yN E callH callS rangeH f c k st).run=some r→c.wpIn (q1u B.ro) n0 P (qv6 E B r) a X.w:=by
 intro c
 induction c with
 | skip=>
  intro k _ B X st a r n0 hbo hs h
  simp only[yN,Tree.run,Option.some.injEq] at h
  subst h
  exact wpIn_skip ⟨rfl,X,rfl,hs⟩
 | label _=>
  intro k _ B X st a r n0 hbo hs h
  simp only[yN,Tree.run,Option.some.injEq] at h
  subst h
  exact wpIn_label ⟨rfl,X,rfl,hs⟩
 | region id ops draw=>
  intro k _ B X st a r n0 hbo hs h
  simp only[yN] at h
  obtain⟨s,h1,h2⟩:=bind_some h
  simp only[Tree.run,Option.some.injEq] at h2
  subst h2
  cases draw with
  | true=>exact qsh hm hE hS (hcH B hbo) hc hmo hs h1 fun X' a' hs'=>⟨rfl,X',rfl,hs'⟩
  | false=>exact qoQ hE (hcH B hbo) hs h1 fun X' a' hs'=>⟨rfl,X',rfl,hs'⟩
 | seq c d ihc ihd=>
  intro k hl B X st a r n0 hbo hs h
  simp only[yN] at h
  cases hfn:q8m E.loops f k with
  | some L=>
   rw[hfn] at h
   obtain⟨fn',c1,c2,q1,q2,q3,q4⟩:=hL _ (qfG hfn)
   simp only at q1 q3 q4
   rw[hf] at q1;cases q1
   rw[hb] at q2;cases q2
   have:=hl 0 (.seq c d) (by simp[zn])
   rw[Nat.add_zero,q3] at this
   cases this
   exact q4 E B X st a r rfl rfl hbo hs h n0
  | none=>
  rw[hfn] at h
  obtain⟨r1,h1,h2⟩:=bind_some h
  apply wpIn_seq
  have g1:=ihc (k+1) (fun j c' hj=>by
   have:=hl (1+j) c' (by simp only[zn];rw[Nat.add_comm,List.getElem?_cons_succ,List.getElem?_append_left (qp hj)];exact hj)
   rw[show k+1+j=k+(1+j) by omega];exact this) (n0:=n0) hbo hs h1
  refine wpIn_mono g1 fun e a' w' ⟨he,X',hw,hs'⟩=>?_
  subst hw
  obtain⟨x1,s1⟩:=r1
  cases x1 with
  | normal=>
   subst he
   refine ihd (k+1+wd c) (fun j c' hj=>?_) hbo hs' h2
   have:=hl (1+wd c+j) c' (by
    simp only[zn]
    rw[show 1+wd c+j=(wd c+j)+1 by omega,List.getElem?_cons_succ,List.getElem?_append_right (by rw[ka];omega),ka]
    rw[show wd c+j-wd c=j by omega];exact hj)
   rw[show k+1+wd c+j=k+(1+wd c+j) by omega];exact this
  | exit i=>
   simp only[Tree.run,Option.some.injEq] at h2
   subst he h2
   exact⟨rfl,X',rfl,hs'⟩
  | ret=>
   simp only[Tree.run,Option.some.injEq] at h2
   subst he h2
   exact⟨rfl,X',rfl,hs'⟩
 | cond x c d ihc ihd=>
  intro k hl B X st a r n0 hbo hs h
  simp only[yN] at h
  have hlc:=fun j c' (hj:(zn c)[j]?=some c')=>hl j c' (by simp only[zn];rw[List.getElem?_append_left (qp hj)];exact hj)
  have hld:∀j c',(zn d)[j]?=some c'→(zn cb)[k+wd c+j]?=some c':=fun j c' hj=>by
   have:=hl (wd c+j) c' (by
    simp only[zn]
    rw[List.getElem?_append_right (by rw[ka];omega),ka]
    rw[show wd c+j-wd c=j by omega];exact hj)
   rw[show k+wd c+j=k+(wd c+j) by omega];exact this
  have hx:=q7A hs x
  cases hv:E.opd st.t x with
  | blit b=>
   rw[hv] at h hx
   generalize hev:a.eval x=vx at hx
   cases hx
   cases b with
   | true=>exact wpIn_cond_true hev (ihc k hlc hbo hs h)
   | false=>exact wpIn_cond_false hev (ihd _ hld hbo hs h)
  | bool b=>
   rw[hv] at h hx
   generalize hev:a.eval x=vx at hx
   cases hx
   cases x with
   | tmp t=>
    simp only at h
    have ht:st.t[t]?=some (.bool b):=by
     simp only[Env.opd,List.getD_eq_getElem?_getD] at hv
     cases hg:st.t[t]? with
     | none=>rw[hg] at hv;cases hv
     | some y=>rw[hg] at hv;simp at hv;rw[hv]
    have hs':=hs.lit ht
    cases b with
    | true=>exact wpIn_cond_true hev (ihc k hlc hbo hs' h)
    | false=>exact wpIn_cond_false hev (ihd _ hld hbo hs' h)
   | _=>cases h
  | _=>rw[hv] at h;cases h
 | block id c ihc=>
  intro k hl B X st a r n0 hbo hs h
  simp only[yN] at h
  obtain⟨r1,h1,h2⟩:=bind_some h
  apply wpIn_block
  have g1:=@ihc k hl _ _ _ _ _ n0 hbo hs h1
  refine wpIn_mono g1 fun e a' w' ⟨he,X',hw,hs'⟩=>?_
  subst hw he
  obtain⟨x1,s1⟩:=r1
  cases x1 with
  | normal=>
   simp only[Tree.run,Option.some.injEq] at h2
   subst h2
   exact⟨rfl,X',rfl,hs'⟩
  | ret=>
   simp only[Tree.run,Option.some.injEq] at h2
   subst h2
   exact⟨rfl,X',rfl,hs'⟩
  | exit i=>
   simp only[Ex.out,Exit.inBlock]
   simp only at h2
   by_cases hi:i=id
   ·rw[if_pos hi] at h2 ⊢
    simp only[Tree.run,Option.some.injEq] at h2
    subst h2
    exact⟨rfl,X',rfl,hs'⟩
   ·rw[if_neg hi] at h2 ⊢
    simp only[Tree.run,Option.some.injEq] at h2
    subst h2
    exact⟨rfl,X',rfl,hs'⟩
 | loop c ihc=>
  intro k hl B X st a r n0 hbo hs h
  simp only[yN] at h
  cases hfn:q8m E.loops f k with
  | none=>rw[hfn] at h;cases h
  | some L=>
   rw[hfn] at h
   obtain⟨fn',c1,c2,q1,q2,q3,q4⟩:=hL _ (qfG hfn)
   simp only at q1 q3 q4
   rw[hf] at q1;cases q1
   rw[hb] at q2;cases q2
   have:=hl 0 (.loop c) (by simp[zn])
   rw[Nat.add_zero,q3] at this
   cases this
   exact q4 E B X st a r rfl rfl hbo hs h n0
 | exit id=>
  intro k _ B X st a r n0 hbo hs h
  simp only[yN,Tree.run,Option.some.injEq] at h
  subst h
  exact wpIn_exit ⟨rfl,X,rfl,hs⟩
 | ret  =>
  intro k _ B X st a r n0 hbo hs h
  simp only[yN,Tree.run,Option.some.injEq] at h
  subst h
  exact wpIn_ret ⟨rfl,X,rfl,hs⟩
 | goto _=>
  intro k _ B X st a r n0 hbo hs h
  simp only[yN] at h;cases h
 | scope _ ihc=>
  intro k _ B X st a r n0 hbo hs h
  simp only[yN] at h;cases h
 | rangeFunc x ps c d ihc ihd=>
  intro k hl B X st a r n0 hbo hs h
  simp only[yN] at h
  cases hx:E.opd st.t x with
  | fn g first caps=>
   rw[hx] at h
   simp only at h
   cases hcd:qpo E.iter g f k&&q77 E.iter f&&quW st with
   | false=>rw[hcd] at h;cases h
   | true=>
    rw[hcd] at h
    simp only at h
    refine qAH hrg hf hb (hl 0 _ (by simp[zn])) (fun B X st act r hbo hs hr n=>?_) (fun B X st act r hbo hs hr n=>?_) hbo hs hx hcd h
    ·refine ihc (k+1) (fun j c' hj=>?_) hbo hs hr
     have:=hl (1+j) c' (by simp only[zn];rw[Nat.add_comm,List.getElem?_cons_succ,List.getElem?_append_left (qp hj)];exact hj)
     rw[show k+1+j=k+(1+j) by omega];exact this
    ·refine ihd (k+1+wd c) (fun j c' hj=>?_) hbo hs hr
     have:=hl (1+wd c+j) c' (by
      simp only[zn]
      rw[show 1+wd c+j=(wd c+j)+1 by omega,List.getElem?_cons_succ,List.getElem?_append_right (by rw[ka];omega),ka]
      rw[show wd c+j-wd c=j by omega];exact hj)
     rw[show k+1+wd c+j=k+(1+wd c+j) by omega];exact this
  | _=>rw[hx] at h;cases h
 | _=>
  intro k hl B X st a r n0 hbo hs h
  simp only[yN] at h;cases h
theorem quX{P:Program}{w:World}{t:TypeId}{v u:Value}(h:(Instr.loadAt t v).run P w=.ok u w):∃ad,v=.pointer (some ad)∧(loadVar t ad).run P w=.ok u w:=by
 cases v with
 | pointer p=>
  cases p with
  | some ad=>exact⟨ad,rfl,by simpa[Instr.loadAt,Instr.sureAddr] using h⟩
  | none=>simp[Instr.loadAt,Instr.sureAddr] at h
 | _=>simp[Instr.loadAt,Instr.sureAddr] at h
def qDM(tmps:Array Value):ResultVar→Sem Value
 | .tmp t=>pure (tmps.getD t undef)
 | .cell a t=>do loadVar t (←asAddr (tmps.getD a undef))
theorem qxx(fn:Func)(tmps:Array Value):results fn tmps=(fn.results.mapM (qDM tmps) >>= fun vs=>pure (if h:vs.size=1 then vs[0] else .tuple vs)):=by
 unfold results
 congr 1
theorem qhE{E:Env}{P:Program}(hE:E.tok P){B:Base}{X:Ctx}{st:St}{a:Act}(hs:Sim E B X st a):∀(l:List ResultVar) (vs:List AV),qlV E st.h st.t l=some vs →
  ∃us,(l.mapM (qDM a.tmps)).run P X.w=.ok us X.w∧RepL X vs us
 | [],vs,h=>by simp only[qlV,Option.some.injEq] at h;subst h;exact⟨[],by simp,.nil⟩
 | .tmp i::l,vs,h=>by
  simp only[qlV] at h
  split at h
  ·rename_i r hr
   cases h
   obtain⟨us,h1,h2⟩:=qhE hE hs l r hr
   have:=q7A hs (.tmp i)
   simp only[Env.opd,Act.eval] at this
   exact⟨_::us,by simp[List.mapM_cons,qDM,h1],.cons this h2⟩
  ·cases h
 | .cell i ty::l,vs,h=>by
  simp only[qlV] at h
  split at h
  ·rename_i v h' n r hld hr
   cases h
   obtain⟨us,h1,h2⟩:=qhE hE hs l r hr
   have hv:=q7A hs (.tmp i)
   simp only[Env.opd,Act.eval] at hv
   rw[←hs.h] at hld
   obtain⟨av,u,g1,g2,g3⟩:=qeU hE hs.hs hv (r:=(v,h',n)) (by rw[hld];rfl)
   obtain⟨ad,g4,g5⟩:=quX g2
   have:v=av:=congrArg Prod.fst g1
   subst this
   refine⟨u::us,?_,.cons g3 h2⟩
   simp only[List.mapM_cons,qDM,Sem.run_bind,g4,asAddr,Sem.run_pure,Result.andThen_ok,g5,h1]
  ·cases h
theorem RepL.len{X:Ctx}:∀{azz:List AV} {vs:List Value},RepL X azz vs→azz.length=vs.length
 | _,_,.nil=>rfl
 | _,_,.cons _ t=>by simp[t.len]
theorem qrr{E:Env}{P:Program}(hE:E.tok P){B:Base}{X:Ctx}{st:St}{a:Act}(hs:Sim E B X st a){fn:Func}{vs:List AV}(h:qlV E st.h st.t fn.results.toList=some vs) :
  ∃u,(results fn a.tmps).run P X.w=.ok u X.w∧Rep X (qy2 vs) u:=by
 obtain⟨us,h1,h2⟩:=qhE hE hs _ _ h
 have hm:(fn.results.mapM (qDM a.tmps)).run P X.w=.ok us.toArray X.w:=by
  rw[Array.mapM_eq_mapM_toList,Sem.run_map,h1];rfl
 rw[qxx,Sem.run_bind,hm]
 simp only[Result.andThen_ok,Sem.run_pure]
 have hl:=h2.len
 cases h2 with
 | nil=>exact⟨_,rfl,.tuple [] [] .nil⟩
 | cons g1 g2=>
  cases g2 with
  | nil=>exact⟨_,rfl,by simpa[qy2] using g1⟩
  | cons g3 g4=>
   refine⟨_,rfl,?_⟩
   rw[dif_neg (by simp)]
   exact .tuple _ _ (.cons g1 (.cons g3 g4))
theorem qzh{X:Ctx}{fn:Func}{args:List AV}{vargs:List Value}(h:RepL X args vargs):RepL X (qwJ fn args) (vargs.toArray++Array.replicate (fn.ntmps-vargs.toArray.size) undef).toList:=by
 have hrep:∀n,RepL X (List.replicate n .skip) (List.replicate n undef):=by
  intro n
  induction n with
  | zero=>exact .nil
  | succ n ih=>simp only[List.replicate_succ];exact .cons .skip ih
 unfold qwJ
 simp only[Array.toList_append,Array.toList_replicate,List.size_toArray]
 rw[h.len]
 exact h.append (hrep _)
def Env.bodies(E:Env)(P:Program):Prop:=∀x,x∈E.body→P.funcs[x.1]?=some x.2∧(x.2.name == "runtime.NumGoroutine")=false
theorem qjB{E:Env}{P:Program}(hm:P.follows .mixedOrders=true)(hE:E.tok P)(hS:E.specs P)(hL:E.loopsOK P){f:FuncId}{fn:Func}(hf:P.funcs[f]?=some fn)
  {callH:q5l} (hcH:∀B,qC P E.iter f B→CallOK E P callH B) {callS:List Blk→q2c} (hc:qbS E P callS) (hmo:q2k E callS) {rangeH:qcG} (hrg:qht E P rangeH)
  {args:List AV} {st:St} {r:AV×St} {B:Base} {X:Ctx} {vargs:List Value} (hro:B.ro=none) (hbo:qC P E.iter f B) (hs:SimF E B X st) (ha:RepL X args vargs) (h:(qru E callS callH rangeH f fn args st).run=some r) :
  fn.body.isNone=false∧Calls P f vargs.toArray X.w fun e w'=>∃v X',e=.returned v∧X'.w=w'∧Rep X' r.1 v∧SimF E B X' r.2:=by
 unfold qru at h
 cases hb:fn.body with
 | none=>rw[hb] at h;cases h
 | some c=>
  rw[hb] at h
  refine⟨rfl,qy7.1 (callsIn_of_wp_marks (F:=q1u none) (n:=0) hf hb trivial ?_)⟩
  obtain⟨r1,h1,h2⟩:=bind_some h
  have hsim:Sim E B X { t:=qwJ fn args,fs:=st.t::st.fs,h:=st.h,pend:=st.pend } { tmps:=vargs.toArray++Array.replicate (fn.ntmps-vargs.toArray.size) undef,defers:=[] }:=
   ⟨hs.hs,hs.h,qzh ha,hs.fs,hs.glob,qvc.nil,hs.ni,hs.y,hs.pin⟩
  have hcode:=qax (n0:=0) hm hE hS hL hf hb hcH hc hmo hrg c 0 (fun j c' hj=>by rw[Nat.zero_add];exact hj) hbo hsim h1
  rw[hro] at hcode
  refine wpIn_mono hcode fun e a' w' ⟨he,X',hw,hs'⟩=>?_
  subst he hw
  obtain⟨x1,s1⟩:=r1
  have fin:∀{vs:List AV} {caller:List AV} {fs:List (List AV)},qlV E s1.h s1.t fn.results.toList=some vs→s1.fs=caller::fs→r=(qy2 vs,{ t:=caller,fs:=fs,h:=s1.h,pend:=s1.pend }) →
    LeavesInM (q1u none) 0 P fn a'.tmps (fun e w'=>∃v X',e=.returned v∧X'.w=w'∧Rep X' r.1 v∧SimF E B X' r.2) a'.defers .returning X'.w:=by
   intro vs caller fs hr hfs hre
   obtain⟨Ds,d1,_⟩:=hs'.df
   rw[d1]
   refine qsA Ds hs' d1 fun X2 hs2=>?_
   obtain⟨u,g1,g2⟩:=qrr hE hs2 hr
   refine⟨u,g1,u,X2,rfl,rfl,by rw[hre];exact g2,?_⟩
   rw[hre]
   exact⟨hs2.hs,hs2.h,by rw[←hfs];exact hs2.fs,hs2.glob,hs2.ni,hs2.y,hs2.pin⟩
  unfold qAu at h2
  cases x1 with
  | exit i=>simp only at h2;cases h2
  | normal=>
   simp only at h2
   split at h2
   ·rename_i vs caller fs hr hfs;cases h2;exact fin hr hfs rfl
   ·cases h2
  | ret=>
   simp only at h2
   split at h2
   ·rename_i vs caller fs hr hfs;cases h2;exact fin hr hfs rfl
   ·cases h2
theorem q2z {P:Program} {f:FuncId} {fn:Func} (hf:P.funcs[f]?=some fn) (hn:(fn.name == "runtime.NumGoroutine")=false) (hb:fn.body.isNone=false):qjh P f:=by
 intro args w
 unfold callFunc
 rw[Sem.run_bind]
 show (Result.ok P w).andThen _=_
 simp only[Result.andThen_ok,hf,hn,hb,Bool.false_eq_true,if_false,Sem.run_pure]
theorem qBS{all:Array Oper}{k:Nat}{o:Oper}{s s':St}(h:(qmz all k o s).run=some s')(u:St)(hu:u.t=s.t):(qmz all k o u).run=some { u with t:=s'.t }:=by
 unfold qmz at h ⊢
 split at h
 ·rename_i hg
  rw[if_pos hg]
  split at h
  ·rename_i d hd
   simp only[hu]
   split at h
   ·rename_i b hb
    simp only[Tree.run] at h ⊢
    cases b<;>(simp only[Option.some.injEq] at h ⊢;subst h;rfl)
   ·rename_i hb
    cases hx:s.t[d]? with
    | none=>simp only[Tree.run,Option.some.injEq] at h ⊢;subst h;rw[←hu]
    | some v=>
     rw[hx] at hb
     cases v<;>first|(exact absurd rfl (hb _))|(simp only[Tree.run,Option.some.injEq] at h ⊢;subst h;rw[←hu])
  ·simp only[Tree.run,Option.some.injEq] at h ⊢;subst h;rw[←hu]
 ·rename_i hg
  rw[if_neg hg]
  simp only[Tree.run,Option.some.injEq] at h ⊢;subst h;rw[←hu]
theorem qkq{E:Env}{callH:q5l}{all:Array Oper}{st0:St}:∀(l:List Oper) (k:Nat) (t t':List AV),(qq8 E st0.h all k l t).run=some t'→(qfk E callH all k l { st0 with t:=t }).run=some { st0 with t:=t' }
 | [],k,t,t',h=>by simp only[qq8,Tree.run,Option.some.injEq] at h;subst h;rfl
 | o::rest,k,t,t',h=>by
  simp only[qq8] at h
  simp only[qfk]
  cases hw:u5 all o t with
  | none=>rw[hw] at h;cases h
  | some b=>
   rw[hw] at h
   cases b with
   | false=>
    simp only at h ⊢
    exact qkq rest (k+1) _ t' h
   | true=>
    simp only at h ⊢
    cases hst:q9s E o.op with
    | false=>rw[hst] at h;cases h
    | true=>
     rw[hst] at h
     obtain⟨r,h1,h2⟩:=bind_some h
     obtain⟨s,h3,h4⟩:=bind_some h2
     have hr:=qpR hst h1
     have hstep:(qmV E callH o { st0 with t:=t }).run=some { st0 with t:=qeu t o.dst r.1 }:=by
      unfold qmV
      split
      ·rename_i x args tys hop;rw[hop] at hst;cases hst
      ·rw[Tree.run_bind,h1]
       obtain⟨r1,r2⟩:=r
       simp only at hr
       subst hr
       rfl
     rw[Tree.run_bind,hstep]
     simp only[Option.bind_some]
     rw[Tree.run_bind,qBS h3 { st0 with t:=qeu t o.dst r.1 } rfl]
     exact qkq rest (k+1) _ t' h4
theorem qtx{E:Env}{callH:q5l}{callS:List Blk→q2c}{rangeH:qcG}{f:FuncId}{st0:St}:∀(c:Code) (k:Nat) (t:List AV) (r:Ex×List AV),(q1P E st0.h f c k t).run=some r →
  (yN E callH callS rangeH f c k { st0 with t:=t }).run=some (r.1,{ st0 with t:=r.2 }):=by
 intro c
 induction c with
 | skip=>intro k t r h;simp only[q1P,Tree.run,Option.some.injEq] at h;subst h;rfl
 | label _=>intro k t r h;simp only[q1P,Tree.run,Option.some.injEq] at h;subst h;rfl
 | region id ops draw=>
  intro k t r h
  simp only[q1P] at h
  cases draw with
  | true=>cases h
  | false=>
   obtain⟨s,h1,h2⟩:=bind_some h
   simp only[Tree.run,Option.some.injEq] at h2
   subst h2
   simp only[yN]
   rw[Tree.run_bind,qkq (callH:=callH) _ _ _ _ h1]
   rfl
 | seq c d ihc ihd=>
  intro k t r h
  simp only[q1P] at h
  simp only[yN]
  cases hfn:q8m E.loops f k with
  | some L=>rw[hfn] at h;cases h
  | none=>
   rw[hfn] at h
   simp only at h ⊢
   obtain⟨s,h1,h2⟩:=bind_some h
   rw[Tree.run_bind,ihc _ _ _ h1]
   simp only[Option.bind_some]
   obtain⟨e,s2⟩:=s
   cases e with
   | normal=>exact ihd _ _ _ h2
   | ret=>simp only[Tree.run,Option.some.injEq] at h2 ⊢;subst h2;rfl
   | exit i=>simp only[Tree.run,Option.some.injEq] at h2 ⊢;subst h2;rfl
 | cond x c d ihc ihd=>
  intro k t r h
  simp only[q1P] at h
  simp only[yN]
  split at h
  ·exact ihc _ _ _ h
  ·exact ihd _ _ _ h
  ·rename_i b hx
   cases x with
   | tmp d'=>
    simp only[Tree.run] at h ⊢
    cases b with
    | true=>exact ihc _ _ _ h
    | false=>exact ihd _ _ _ h
   | _=>cases h
  ·cases h
 | block id c ihc=>
  intro k t r h
  simp only[q1P] at h
  simp only[yN]
  obtain⟨s,h1,h2⟩:=bind_some h
  rw[Tree.run_bind,ihc _ _ _ h1]
  simp only[Option.bind_some]
  obtain⟨e,s2⟩:=s
  cases e with
  | normal=>simp only[Tree.run,Option.some.injEq] at h2 ⊢;subst h2;rfl
  | ret=>simp only[Tree.run,Option.some.injEq] at h2 ⊢;subst h2;rfl
  | exit i=>
   simp only at h2 ⊢
   split at h2
   ·rename_i hi;rw[if_pos hi];simp only[Tree.run,Option.some.injEq] at h2 ⊢;subst h2;rfl
   ·rename_i hi;rw[if_neg hi];simp only[Tree.run,Option.some.injEq] at h2 ⊢;subst h2;rfl
 | exit id=>intro k t r h;simp only[q1P,Tree.run,Option.some.injEq] at h;subst h;rfl
 | ret=>intro k t r h;simp only[q1P,Tree.run,Option.some.injEq] at h;subst h;rfl
 | _=>intro k t r h;simp only[q1P] at h;cases h
theorem qsu{E:Env}{callH:q5l}{rangeH:qcG}{f:FuncId}{fn:Func}{args:List AV}{st:St}{v:AV}(h:(qva E st.h f fn args).run=some v):(qru E qrH callH rangeH f fn args st).run=some (v,st):=by
 unfold qva at h
 unfold qru
 cases hb:fn.body with
 | none=>rw[hb] at h;cases h
 | some c=>
  rw[hb] at h
  simp only at h ⊢
  obtain⟨r,h1,h2⟩:=bind_some h
  rw[Tree.run_bind,qtx (callH:=callH) (callS:=qrH) (rangeH:=rangeH) (st0:={ t:=[],fs:=st.t::st.fs,h:=st.h,pend:=st.pend }) c 0 _ r h1]
  simp only[Option.bind_some]
  obtain⟨e,t'⟩:=r
  unfold qAu
  cases e with
  | exit i=>cases h2
  | normal=>
   simp only at h2 ⊢
   cases hr:qlV E st.h t' fn.results.toList with
   | none=>rw[hr] at h2;cases h2
   | some vs=>rw[hr] at h2;cases h2;rfl
  | ret=>
   simp only at h2 ⊢
   cases hr:qlV E st.h t' fn.results.toList with
   | none=>rw[hr] at h2;cases h2
   | some vs=>rw[hr] at h2;cases h2;rfl
theorem qib{P:Program}{it:List (FuncId×FuncId×Nat)}{f:FuncId}(h:q77 it f=true){B:Base}(hB:B.ro.isSome=true→2≤B.fs.length):qC P it f B:=by
 refine⟨hB,?_⟩
 unfold q77 at h
 split at h
 ·cases h
 ·rename_i hn;rw[hn];trivial
theorem qjU(E:Env)(P:Program):qht E P qrx:=fun _ _ _ _ _ _ _ _ _ _ _ _ _ h=>by cases h
theorem qzB{E:Env}{P:Program}(B:Base):CallOK E P (fun _ _ _=>.fail) B:=⟨(fun f args st r X a vargs _ _ h=>by cases h),(fun args st r X a vargs _ _ h=>by cases h)⟩
theorem qav{E:Env}{P:Program}(hm:P.follows .mixedOrders=true)(hE:E.tok P)(hS:E.specs P)(hL:E.loopsOK P)(hb:E.bodies P):qbS E P (q7i E):=by
 intro f args st v B X a vargs hs ha h
 unfold q7i at h
 cases hsp:E.spec.find? fun x=>x.1==f with
 | some G=>rw[hsp] at h;exact qqP hS f args st v B X a vargs hs ha h
 | none=>
  rw[hsp] at h
  simp only at h
  cases hbd:E.body.find? fun x=>x.1==f with
  | none=>rw[hbd] at h;cases h
  | some fn=>
   rw[hbd] at h
   simp only at h
   cases hni:q77 E.iter f with
   | false=>rw[hni] at h;cases h
   | true=>
   rw[hni] at h
   simp only at h
   have hx:=hb fn (List.mem_of_find?_eq_some hbd)
   have hfe:fn.1=f:=by simpa using List.find?_some hbd
   rw[hfe] at hx
   let B':Base:={ B with fs:=a.tmps.toList::B.fs,ro:=none,pin:=fun _=>X.kept }
   have hF:SimF E B' X st:=⟨hs.hs.base rfl rfl rfl,hs.h,.cons hs.t hs.fs,hs.glob,hs.ni,hs.y,fun p hp=>hp⟩
   have h1:=qsu (callH:=fun _ _ _=>.fail) (rangeH:=qrx) h
   obtain⟨g1,g2⟩:=qjB hm hE hS hL hx.1 (fun B _=>qzB B) (callS:=qrH) (fun _ _ _ _ _ _ _ _ _ _ h=>by cases h) (qtD E) (qjU E P) (B:=B') rfl (qib hni (fun h=>by cases h)) hF ha h1
   refine⟨q2z hx.1 hx.2 g1 _,g2.mono fun e w' ⟨u,X',e1,e2,e3,e4⟩=>⟨u,X',e1,e2,e3,?_⟩⟩
   have hpin:∀p,p∈X.kept→p∈X'.kept:=e4.pin
   have hfs:RepLL X' (st.t::st.fs) (a.tmps.toList::B.fs):=e4.fs
   obtain⟨Ds,d1,d2,d3⟩:=hs.df
   refine⟨e4.hs.base rfl rfl rfl,e4.h,?_,?_,e4.glob,⟨Ds,d1,d2,fun D hD=>⟨hpin _ (d3 D hD).1,(d3 D hD).2⟩⟩,hs.ni,e4.y,fun p hp=>hpin p (hs.pin p hp)⟩
   ·cases hfs with|cons k1 k2=>exact k1
   ·cases hfs with|cons k1 k2=>exact k2
theorem qfb{E:Env}{P:Program}(hm:P.follows .mixedOrders=true)(hE:E.tok P)(hS:E.specs P)(hL:E.loopsOK P)(hbs:E.bodies P){f:FuncId}{fn:Func}(hf:P.funcs[f]?=some fn)
  {callH:q5l} (hcH:∀B,qC P E.iter f B→CallOK E P callH B) {rangeH:qcG} (hrg:qht E P rangeH)
  {args:List AV} {st:St} {r:AV×St} {B:Base} {X:Ctx} {vargs:List Value} (hro:B.ro=none) (hbo:qC P E.iter f B) (hs:SimF E B X st) (ha:RepL X args vargs) (h:(qvM E callH rangeH f fn args st).run=some r) :
  fn.body.isNone=false∧Calls P f vargs.toArray X.w fun e w'=>∃v X',e=.returned v∧X'.w=w'∧Rep X' r.1 v∧SimF E B X' r.2:=
 qjB hm hE hS hL hf hcH (qav hm hE hS hL hbs) (q73 E) hrg hro hbo hs ha h
theorem qcc{E:Env}{P:Program}(hm:P.follows .mixedOrders=true)(hE:E.tok P)(hS:E.specs P)(hL:E.loopsOK P)(hb:E.bodies P){callH:q5l}(hcH:∀B,CallOK E P callH B):qht E P (qhn E callH):=by
 intro g y args st r B X vargs hs hbo hy hro ha h
 unfold qhn at h
 cases hbd:E.body.find? fun x=>x.1==g with
 | none=>rw[hbd] at h;cases h
 | some fn=>
  rw[hbd] at h
  have hx:=hb fn (List.mem_of_find?_eq_some hbd)
  have hfe:fn.1=g:=by simpa using List.find?_some hbd
  rw[hfe] at hx
  obtain⟨g1,g2⟩:=qfb hm hE hS hL hb hx.1 (callH:=qAP y callH) (fun B' hB'=>⟨(hcH B').fn,hy B' hB'⟩) (qjU E P) hro hbo hs ha h
  exact⟨q2z hx.1 hx.2 g1 _,g2⟩
theorem qeD{E:Env}{P:Program}(hm:P.follows .mixedOrders=true)(hE:E.tok P)(hS:E.specs P)(hL:E.loopsOK P)(hb:E.bodies P):∀n B,CallOK E P (q7Z E n) B
 | 0,_=>⟨(fun f args st r X a vargs _ _ h=>by simp only[q7Z] at h;cases h),(fun args st r X a vargs _ _ h=>by simp only[q7Z] at h;cases h)⟩
 | n+1,B=>⟨(fun f args st r X a vargs hs ha h=>by
  simp only[q7Z] at h
  cases hsp:E.spec.find? fun x=>x.1==f with
  | some G=>
   rw[hsp] at h
   have hG:=hS G (List.mem_of_find?_eq_some hsp)
   have hfe:G.1=f:=by simpa using List.find?_some hsp
   rw[hfe] at hG
   exact⟨hG.1 _,qbu hG hs ha h⟩
  | none=>
   rw[hsp] at h
   cases hbd:E.body.find? fun x=>x.1==f with
   | none=>rw[hbd] at h;cases h
   | some fn=>
    rw[hbd] at h
    simp only at h
    cases hni:q77 E.iter f with
    | false=>rw[hni] at h;cases h
    | true=>
    rw[hni] at h
    simp only at h
    obtain⟨r1,h1,h2⟩:=bind_some h
    simp only[Tree.run,Option.some.injEq] at h2
    subst h2
    have hx:=hb fn (List.mem_of_find?_eq_some hbd)
    have hfe:fn.1=f:=by simpa using List.find?_some hbd
    rw[hfe] at hx
    let B':Base:={ B with fs:=a.tmps.toList::B.fs,ro:=none,pin:=fun _=>X.kept }
    have hF:SimF E B' X st:=⟨hs.hs.base rfl rfl rfl,hs.h,.cons hs.t hs.fs,hs.glob,hs.ni,hs.y,fun p hp=>hp⟩
    obtain⟨g1,g2⟩:=qfb hm hE hS hL hb hx.1 (fun B _=>qeD hm hE hS hL hb n B) (qcc hm hE hS hL hb (qeD hm hE hS hL hb n)) (B:=B') rfl (qib hni (fun h=>by cases h)) hF ha h1
    refine⟨q2z hx.1 hx.2 g1 _,g2.mono fun e w' ⟨v,X',e1,e2,e3,e4⟩=>⟨v,X',e1,e2,e3,?_⟩⟩
    have hpin:∀p,p∈X.kept→p∈X'.kept:=e4.pin
    have hfs:RepLL X' (r1.2.t::r1.2.fs) (a.tmps.toList::B.fs):=e4.fs
    obtain⟨Ds,d1,d2,d3⟩:=hs.df
    refine⟨e4.hs.base rfl rfl rfl,e4.h,?_,?_,e4.glob,⟨Ds,d1,d2,fun D hD=>⟨hpin _ (d3 D hD).1,(d3 D hD).2⟩⟩,hs.ni,e4.y,fun p hp=>hpin p (hs.pin p hp)⟩
    ·cases hfs with|cons k1 k2=>exact k1
    ·cases hfs with|cons k1 k2=>exact k2),
  (fun args st r X a vargs _ _ h=>by simp only[q7Z] at h;cases h)⟩
theorem qsp{E:Env}{P:Program}(hm:P.follows .mixedOrders=true)(hE:E.tok P)(hS:E.specs P)(hL:E.loopsOK P)(hb:E.bodies P){f:FuncId}{fn:Func}(hf:P.funcs[f]?=some fn)
  {n:Nat} {B:Base} {X:Ctx} {args:List AV} {vargs:List Value} {r:AV×List Blk} (hs:HSim B X) (h0:B.imps.length≤E.nimp) (hgl:qaI E.glob X) (ha:RepL X args vargs)
  (h:(qvG E n f fn args X.h).run=some r) :
  Calls P f vargs.toArray X.w fun e w'=>∃v X',e=.returned v∧X'.w=w'∧Rep X' r.1 v∧X'.h=r.2∧HSim B X'∧X'.y=X.y:=by
 unfold qvG at h
 cases hni:q77 E.iter f with
 | false=>rw[hni] at h;cases h
 | true=>
 rw[hni] at h
 simp only at h
 obtain⟨r1,h1,h2⟩:=bind_some h
 simp only[Tree.run,Option.some.injEq] at h2
 subst h2
 let B0:Base:={ B with fs:=[[]],ro:=none,y:=X.y,pin:=fun _=>[] }
 have hF:SimF E B0 X { t:=[],fs:=[],h:=X.h,pend:=none }:=⟨hs.base rfl rfl rfl,rfl,.cons .nil .nil,hgl,h0,rfl,fun p hp=>by cases hp⟩
 obtain⟨_,g2⟩:=qfb hm hE hS hL hb hf (fun B _=>qeD hm hE hS hL hb n B) (qcc hm hE hS hL hb (qeD hm hE hS hL hb n)) (B:=B0) rfl (qib hni (fun h=>by cases h)) hF ha h1
 refine g2.mono fun e w' ⟨v,X',e1,e2,e3,e4⟩=>⟨v,X',e1,e2,e3,e4.h,e4.hs.base rfl rfl rfl,e4.y⟩
end Go.Eng

