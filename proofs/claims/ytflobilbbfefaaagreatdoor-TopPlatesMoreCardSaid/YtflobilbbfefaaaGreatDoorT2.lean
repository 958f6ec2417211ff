/- Texts of the proof, merged: what the code computes, and plain laws. No statement stands here. -/
import Derived.Orders
import Derived.RangeFuncRecord
import Derived.Test.YtflobilbbfefaaaGreatDoorT1
namespace Go.Eng
structure Entry (B:Base) (X:Ctx):Prop where
 w0:B.w0=X.w
 imps:B.imps=(List.range X.h.length).map X.σ
 M0:∀n,X.M n→B.M0 n
def qcN(P:Program)(f:FuncId):Prop:=∀(args:Array Value) (w:World),(callFunc f args).run P w=.ok (.enter f args) w
def zk(P:Program)(gl:List (Nat×AV))(f:FuncId)(G:u4):Prop:=
 qcN P f∧∀(B:Base) (X:Ctx) (args:List AV) (vargs:List Value) (r:AV×List Blk),HSim B X→Entry B X→q7y gl X→RepL X args vargs→(G args X.h).run=some r →
  Calls P f vargs.toArray X.w fun e w'=>∃v X',e=.returned v∧X'.w=w'∧Rep X' r.1 v∧X'.h=r.2∧HSim B X'∧X'.y=X.y
mutual
theorem qnv{B:Base}{X:Ctx}(hs:HSim B X):∀{av:AV} {v:Value},Rep X av v→Rep X (av.lend X.h) v
 | .vec b,v,h=>by
  unfold AV.lend
  split
  ·rename_i e sh l hb;exact .imm _ _ _ (qal hs hb h)
  ·exact .undef v
 | .agg cs,_,.agg _ vs h=>.agg _ vs (q7n hs h)
 | .tuple cs,_,.tuple _ vs h=>.tuple _ vs (q7n hs h)
 | .undef,_,h|.skip,_,h|.yld,_,h|.blit _,_,h|.bool _,_,h|.ilit _ _,_,h|.int _ _,_,h|.str _,_,h|.nilp,_,h|.ptr _ _,_,h|.eptr _ _ _ _,_,h|.mptr _ _ _ _ _,_,h|.vptr _ _ _,_,h|.vsub _ _,_,h|.aptr _ _ _,_,h|.asub _ _ _ _ _,_,h|.bagg _ _ _ _,_,h
 | .nils,_,h|.imm _ _,_,h|.full _ _,_,h|.nilf,_,h|.fn _ _ _,_,h=>h
theorem q7n{B:Base}{X:Ctx}(hs:HSim B X):∀{azz:List AV} {vs:List Value},RepL X azz vs→RepL X (AV.lendL X.h azz) vs
 | _,_,.nil=>.nil
 | _,_,.cons h t=>.cons (qnv hs h) (q7n hs t)
end
def Wk(X:Ctx)(k k':Blk):Prop:=k'=.dead∨k'=k∨(∃cs cs',k=.cells cs∧k'=.cells cs'∧∀vs,RepL X cs vs→RepL X cs' vs)∨∃cs cs' kk n l,k=.big cs kk n l∧k'=.big cs' kk n l∧∀vs,RepL X cs vs→RepL X cs' vs
theorem q6Y{B:Base}{X:Ctx}(hs:HSim B X){h':List Blk}(hl:h'.length=X.h.length)(hw:∀(b:Nat) (k':Blk),h'[b]?=some k'→∃k0,X.h[b]?=some k0∧Wk X k0 k')
  (hc:∀b:Nat,b<B.imps.length→∀k':Blk,h'[b]?=some k'→k'.solid=true):HSim B { X with h:=h' }∧Ext X { X with h:=h' }:=by
 have hvec:∀b sh m,({ X with h:=h' }:Ctx).isVec b sh m→X.isVec b sh m:=by
  intro b sh m ⟨e,l,h1,h2⟩
  refine⟨e,l,?_,h2⟩
  rcases h1 with h1|h1
  ·obtain⟨k0,h3,h4⟩:=hw b _ h1
   rcases h4 with h4|h4|⟨_,_,_,h4,_⟩|⟨_,_,_,_,_,_,h4,_⟩
   ·cases h4
   ·exact .inl (h4▸h3)
   ·cases h4
   ·cases h4
  ·obtain⟨k0,h3,h4⟩:=hw b _ h1
   rcases h4 with h4|h4|⟨_,_,_,h4,_⟩|⟨_,_,_,_,_,_,h4,_⟩
   ·cases h4
   ·exact .inr (h4▸h3)
   ·cases h4
   ·cases h4
 have hx:Ext X { X with h:=h' }:=by
  refine Move.of (fun _ h=>h) (fun _ _=>rfl) (fun b b' hb hf=>?_)
  cases hf
  exact⟨by show b<h'.length;omega,rfl,hvec b,fun sh m _ k hk c T fr hc=>⟨c,T,fr,hc,rfl⟩⟩
 have hown:∀b m,({ X with h:=h' }:Ctx).own b m→X.own b m:=by
  intro b m ⟨h1,k,h2,h3⟩
  obtain⟨k0,h4,h5⟩:=hw b k h2
  refine⟨h1,k0,h4,?_⟩
  rcases h5 with h5|h5|⟨_,_,h5,_,_⟩|⟨_,_,_,_,_,h5,_,_⟩
  ·subst h5;cases h3
  ·exact h5▸h3
  ·subst h5;rfl
  ·subst h5;rfl
 refine⟨⟨?_,fun b b' m h h'=>hs.inj b b' m (hown _ _ h) (hown _ _ h'),fun b m h=>hs.notM b m (hown _ _ h),hs.ltM,hs.M0,hs.newM,hs.os,hs.tape,hs.output,hs.size,hs.frame,hs.imps,?_,fun b m h=>hs.fresh b m (hown _ _ h),hs.kept⟩,hx⟩
 ·intro b k hk
  obtain⟨k0,h1,h2⟩:=hw b k hk
  have h3:=hs.blk b k0 h1
  rcases h2 with h2|h2|⟨cs,cs',h2,h4,h5⟩|⟨cs,cs',kk,N,l,h2,h4,h5⟩
  ·subst h2;trivial
  ·subst h2;exact vM.ext hx rfl (fun _ _=>rfl) h3
  ·subst h2 h4
   obtain⟨m,c,T,e1,e2,e3⟩:=h3
   exact⟨m,c,T,e1,e2,(h5 _ e3).ext hx⟩
  ·subst h2 h4
   obtain⟨m,c,T,vs,e1,e2,e3,e4,e5⟩:=h3
   exact⟨m,c,T,vs,e1,e2,(h5 _ e3).ext hx,e4,e5⟩
 ·intro b hb
  have hlt:b<h'.length:=by have:=hs.hlen;omega
  exact⟨_,List.getElem?_eq_getElem hlt,hc b hb _ (List.getElem?_eq_getElem hlt)⟩
theorem Frozen.trans{B:Base}{X Y Z:Ctx}{h h':List Blk}(f:Frozen B X Y h)(g:Frozen B Y Z h'):Frozen B X Z h':=
 ⟨g.h,g.w.trans f.w,g.σ.trans f.σ,g.hs,Move.trans f.ext g.ext⟩
theorem qcf{B:Base}:∀(l:List Nat) {X:Ctx} (_:HSim B X),∃X',Frozen B X X' (q98 X.h l)
 | [],X,hs=>⟨X,rfl,rfl,rfl,hs,Ext.refl X⟩
 | b::l,X,hs=>by
  simp only[q98]
  split
  ·rename_i cs hb
   obtain⟨d1,d2⟩:=q6Y hs (h':=X.h.set b (.cells (AV.lendL X.h cs))) (by simp) (fun b' k' hk=>by
    by_cases hbb:b'=b
    ·subst hbb
     rw[List.getElem?_set_self (qk hb)] at hk
     exact⟨.cells cs,hb,.inr (.inr (.inl ⟨cs,_,rfl,(Option.some.inj hk).symm,fun vs hv=>q7n hs hv⟩))⟩
    ·rw[List.getElem?_set_ne (Ne.symm hbb)] at hk
     exact⟨k',hk,.inr (.inl rfl)⟩) (fun b' hb' k' hk=>by
    by_cases hbb:b'=b
    ·subst hbb
     rw[List.getElem?_set_self (qk hb)] at hk
     rw[←Option.some.inj hk];rfl
    ·rw[List.getElem?_set_ne (Ne.symm hbb)] at hk
     obtain⟨cs',h1,h2⟩:=hs.impc b' hb'
     rw[h1] at hk
     rw[←Option.some.inj hk];exact h2)
   obtain⟨X2,f⟩:=qcf l d1
   have f0:Frozen B X { X with h:=X.h.set b (.cells (AV.lendL X.h cs)) } (X.h.set b (.cells (AV.lendL X.h cs))):=⟨rfl,rfl,rfl,d1,d2⟩
   exact⟨X2,f0.trans f⟩
  ·exact qcf l hs
theorem qkc{B:Base}(args:List AV){X:Ctx}(hs:HSim B X):∃X',Frozen B X X' (kO X.h args):=by
 unfold kO
 obtain⟨X1,f1⟩:=q3m (args.flatMap wK) hs
 simp only
 rw[←f1.h]
 obtain⟨X2,f2⟩:=q3m (q4y X1.h (AV.menL (AV.lendL X1.h args))) f1.hs
 rw[←f2.h]
 obtain⟨X3,f3⟩:=qcf (AV.menL (AV.lendL X1.h args)) f2.hs
 exact⟨X3,(f1.trans f2).trans f3⟩
mutual
theorem AV.ren_of_men(f:Nat→Option Nat):∀av:AV,av.men=[]→av.ren f=av
 | .undef,_|.skip,_|.yld,_|.blit _,_|.bool _,_|.ilit _ _,_|.int _ _,_|.str _,_|.nilp,_|.eptr _ _ _ _,_|.mptr _ _ _ _ _,_|.nils,_|.imm _ _,_|.full _ _,_|.nilf,_=>rfl
 | .ptr _ _,h=>by simp[AV.men] at h
 | .vptr _ _ _,h=>by simp[AV.men] at h
 | .vsub _ _,h=>by simp[AV.men] at h
 | .aptr _ _ _,h=>by simp[AV.men] at h
 | .asub _ _ _ _ _,h=>by simp[AV.men] at h
 | .bagg cs k n l,h=>by simp only[AV.men] at h;simp only[AV.ren,AV.renL_of_men f cs h]
 | .vec _,h=>by simp[AV.men] at h
 | .fn g a b,h=>by
  simp only[AV.men,List.append_eq_nil_iff] at h
  simp only[AV.ren,AV.renL_of_men f a h.1,AV.renL_of_men f b h.2]
 | .agg cs,h=>by simp only[AV.men] at h;simp only[AV.ren,AV.renL_of_men f cs h]
 | .tuple cs,h=>by simp only[AV.men] at h;simp only[AV.ren,AV.renL_of_men f cs h]
theorem AV.renL_of_men(f:Nat→Option Nat):∀l:List AV,AV.menL l=[]→AV.renL f l=l
 | [],_=>rfl
 | a::l,h=>by
  simp only[AV.menL,List.append_eq_nil_iff] at h
  simp only[AV.renL,AV.ren_of_men f a h.1,AV.renL_of_men f l h.2]
end
theorem RepL.noMen{X X':Ctx}{azz:List AV}{vs:List Value}(h:RepL X azz vs)(hm:AV.menL azz=[])(hM:∀n,X.M n→X'.M n)(hw:∀a:Addr,X.M a.block→X'.w.cell? a=X.w.cell? a)(hy:X'.y=X.y:=by rfl):RepL X' azz vs:=by
 have:=h.ren (X':=X') (f:=fun _=>none) ⟨hM,hw,(fun _ _ _ h=>by cases h),hy⟩
 rwa [AV.renL_of_men _ _ hm] at this
theorem Rep.noMen{X X':Ctx}{a:AV}{v:Value}(h:Rep X a v)(hm:a.men=[])(hM:∀n,X.M n→X'.M n)(hw:∀a:Addr,X.M a.block→X'.w.cell? a=X.w.cell? a)(hy:X'.y=X.y:=by rfl):Rep X' a v:=by
 have:=h.ren (X':=X') (f:=fun _=>none) ⟨hM,hw,(fun _ _ _ h=>by cases h),hy⟩
 rwa [AV.ren_of_men _ _ hm] at this
theorem qbL:∀l:List Nat,(qbC l).Nodup
 | []=>List.nodup_nil
 | a::l=>by
  simp only[qbC]
  split
  ·exact qbL l
  ·rename_i h
   exact List.nodup_cons.2 ⟨by simpa using h,qbL l⟩
theorem qoz{l:List Nat}{b k:Nat}(h:qro l b=some k):l[k]?=some b:=by
 simp only[qro] at h
 split at h
 ·rename_i hlt
  cases h
  rw[List.getElem?_eq_getElem hlt]
  have:=List.findIdx_getElem (p:=(·==b)) (w:=hlt)
  simpa using this
 ·cases h
theorem qdf:∀{fp:List Nat} {h:List Blk} {hin:List Blk},q0U h fp=some hin→hin.length=fp.length ∧
  ∀(k:Nat) (b:Nat),fp[k]?=some b→∃cs,h[b]?=some cs∧hin[k]?=some cs∧cs.plain=true
 | [],h,hin,e=>by simp[q0U] at e;subst e;exact⟨rfl,fun k b hk=>by simp at hk⟩
 | b::l,h,hin,e=>by
  simp only[q0U] at e
  split at e
  ·rename_i cs r h1 h2
   split at e
   ·rename_i hm
    cases e
    obtain⟨g1,g2⟩:=qdf h2
    refine⟨by simp[g1],fun k b' hk=>?_⟩
    cases k with
    | zero=>simp at hk;subst hk;exact⟨cs,h1,by simp,hm⟩
    | succ k=>
     obtain⟨cs',q1,q2,q3⟩:=g2 k b' (by simpa using hk)
     exact⟨cs',q1,by simpa using q2,q3⟩
   ·cases e
  ·cases e
theorem qf0:∀{fp:List Nat} {h hout h2:List Blk},vD h fp hout=some h2→fp.Nodup→(∀b∈fp,b<h.length)→h2.length=h.length∧fp.length≤hout.length ∧
  (∀b,b∉fp→h2[b]?=h[b]?)∧∀(k:Nat) (b:Nat),fp[k]?=some b→∃cs,hout[k]?=some cs∧h2[b]?=some cs∧cs.plain=true
 | [],h,hout,h2,e,_,_=>by
  simp[vD] at e;subst e
  exact⟨rfl,by simp,fun _ _=>rfl,fun k b hk=>by simp at hk⟩
 | b::l,h,hout,h2,e,hn,hl=>by
  cases hout with
  | nil=>simp[vD] at e
  | cons cs r=>
    simp only[vD] at e
    by_cases hm:cs.plain=true
    ·rw[if_pos hm] at e
     cases hp:vD h l r with
     | none=>rw[hp] at e;cases e
     | some h'=>
      rw[hp] at e
      simp only[Option.map_some,Option.some.injEq] at e
      subst e
      obtain⟨hn1,hn2⟩:=List.nodup_cons.1 hn
      obtain⟨g1,g2,g3,g4⟩:=qf0 hp hn2 (fun x hx=>hl x (List.mem_cons_of_mem _ hx))
      have hb:=hl b List.mem_cons_self
      refine⟨by simp[g1],by simp;omega,fun x hx=>?_,fun k b' hk=>?_⟩
      ·have:x≠b:=fun e=>hx (e▸List.mem_cons_self)
       rw[List.getElem?_set_ne (Ne.symm this)]
       exact g3 x fun h=>hx (List.mem_cons_of_mem _ h)
      ·cases k with
       | zero=>simp at hk;subst hk;exact⟨cs,by simp,by rw[List.getElem?_set_self (by omega)],hm⟩
       | succ k=>
        have hk':l[k]?=some b':=by simpa using hk
        obtain⟨cs',q1,q2,q3⟩:=g4 k b' hk'
        have:b'≠b:=fun e=>hn1 (e▸List.mem_of_getElem? hk')
        exact⟨cs',by simpa using q1,by rw[List.getElem?_set_ne (Ne.symm this)];exact q2,q3⟩
    ·rw[if_neg hm] at e;cases e
theorem qpq{X:Ctx}{b:Nat}{k:Blk}(hp:k.plain=true)(h:vM X b k):∃n,X.σ b=some n:=by
 cases k with
 | cells cs=>obtain⟨n,_,_,e,_⟩:=h;exact⟨n,e⟩
 | big cs k N l=>obtain⟨n,_,_,_,e,_⟩:=h;exact⟨n,e⟩
 | _=>cases hp
theorem qiQ{X X':Ctx}{b b':Nat}{k:Blk}(hp:k.plain=true)(h:vM X b k)(hσ:X'.σ b'=X.σ b)(hw:∀n,X.σ b=some n→X'.w.heap[n]?=X.w.heap[n]?)
  (hM:∀n,X.M n→X'.M n) (hc:∀a:Addr,X.M a.block→X'.w.cell? a=X.w.cell? a) (hy:X'.y=X.y):vM X' b' k:=by
 cases k with
 | cells cs=>
  obtain⟨n,c,T,e1,e2,e3⟩:=h
  exact⟨n,c,T,by rw[hσ];exact e1,by rw[hw n e1];exact e2,e3.noMen (by simpa[Blk.plain] using hp) hM hc hy⟩
 | big cs k N l=>
  obtain⟨n,c,T,vs,e1,e2,e3,e4,e5⟩:=h
  exact⟨n,c,T,vs,by rw[hσ];exact e1,by rw[hw n e1];exact e2,e3.noMen (by simpa[Blk.plain] using hp) hM hc hy,e4,e5⟩
 | _=>cases hp
theorem qc8{k:Blk}(hp:k.plain=true):k.solid=true∧k.mut=true∧(∀e sh l,k≠.vec e sh l∧k≠.frz e sh l):=by
 cases k<;>first|(cases hp;done)|exact⟨rfl,rfl,fun _ _ _=>⟨(nomatch ·),(nomatch ·)⟩⟩
theorem q2X{E:Env}{P:Program}{f:FuncId}{G:u4}(hG:zk P E.glob f G){args:List AV}{st:St}{r:AV×St}{B:Base}{X:Ctx}{a:Act}{vargs:List Value}
  (hsim:Sim E B X st a) (hargs:RepL X args vargs) (h:(ub G args st).run=some r) :
  Calls P f vargs.toArray X.w fun e w'=>∃v X',e=.returned v∧X'.w=w'∧Rep X' r.1 v∧Sim E B X' r.2 a:=by
 unfold ub at h
 obtain⟨X1,fz⟩:=qkc args hsim.hs
 rw[←hsim.h] at h
 rw[←fz.h] at h
 simp only at h
 have hs1:=fz.hs
 generalize hfp:qbC (AV.menL (AV.lendL X1.h args))=fp at h
 have hnd:fp.Nodup:=hfp▸qbL _
 cases htk:q0U X1.h fp with
 | none=>rw[htk] at h;cases h
 | some hin=>
  rw[htk] at h
  obtain⟨r0,h1,h2⟩:=bind_some h
  cases hput:vD X1.h fp r0.2 with
  | none=>rw[hput] at h2;cases h2
  | some hh2=>
   rw[hput] at h2;cases h2
   obtain⟨k1,k2⟩:=qdf htk
   have hfpl:∀b∈fp,b<X1.h.length:=by
    intro b hb
    obtain⟨k,hk⟩:=List.getElem?_of_mem hb
    obtain⟨cs,q1,_⟩:=k2 k b hk
    exact qk q1
   obtain⟨p1,p2,p3,p4⟩:=qf0 hput hnd hfpl
   have hcell:∀(k b:Nat),fp[k]?=some b→∃cs n,X1.h[b]?=some cs∧hin[k]?=some cs∧cs.plain=true∧X1.σ b=some n∧X1.own b n:=by
    intro k b hk
    obtain⟨cs,q1,q2,q3⟩:=k2 k b hk
    obtain⟨n,e1⟩:=qpq q3 (hs1.blk b _ q1)
    exact⟨cs,n,q1,q2,q3,e1,e1,_,q1,(qc8 q3).2.1⟩
   let X0:Ctx:={ σ:=fun k=>(fp[k]?).bind X1.σ,h:=hin,w:=X1.w,M:=X1.M,y:=X1.y }
   let B0:Base:={ w0:=X1.w,imps:=(List.range hin.length).map X0.σ,M0:=X1.M,fs:=[] }
   have hget0:∀(k:Nat) (blk:Blk),X0.h[k]?=some blk→∃(b:Nat) (cs:Blk) (n:Nat),fp[k]?=some b∧blk=cs∧X1.h[b]?=some cs∧cs.plain=true∧X1.σ b=some n∧X1.own b n:=by
    intro k blk hk
    have hlt:k<fp.length:=by rw[←k1];exact qk hk
    have hfk:fp[k]?=some fp[k]:=List.getElem?_eq_getElem hlt
    obtain⟨cs,n,q1,q2,q3,q4,q5⟩:=hcell k _ hfk
    have:blk=cs:=by
     have hk':hin[k]?=some blk:=hk
     rw[q2] at hk';exact(Option.some.inj hk').symm
    exact⟨fp[k],cs,n,hfk,this,q1,q3,q4,q5⟩
   have hσ0:∀(k b:Nat),fp[k]?=some b→X0.σ k=X1.σ b:=by intro k b hk;show (fp[k]?).bind X1.σ=_;rw[hk];rfl
   have hown0:∀(k n:Nat),X0.own k n→∃b:Nat,fp[k]?=some b∧X1.own b n:=by
    intro k n ⟨e1,blk,e2,e3⟩
    obtain⟨b,cs,n',q1,q2,q3,q4,q5,q6⟩:=hget0 k blk e2
    rw[hσ0 k b q1,q5] at e1;cases e1
    exact⟨b,q1,q6⟩
   have hs0:HSim B0 X0:=by
    constructor
    ·intro k blk hk
     obtain⟨b,cs,n,q1,q2,q3,q4,q5,q6⟩:=hget0 k blk hk
     subst q2
     exact qiQ q4 (hs1.blk b _ q3) (hσ0 k b q1) (fun _ _=>rfl) (fun _ h=>h) (fun _ _=>rfl) rfl
    ·intro k k' n hk hk'
     obtain⟨b,q1,q2⟩:=hown0 k n hk
     obtain⟨b',q3,q4⟩:=hown0 k' n hk'
     have:=hs1.inj b b' n q2 q4
     subst this
     have hlt:=qk q1
     exact(List.getElem?_inj hlt hnd).1 (q1.trans q3.symm)
    ·intro k n hk
     obtain⟨b,_,q2⟩:=hown0 k n hk
     exact hs1.notM b n q2
    ·exact hs1.ltM
    ·exact fun n hn=>hn
    ·exact fun n hn=>.inl hn
    ·rfl
    ·rfl
    ·rfl
    ·exact Nat.le_refl _
    ·intro _ _ _;rfl
    ·intro k hk
     have hk':k<hin.length:=by simpa[B0] using hk
     simp[B0,hk']
    ·intro k hk
     have hk':k<hin.length:=by simpa[B0] using hk
     obtain⟨b,cs,n,q1,q2,q3,q4,q5,q6⟩:=hget0 k _ (List.getElem?_eq_getElem hk')
     exact⟨cs,by rw[←q2];exact List.getElem?_eq_getElem hk',(qc8 q4).1⟩
    ·intro k n hk hk2
     obtain⟨b,q1,_⟩:=hown0 k n hk
     have:k<hin.length:=by rw[k1];exact qk q1
     simp[B0] at hk2;omega
    ·intro p hp;cases hp
   have hent:Entry B0 X0:=⟨rfl,rfl,fun _ h=>h⟩
   have hgl:q7y E.glob X0:=by
    intro x hx
    obtain⟨⟨sh,l,i,off,he⟩,hr⟩:=hsim.glob x hx
    refine⟨⟨sh,l,i,off,he⟩,hr.move fz.ext.M fz.ext.w ?_⟩
    have h3:=hr.1.ext fz.ext
    rw[he] at h3 ⊢
    exact h3.noMen rfl (fun _ h=>h) (fun _ _=>rfl)
   have hmove:Move0 X1 X0 (qro fp):=by
    refine⟨fun _ h=>h,fun _ _=>rfl,fun b k hb hk=>?_,rfl⟩
    have hfk:=qoz hk
    have hnv:∀sh m,¬X0.isVec k sh m:=by
     intro sh m ⟨e,l,q1,_⟩
     rcases q1 with q1|q1<;>obtain⟨_,_,_,_,q2,_,q4,_⟩:=hget0 k _ q1<;>subst q2<;>cases q4
    exact⟨by show k<hin.length;rw[k1];exact qk hfk,hσ0 k b hfk,fun sh m hv=>absurd hv (hnv sh m),fun sh m hv=>absurd hv (hnv sh m)⟩
   have hrep0:RepL X0 (AV.renL (qro fp) (AV.lendL X1.h args)) vargs:=(q7n hs1 (hargs.ext fz.ext)).ren hmove
   have hcalls:=hG.2 B0 X0 _ vargs r0 hs0 hent hgl hrep0 h1
   have hw1:X0.w=X.w:=fz.w
   rw[hw1] at hcalls
   refine hcalls.mono fun e w' ⟨v,X0',e1,e2,e3,e4,e5,e6⟩=>?_
   have hB0:B0.imps.length=fp.length:=by simp[B0,k1]
   have hσ0':∀(k b:Nat),fp[k]?=some b→X0'.σ k=X1.σ b:=by
    intro k b hk
    have hlt:=qk hk
    have:=e5.imps k (by rw[hB0];exact hlt)
    rw[this,←hσ0 k b hk]
    have hk':k<hin.length:=by omega
    simp[B0,hk']
   let X':Ctx:={ σ:=fun b=>if b<X1.h.length then X1.σ b else X0'.σ (fp.length+(b-X1.h.length)),h:=hh2++(r0.2.drop fp.length).map (Blk.ren (qgu fp X1.h.length)),w:=X0'.w,M:=X0'.M,kept:=X1.kept,y:=X1.y }
   have hM01:∀n,X1.M n→X0'.M n:=fun n hn=>e5.M0 n hn
   have himp:∀n,some n∈B0.imps→∃(k b:Nat),fp[k]?=some b∧X1.own b n:=by
    intro n hn
    obtain⟨k,hk,hk2⟩:=List.mem_map.1 hn
    have hk':k<fp.length:=by rw[←k1];simpa using hk
    have hfk:fp[k]?=some fp[k]:=List.getElem?_eq_getElem hk'
    obtain⟨cs,n',q1,q2,q3,q4,q5⟩:=hcell k _ hfk
    rw[hσ0 k _ hfk,q4] at hk2;cases hk2
    exact⟨k,_,hfk,q5⟩
   have hkeep:∀n,n<X1.w.heap.size→(∀(k b:Nat),fp[k]?=some b→¬X1.own b n)→X0'.w.heap[n]?=X1.w.heap[n]?:=by
    intro n hn hno
    refine e5.frame n hn fun hm=>?_
    obtain⟨k,b,q1,q2⟩:=himp n hm
    exact hno k b q1 q2
   have hh2l:hh2.length=X1.h.length:=p1
   have hget':∀(b:Nat) (blk:Blk),X'.h[b]?=some blk →
     (b<X1.h.length∧b∉fp∧X1.h[b]?=some blk)∨(b<X1.h.length∧∃(k:Nat) (cs:Blk),fp[k]?=some b∧blk=cs∧X0'.h[k]?=some cs∧cs.plain=true) ∨
     (X1.h.length≤b∧∃k0,X0'.h[fp.length+(b-X1.h.length)]?=some k0∧blk=k0.ren (qgu fp X1.h.length)):=by
    intro b blk hb
    have hb':(hh2++(r0.2.drop fp.length).map (Blk.ren (qgu fp X1.h.length)))[b]?=some blk:=hb
    rcases Nat.lt_or_ge b X1.h.length with hlt|hge
    ·rw[List.getElem?_append_left (by omega)] at hb'
     by_cases hbf:b∈fp
     ·obtain⟨k,hk⟩:=List.getElem?_of_mem hbf
      obtain⟨cs,q1,q2,q3⟩:=p4 k b hk
      rw[q2] at hb';cases hb'
      exact .inr (.inl ⟨hlt,k,blk,hk,rfl,by rw[e4];exact q1,q3⟩)
     ·rw[p3 b hbf] at hb'
      exact .inl ⟨hlt,hbf,hb'⟩
    ·rw[List.getElem?_append_right (by omega),List.getElem?_map,List.getElem?_drop] at hb'
     refine .inr (.inr ⟨hge,?_⟩)
     rw[hh2l] at hb'
     cases hq:r0.2[fp.length+(b-X1.h.length)]? with
     | none=>rw[hq] at hb';cases hb'
     | some k0=>
      rw[hq] at hb'
      simp only[Option.map_some,Option.some.injEq] at hb'
      exact⟨k0,by rw[e4];exact hq,hb'.symm⟩
   have hσlt:∀b,b<X1.h.length→X'.σ b=X1.σ b:=fun b hb=>by show (if b<X1.h.length then _ else _)=_;rw[if_pos hb]
   have hσge:∀b,X1.h.length≤b→X'.σ b=X0'.σ (fp.length+(b-X1.h.length)):=fun b hb=>by show (if b<X1.h.length then _ else _)=_;rw[if_neg (by omega)]
   have hnotin:∀b n,b∉fp→X1.own b n→∀(k b':Nat),fp[k]?=some b'→¬X1.own b' n:=by
    intro b n hb ho k b' hk ho'
    exact hb (hs1.inj b b' n ho ho'▸List.mem_of_getElem? hk)
   have hMnot:∀n,X1.M n→∀(k b':Nat),fp[k]?=some b'→¬X1.own b' n:=fun n hn k b' _ ho=>hs1.notM b' n ho hn
   have hsz:=e5.size
   have hback:Move0 X0' X' (qgu fp X1.h.length):=by
    refine⟨fun _ h=>h,fun _ _=>rfl,fun k b hk hf=>?_,e6.symm⟩
    simp only[qgu] at hf
    by_cases hlt:k<fp.length
    ·rw[if_pos hlt] at hf
     have hbl:=hfpl b (List.mem_of_getElem? hf)
     have hnv:∀sh m,¬X'.isVec b sh m:=by
      intro sh m ⟨e,l,q1,_⟩
      rcases q1 with q1|q1<;>rcases hget' b _ q1 with⟨_,h3,_⟩|⟨_,_,_,_,h3,_,h3p⟩|⟨h3,_⟩ <;>
       first|omega|exact absurd (List.mem_of_getElem? hf) h3|(subst h3;cases h3p)
     exact⟨by show b<List.length (_++_);simp;omega,by rw[hσlt b hbl,hσ0' k b hf],fun sh m hv=>absurd hv (hnv sh m),fun sh m hv=>absurd hv (hnv sh m)⟩
    ·rw[if_neg hlt] at hf;cases hf
     have hk2:k<r0.2.length:=by rw[←e4];exact hk
     have hidx:fp.length+(X1.h.length+(k-fp.length)-X1.h.length)=k:=by omega
     refine⟨?_,?_,fun sh m ⟨e,l,q1,q2⟩=>?_,fun sh m _ n hn c T fr hc=>⟨c,T,fr,hc,rfl⟩⟩
     ·show _<List.length (_++_);simp;omega
     ·rw[hσge _ (by omega),hidx]
     ·rcases q1 with q1|q1<;>rcases hget' _ _ q1 with⟨h3,_⟩|⟨h3,_⟩|⟨_,k0,h3,h4⟩<;>first|omega|skip
      ·rw[hidx] at h3
       rcases qeo (.inl h4) with rfl|rfl
       ·exact⟨e,l,.inl h3,q2⟩
       ·exact⟨e,l,.inr h3,q2⟩
      ·rw[hidx] at h3
       rcases qeo (.inr h4) with rfl|rfl
       ·exact⟨e,l,.inl h3,q2⟩
       ·exact⟨e,l,.inr h3,q2⟩
   have hext:Ext X1 X':=by
    refine Move.of hM01 (fun ad had=>World.cell?_of_block (hkeep _ (hs1.ltM _ had) (hMnot _ had))) (fun b b' hb hf=>?_)
    cases hf
    have hvec:∀sh m,X'.isVec b sh m→b∉fp∧X1.isVec b sh m:=by
     intro sh m ⟨e,l,q1,q2⟩
     rcases q1 with q1|q1<;>rcases hget' b _ q1 with⟨_,h3,h4⟩|⟨_,_,_,_,h3,_,h3p⟩|⟨h3,_⟩<;>first|omega|(subst h3;cases h3p;done)|skip
     ·exact⟨h3,e,l,.inl h4,q2⟩
     ·exact⟨h3,e,l,.inr h4,q2⟩
    refine⟨by show _<List.length (_++_);simp;omega,hσlt b hb,fun sh m hv=>(hvec sh m hv).2,fun sh m hv n hn c T fr hc=>⟨c,T,fr,?_,rfl⟩⟩
    obtain⟨h3,e,l,h4,_⟩:=hvec sh m hv
    refine(hkeep n (Array.getElem?_eq_some_iff.1 hc).1 ?_).trans hc
    rcases h4 with h4|h4
    ·exact hnotin b n h3 ⟨hn,_,h4,rfl⟩
    ·rcases hs1.blk b _ h4 with⟨h5,_⟩|⟨n',c',h5,_,_,h6⟩
     ·rw[hn] at h5;cases h5
     ·rw[hn] at h5;cases h5;exact hMnot n h6
   have hown':∀(b n:Nat),X'.own b n→(b<X1.h.length∧X1.own b n)∨(X1.h.length≤b∧X0'.own (fp.length+(b-X1.h.length)) n):=by
    intro b n ⟨q1,blk,q2,q3⟩
    rcases hget' b blk q2 with⟨h3,_,h4⟩|⟨h3,k,cs,h4,h5,_,_⟩|⟨h3,k0,h4,h5⟩
    ·exact .inl ⟨h3,by rw[←hσlt b h3];exact q1,blk,h4,q3⟩
    ·obtain⟨cs',n',w1,_,_,w4,w5⟩:=hcell k b h4
     rw[hσlt b h3,w4] at q1;cases q1
     exact .inl ⟨h3,w5⟩
    ·subst h5
     exact .inr ⟨h3,by rw[←hσge b h3];exact q1,k0,h4,by rwa [Blk.mut_ren] at q3⟩
   have hnewge:∀k n,fp.length≤k→X0'.own k n→X1.w.heap.size≤n:=fun k n hk ho=>e5.fresh k n ho (by rw[hB0];exact hk)
   have hs':HSim B X':=by
    constructor
    ·intro b blk hb
     rcases hget' b blk hb with⟨h3,h4,h5⟩|⟨h3,k,cs,h4,h5,h6,h7⟩|⟨h3,k0,h4,h5⟩
     ·by_cases hd:blk=.dead
      ·subst hd;trivial
      ·refine vM.ext hext (hσlt b h3) (fun n hn=>hkeep n (hs1.lt h5 hd hn) ?_) (hs1.blk b blk h5)
       by_cases hm1:blk.mut=true
       ·exact hnotin b n h4 ⟨hn,blk,h5,hm1⟩
       ·cases blk with
        | cells=>exact absurd rfl hm1
        | big=>exact absurd rfl hm1
        | vec=>exact absurd rfl hm1
        | dead=>exact absurd rfl hd
        | frz e sh l=>
         rcases hs1.blk b _ h5 with⟨h6,_⟩|⟨n',c',h6,_,_,h7⟩
         ·rw[hn] at h6;cases h6
         ·rw[hn] at h6;cases h6;exact hMnot n h7
     ·subst h5
      exact qiQ h7 (e5.blk k _ h6) (by rw[hσlt b h3,←hσ0' k b h4]) (fun _ _=>rfl) (fun _ h=>h) (fun _ _=>rfl) e6.symm
     ·subst h5
      exact vM.move hback (hσge b h3) (fun _ _=>rfl) (e5.blk _ k0 h4)
    ·intro b b' n h3 h4
     rcases hown' b n h3 with⟨w1,w2⟩|⟨w1,w2⟩<;>rcases hown' b' n h4 with⟨w3,w4⟩|⟨w3,w4⟩
     ·exact hs1.inj b b' n w2 w4
     ·have:=hnewge _ n (by omega) w4
      have:=Ctx.own.lt hs1 w2
      omega
     ·have:=hnewge _ n (by omega) w2
      have:=Ctx.own.lt hs1 w4
      omega
     ·have:=e5.inj _ _ n w2 w4;omega
    ·intro b n h3 h4
     rcases hown' b n h3 with⟨w1,w2⟩|⟨w1,w2⟩
     ·rcases e5.newM n h4 with h5|h5
      ·exact hs1.notM b n w2 h5
      ·have h6:X1.w.heap.size≤n:=h5
       have:=Ctx.own.lt hs1 w2
       omega
     ·exact e5.notM _ n w2 h4
    ·exact e5.ltM
    ·exact fun n hn=>hM01 n (hs1.M0 n hn)
    ·intro n hn
     rcases e5.newM n hn with h5|h5
     ·exact hs1.newM n h5
     ·have h6:X1.w.heap.size≤n:=h5
      have:=hs1.size
      exact .inr (by omega)
    ·exact e5.os.trans hs1.os
    ·exact e5.tape.trans hs1.tape
    ·exact e5.output.trans hs1.output
    ·have h6:X1.w.heap.size≤X0'.w.heap.size:=hsz
     have:=hs1.size
     show B.w0.heap.size≤X0'.w.heap.size
     omega
    ·intro n hn hni
     have h6:=hs1.size
     have:X0'.w.heap[n]?=X1.w.heap[n]?:=by
      refine hkeep n (by omega) fun k b hk ho=>?_
      rcases Nat.lt_or_ge b B.imps.length with hlt|hge
      ·have h7:=hs1.imps b hlt
       rw[ho.1,List.getElem?_eq_getElem hlt] at h7
       simp at h7
       exact hni (h7▸List.getElem_mem hlt)
      ·have:=hs1.fresh b n ho hge;omega
     exact this.trans (hs1.frame n hn hni)
    ·intro b hb
     have:=hs1.hlen
     rw[hσlt b (by omega)];exact hs1.imps b hb
    ·intro b hb
     have:=hs1.hlen
     obtain⟨cs,h3,h3s⟩:=hs1.impc b hb
     by_cases hbf:b∈fp
     ·obtain⟨k,hk⟩:=List.getElem?_of_mem hbf
      obtain⟨cs',q1,q2,q3⟩:=p4 k b hk
      exact⟨cs',by show (_++_)[b]?=_;rw[List.getElem?_append_left (by omega)];exact q2,(qc8 q3).1⟩
     ·exact⟨cs,by show (_++_)[b]?=_;rw[List.getElem?_append_left (by omega),p3 b hbf];exact h3,h3s⟩
    ·intro b n h3 h4
     rcases hown' b n h3 with⟨w1,w2⟩|⟨w1,w2⟩
     ·exact hs1.fresh b n w2 h4
     ·have:=hnewge _ n (by omega) w2
      have:=hs1.size
      omega
    ·intro p hp
     obtain⟨q1,q2,q3⟩:=hs1.kept p hp
     refine⟨(hkeep p.1 (Array.getElem?_eq_some_iff.1 q1).1 fun k b _ ho=>?_).trans q1,q2,q3⟩
     obtain⟨c,T,fr,hc⟩:=ho.cells hs1
     rw[hc] at q1
     exact q2 _ _ _ (Option.some.inj q1).symm
   exact⟨v,X',e1,e2,e3.ren hback,(hsim.ext fz.ext hs1).ext hext hs'⟩
end Go.Eng

namespace Go.Eng
def jC(h:List Blk):Tree Res→Prop
 | .leaf r=>r.2=(h,none)
 | .br _ t e=>jC h t∧jC h e
 | .fail=>True
theorem jC.run{h:List Blk}{t:Tree Res}{r:Res}(ht:jC h t)(hr:t.run=some r):r.2=(h,none):=by
 induction t with
 | leaf x=>cases hr;exact ht
 | br b t e iht ihe=>cases b<;>simp only[Tree.run] at hr<;>first|exact iht ht.1 hr|exact ihe ht.2 hr
 | fail=>cases hr
theorem qdk(h:List Blk)(k:IntKind)(f:Int→Int→Int)(l:Bool)(x y:Int):jC h (q2b h k f l x y):=by unfold q2b;split<;>rfl
theorem qmy(h:List Blk)(f:Int→Int→Bool)(l:Bool)(x y:Int):jC h (qoU h f l x y):=by unfold qoU;split<;>rfl
theorem qpM(E:Env)(h:List Blk)(t:TypeId)(p:AV):jC h (q8R E h t p):=by
 unfold q8R
 dsimp only
 repeat' (first|exact rfl|exact trivial|split)
theorem qma(E:Env)(h:List Blk)(t:TypeId)(ps:List (Nat×AV)):jC h (q9D E h t ps):=by
 unfold q9D
 repeat' (first|exact rfl|exact trivial|split)
theorem qmR(E:Env)(h:List Blk)(t:TypeId)(p:AV):jC h (q6j E h t p):=by
 unfold q6j qqb
 repeat' (first|exact qpM _ _ _ _|exact rfl|exact trivial|exact⟨rfl,trivial⟩|split)
theorem qlg(E:Env)(h:List Blk)(t:TypeId)(ps:List (Nat×AV)):jC h (q63 E h t ps):=by
 unfold q63
 repeat' (first|exact qma _ _ _ _|exact rfl|exact trivial|split)
theorem qg0(E:Env)(h:List Blk)(s:TypeId)(x:AV)(f:Nat):jC h (ko E h s x f):=by
 unfold ko
 repeat' (first|exact rfl|exact trivial|split)
theorem qiF(E:Env)(h:List Blk)(t:TypeId)(cs:List AV)(o:Nat):jC h (qbd E h t cs o):=by
 unfold qbd
 repeat' (first|exact rfl|exact trivial|split)
theorem qmJ(E:Env)(h:List Blk)(s:TypeId)(x:AV)(f:Nat):jC h (qa2 E h s x f):=by
 unfold qa2
 repeat' (first|exact rfl|exact trivial|exact qiF _ _ _ _ _|split)
theorem qd3(h:List Blk)(i:Int)(f:Nat→AV):∀n,jC h (q93 h i f n)
 | 0=>trivial
 | n+1=>⟨rfl,qd3 h i f n⟩
theorem qhc(E:Env)(h:List Blk)(t:TypeId)(x i:AV):jC h (ji E h t x i):=by
 unfold ji
 repeat' (first|exact qd3 _ _ _ _|exact rfl|exact trivial|exact⟨rfl,trivial⟩|split)
theorem qfb(E:Env)(h:List Blk)(t:TypeId)(x i:AV):jC h (yX E h t x i):=by
 unfold yX
 repeat' (first|exact qhc _ _ _ _ _|exact rfl|exact trivial|exact⟨rfl,trivial⟩|split)
theorem qmD(E:Env)(h:List Blk)(t:TypeId)(x i:AV):jC h (q9K E h t x i):=by
 unfold q9K
 repeat' (first|exact rfl|exact trivial|exact⟨rfl,trivial⟩|exact qiF _ _ _ _ _|split)
theorem qrP(d:TD)(h:List Blk)(op:BinOp)(x y:AV):jC h (qld d h op x y):=by
 unfold qld
 repeat' (first|exact rfl|exact trivial|exact qdk _ _ _ _ _ _|exact qmy _ _ _ _ _|exact⟨rfl,trivial⟩|exact⟨qdk _ _ _ _ _ _,trivial⟩|split)
theorem qmC(E:Env)(h:List Blk)(op:BinOp)(t:TypeId)(x y:AV):jC h (qc9 E h op t x y):=by
 unfold qc9
 split
 ·unfold qgH
  repeat' (first|exact rfl|exact trivial|split)
 ·exact qrP _ _ _ _ _
theorem qsy(h:List Blk)(op:UnOp)(x:AV):jC h (qtQ h op x):=by
 unfold qtQ
 repeat' (first|exact rfl|exact trivial|split)
theorem qpf(E:Env)(h:List Blk)(s d:TypeId)(x:AV):jC h (qf3 E h s d x):=by
 unfold qf3
 repeat' (first|exact rfl|exact trivial|split)
theorem qnc(E:Env)(h:List Blk)(s d:TypeId)(x:AV):jC h (q9E E h s d x):=by
 unfold q9E
 split
 ·split
  ·unfold qgf
   repeat' (first|exact rfl|exact trivial|split)
  ·trivial
 ·exact qpf _ _ _ _ _
theorem qrR(E:Env)(h:List Blk)(ts:List TypeId)(azz:List AV):jC h (qgx E h ts azz):=by
 unfold qgx
 split
 ·unfold qq6
  repeat' (first|exact rfl|exact trivial|split)
 ·trivial
theorem qnG(f:Int→Int→Int)(h:List Blk)(azz:List AV):jC h (qjP f h azz):=by
 unfold qjP
 repeat' (first|exact rfl|exact trivial|split)
theorem qmP{E:Env}{t:TypeId}(ht:(E.ty t).d=.str)(h:List Blk)(x:AV)(lo hi mx:Option AV):jC h (q6z E h t x lo hi mx):=by
 unfold q6z
 rw[ht]
 cases mx with
 | some _=>trivial
 | none=>
  cases x<;>first|trivial|skip
  simp only
  split
  ·exact⟨⟨rfl,trivial⟩,trivial⟩
  ·trivial
theorem qlz{E:Env}{t:TypeId}(ht:(E.ty t).d=.str)(h:List Blk)(x:AV)(lo hi mx:Option AV):jC h (jm E h t x lo hi mx):=by
 unfold jm
 rw[ht]
 exact qmP ht _ _ _ _ _
theorem qlp{E:Env}{t:TypeId}{n:Nat}{e:TypeId}{es:Nat}(ht:(E.ty t).d=.array n e es)(h:List Blk)(x:AV)(lo hi mx:Option AV):jC h (jm E h t x lo hi mx):=by
 unfold jm
 rw[ht]
 simp only
 unfold qsu
 repeat' (first|exact rfl|exact trivial|exact⟨⟨rfl,trivial⟩,trivial⟩|split)
theorem qkZ{E:Env}{t:TypeId}{e:TypeId}{es:Nat}(ht:(E.ty t).d=.slice e es)(h:List Blk)(x:AV)(lo hi:Option AV){mx:Option AV}(hm:mx.isSome=true):jC h (jm E h t x lo hi mx):=by
 unfold jm
 rw[ht]
 simp only
 unfold q6z
 cases mx with
 | none=>cases hm
 | some m=>
  simp only
  rw[ht]
  repeat' (first|exact rfl|exact trivial|exact⟨⟨⟨rfl,trivial⟩,trivial⟩,trivial⟩|split)
theorem qib{E:Env}{h:List Blk}{ev:Operand→AV}{op:Op}(hs:q5m E op=true){r:Res}(hr:(qf4 E h ev op).run=some r):r.2=(h,none):=by
 have key:jC h (qf4 E h ev op):=by
  unfold qf4
  cases op<;>simp only[q5m] at hs<;>try (cases hs)
  case move=>rfl
  case assign=>rfl
  case pick=>simp only;split<;>first|rfl|exact⟨rfl,rfl⟩|trivial
  case build=>exact qlg _ _ _ _
  case load=>exact qmR _ _ _ _
  case nilCheck=>simp only;repeat' (first|exact rfl|exact⟨rfl,trivial⟩|exact trivial|split)
  case binOp=>exact qmC _ _ _ _ _ _
  case unOp=>exact qsy _ _ _
  case convert=>exact qnc _ _ _ _ _
  case makeFunc fn _ _=>cases fn<;>first|rfl|trivial
  case slice t x lo hi mx=>
   split at hs
   ·rename_i ht;exact qlz ht _ _ _ _ _
   ·rename_i ht;exact qlp ht _ _ _ _ _
   ·rename_i ht;exact qkZ ht _ _ _ _ (by simpa using hs)
   ·cases hs
  case fieldAddr=>exact qg0 _ _ _ _ _
  case field=>exact qmJ _ _ _ _ _
  case indexAddr=>exact qfb _ _ _ _ _
  case index=>exact qmD _ _ _ _ _
  case extract=>simp only;repeat' (first|exact rfl|exact trivial|split)
  case call c=>
   obtain⟨callee,args,tys⟩:=c
   cases callee with
   | builtin b=>
    cases b<;>simp only at hs<;>try (cases hs)
    ·exact qrR _ _ _ _
    ·exact qnG _ _ _
    ·exact qnG _ _ _
   | value x=>simp only at hs;cases hs
   | invoke x n=>simp only at hs;cases hs
 exact key.run hr
end Go.Eng

namespace Go.Eng
theorem qcg{E:Env}{callS:ki}{h:List Blk}{f g:Operand→AV}{op:Op}(hfg:∀x∈op.operands.toList,f x=g x):q2J E callS h f op=q2J E callS h g op:=by
 have hmap:∀(l:List Operand),(∀x∈l,x∈op.operands.toList)→l.map f=l.map g:=fun l hl=>List.map_congr_left fun x hx=>hfg x (hl x hx)
 have hop:q5m E op=true→qf4 E h f op=qf4 E h g op:=by
  intro hst
  unfold qf4
  cases op<;>simp only[q5m] at hst<;>try (cases hst)
  case move x=>simp only;rw[hfg x (by simp[Op.operands])]
  case assign x=>simp only;rw[hfg x (by simp[Op.operands])]
  case pick c a b=>simp only;rw[hfg c (by simp[Op.operands]),hfg a (by simp[Op.operands]),hfg b (by simp[Op.operands])]
  case build t ps=>
   simp only
   have:(ps.toList.map fun p=>(p.1,f p.2))=ps.toList.map fun p=>(p.1,g p.2):=List.map_congr_left fun p hp=>by
    rw[hfg p.2 (by simp only[Op.operands];exact List.mem_map_of_mem hp)]
   rw[this]
  case load t a=>simp only;rw[hfg a (by simp[Op.operands])]
  case nilCheck a=>simp only;rw[hfg a (by simp[Op.operands])]
  case binOp o t x y ty=>simp only;rw[hfg x (by simp[Op.operands]),hfg y (by simp[Op.operands])]
  case unOp o t x=>simp only;rw[hfg x (by simp[Op.operands])]
  case convert s d x=>simp only;rw[hfg x (by simp[Op.operands])]
  case makeFunc fn a b=>
   cases fn<;>simp only
   rw[hmap a.toList (fun x hx=>by simp only[Op.operands,Array.toList_append];exact List.mem_append_left _ hx),hmap b.toList (fun x hx=>by simp only[Op.operands,Array.toList_append];exact List.mem_append_right _ hx)]
  case slice t x lo hi mx=>
   simp only
   have hlo:∀y,lo=some y→f y=g y:=fun y hy=>hfg y (by subst hy;simp[Op.operands])
   have hhi:∀y,hi=some y→f y=g y:=fun y hy=>hfg y (by subst hy;simp[Op.operands])
   have hmx:∀y,mx=some y→f y=g y:=fun y hy=>hfg y (by subst hy;simp[Op.operands])
   have e1:lo.map f=lo.map g:=by
    cases lo with
    | none=>rfl
    | some y=>exact congrArg some (hlo y rfl)
   have e2:hi.map f=hi.map g:=by
    cases hi with
    | none=>rfl
    | some y=>exact congrArg some (hhi y rfl)
   have e3:mx.map f=mx.map g:=by
    cases mx with
    | none=>rfl
    | some y=>exact congrArg some (hmx y rfl)
   rw[e1,e2,e3,hfg x (by simp[Op.operands])]
  case fieldAddr s x i=>simp only;rw[hfg x (by simp[Op.operands])]
  case field s x i=>simp only;rw[hfg x (by simp[Op.operands])]
  case indexAddr t x i=>simp only;rw[hfg x (by simp[Op.operands]),hfg i (by simp[Op.operands])]
  case index t x i=>simp only;rw[hfg x (by simp[Op.operands]),hfg i (by simp[Op.operands])]
  case extract x i=>simp only;rw[hfg x (by simp[Op.operands])]
  case call c=>
   obtain⟨callee,args,tys⟩:=c
   cases callee with
   | builtin b=>
    simp only
    rw[hmap args.toList (fun x hx=>by simpa[Op.operands,Call.operands] using hx)]
   | value x=>simp only at hst;cases hst
   | invoke x n=>simp only at hst;cases hst
 unfold q2J
 split
 ·rename_i x args tys
  rw[hfg x (by simp[Op.operands,Call.operands]),hmap args.toList (fun y hy=>by simp only[Op.operands,Call.operands,Array.toList_append];exact List.mem_append_right _ hy)]
 ·split
  ·rename_i hst;rw[hop hst]
  ·rfl
def q6C(E:Env)(P:Program)(callS:List Blk→ki):Prop:=
 ∀(f:FuncId) (args:List AV) (st:St) (v:AV) (B:Base) (X:Ctx) (a:Act) (vargs:List Value),Sim E B X st a→RepL X args vargs→(callS st.h f args).run=some v →
  (∀w,(callFunc f vargs.toArray).run P w=.ok (.enter f vargs.toArray) w) ∧
  Calls P f vargs.toArray X.w fun e w'=>∃u X',e=.returned u∧X'.w=w'∧Rep X' v u∧Sim E B X' st a
def Blk.isFrzB:Blk→Bool
 | .frz _ _ _=>true
 | _=>false
def kG(E:Env)(callS:List Blk→ki):Prop:=∀(h h':List Blk) (f:FuncId) (args:List AV),(qbh E f).isSome=true→(∀b,b∈AV.menL args→h'[b]?=h[b]?)→callS h' f args=callS h f args
def q6R(P:Program)(f:FuncId)(e:TypeId):Prop:=(∀args w,(callFunc f args).run P w=.ok (.enter f args) w) ∧
 ∀(w:World) (n len cap i j:Nat) (c:Array Value) (T:TypeId),w.heap[n]?=some (.cells c T (0,0))→c.size=cap*P.cellsOf e→(∀k v,k<len*P.cellsOf e→c[k]?=some v→v.oneCell'=true)→0<P.cellsOf e →
  len≤cap→cap≤9223372036854775807→i≤j→j≤len →
  Calls P f #[.slice (some ⟨n,0,none⟩) len cap,.int .i64 i,.int .i64 j] w fun x w'=>x=.returned (.slice (some ⟨n,0,none⟩) (len-(j-i)) cap) ∧
   ∃c',w'.heap[n]?=some (.cells c' T (0,0))∧c'.size=c.size∧(∀k,k<(len-(j-i))*P.cellsOf e→c'[k]?=if k<i*P.cellsOf e then c[k]? else c[k+(j-i)*P.cellsOf e]?) ∧
    (∀m,m≠n→w'.heap[m]?=w.heap[m]?)∧w'.heap.size=w.heap.size∧w'.os=w.os∧w'.tape=w.tape∧w'.output=w.output
structure Env.specs (E:Env) (P:Program):Prop where
 sp:∀x,x∈E.spec→zk P E.glob x.1 x.2
 dl:∀x,x∈E.dels→q6R P x.1 x.2
theorem qbe:∀(l:List Nat) (h:List Blk),l.all (qjK h)=true→qW h l=h
 | [],_,_=>rfl
 | b::l,h,hl=>by
  simp only[List.all_cons,Bool.and_eq_true] at hl
  have:zy h b=h:=by
   unfold zy
   have:=hl.1
   unfold qjK at this
   split at this
   ·rename_i hb;rw[hb]
   ·cases this
  simp only[qW,this]
  exact qbe l h hl.2
theorem qjo{E:Env}{P:Program}(hS:E.specs P):q6C E P (q4E E):=by
 intro f args st v B X a vargs hsim hargs h
 unfold q4E at h
 cases hf:E.spec.find? fun x=>x.1==f with
 | none=>rw[hf] at h;cases h
 | some G=>
  rw[hf] at h
  have hG:=hS.sp G (List.mem_of_find?_eq_some hf)
  have hfe:G.1=f:=by simpa using List.find?_some hf
  simp only at h
  split at h
  ·rename_i hc
   obtain⟨r,h1,h2⟩:=bind_some h
   have hr2:r.2=[]∧(r.1.men)=[]∧v=r.1:=by
    split at h2
    ·rename_i he
     split at h2
     ·rename_i hm;cases h2;exact⟨he,by simpa using hm,rfl⟩
     ·cases h2
    ·cases h2
   obtain⟨q1,q2,rfl⟩:=hr2
   have hfz:qW st.h (args.flatMap wK)=st.h:=qbe _ _ hc.1
   have hmen:AV.menL (AV.lendL st.h args)=[]:=by simpa using hc.2
   have hcs:(ub G.2 args st).run=some (r.1,st):=by
    unfold ub
    have hpr:kO st.h args=st.h:=by
     unfold kO
     simp only[hfz,hmen,q4y,qW,q98]
    simp only[hpr,hmen,qbC,q0U]
    rw[AV.renL_of_men _ _ hmen,Tree.run_bind,h1]
    simp only[Option.bind_some,vD,q1,List.length_nil,List.drop_nil,List.map_nil,List.append_nil]
    rw[AV.ren_of_men _ _ q2]
    rfl
   rw[hfe] at hG
   refine⟨hG.1 _,?_⟩
   exact q2X hG hsim hargs hcs
  ·cases h
theorem qcZ{E:Env}{P:Program}(hE:E.tok P){callS:List Blk→ki}(hc:q6C E P callS){B:Base}{X:Ctx}{st:St}{a:Act}(hs:Sim E B X st a){o:Oper}{av:AV}
  (h:(q2J E (callS st.h) st.h (E.opd st.t) o.op).run=some av) {next:Act→World→Prop} {Q:Exit→Act→World→Prop}
  (hq:∀X' v,Sim E B X' st a→Rep X' av v→next (a.put o.dst v) X'.w):o.wp P a X.w next Q:=by
 unfold q2J at h
 split at h
 ·rename_i x args tys hop
  cases hx:E.opd st.t x with
  | fn f first caps=>
   rw[hx] at h
   have hv:=q3v hs x
   rw[hx] at hv
   generalize hev:a.eval x=vx at hv
   cases hv with
   | fn _ _ _ vf vc q1 q2=>
    have hargs:=q0u hs args.toList
    have hall:RepL X (first++args.toList.map (E.opd st.t)++caps) (vf++args.toList.map a.eval++vc):=(q1.append hargs).append q2
    obtain⟨g1,g2⟩:=hc f _ st av B X a _ hs hall h
    unfold Oper.wp
    have hrun:(execOp a.eval o).run P X.w=.ok (.enter f (vf++args.toList.map a.eval++vc).toArray) X.w:=by
     simp only[execOp,hop,resolve,hev,Deferred.ofValue,Sem.run_bind,Sem.run_pure,Result.andThen_ok,invoke]
     have:vf.toArray++args.map a.eval++vc.toArray=(vf++args.toList.map a.eval++vc).toArray:=by
      apply Array.ext';simp
     rw[this]
     exact g1 X.w
    rw[hrun]
    refine g2.mono fun e w' ⟨v,X',e1,e2,e3,e4⟩=>?_
    subst e1 e2
    exact hq X' _ e4 e3
  | _=>rw[hx] at h;cases h
 ·split at h
  ·rename_i hst
   obtain⟨r,h1,h2⟩:=bind_some h
   cases h2
   have hr2:=qib hst h1
   obtain⟨nx,v,X',g1,g2,g3,g4,g5⟩:=qct hE hs h1
   have hrn:r.2.2=none:=by rw[hr2]
   rw[hrn] at g5
   have hXh:X'.h=st.h:=by rw[g5.1,hr2]
   have hs':Sim E B X' st a:=by
    have:=hs.ext g5.2 g4
    rw[hXh] at this
    exact this
   unfold Oper.wp
   rw[g1]
   rcases g2 with rfl|⟨rfl,rfl⟩
   ·exact hq X' _ hs' g3
   ·exact hq X' _ hs' g3
  ·cases h
theorem Sim.drawn{E:Env}{B:Base}{X:Ctx}{st:St}{a:Act}(hs:Sim E B X st a)(n:Nat):Sim E B { X with w:={ X.w with drawn:=n } } st a:=by
 have hx:Ext X { X with w:={ X.w with drawn:=n } }:=
  Move.of (fun _ h=>h) (fun _ _=>rfl) (fun b b' hb h=>by cases h;exact⟨hb,rfl,fun _ _ h=>h,fun _ _ _ _ _ c T fr h=>⟨c,T,fr,h,rfl⟩⟩)
 have h0:=hs.hs
 have hs':HSim B { X with w:={ X.w with drawn:=n } }:=
  ⟨fun b k hk=>vM.ext hx rfl (fun _ _=>rfl) (h0.blk b k hk),h0.inj,h0.notM,h0.ltM,h0.M0,h0.newM,h0.os,h0.tape,h0.output,h0.size,h0.frame,h0.imps,h0.impc,h0.fresh,h0.kept⟩
 have:=hs.ext hx hs'
 have e:({ st with h:=X.h }:St)=st:=by rw[hs.h]
 exact e▸this
end Go.Eng

namespace Go.Eng
def qlV(all:Array Oper)(k:Nat)(v:AV):AV:=if qnm all k then (match v with|.bool b=>.blit b|v=>v) else v
theorem qcj{X:Ctx}{all:Array Oper}{k:Nat}{v:AV}{u:Value}(h:Rep X v u):Rep X (qlV all k v) u:=by
 unfold qlV
 split
 ·cases h with
  | bool b=>exact .blit b
  | undef=>exact .undef _
  | skip=>exact .skip
  | yld=>exact .yld
  | blit b=>exact .blit b
  | ilit k n=>exact .ilit k n
  | int k n=>exact .int k n
  | str s=>exact .str s
  | nilp=>exact .nilp
  | ptr b off n h1 h2=>exact .ptr b off n h1 h2
  | eptr sh l i off a h1 h2 h3 h4=>exact .eptr sh l i off a h1 h2 h3 h4
  | mnil sh l i off=>exact .mnil sh l i off
  | mptr sh l i off a h1 h2 h3 h4=>exact .mptr sh l i off a h1 h2 h3 h4
  | vptr b i off n k h1 h2 h3=>exact .vptr b i off n k h1 h2 h3
  | vsub b i n k m c h1 h2 h3=>exact .vsub b i n k m c h1 h2 h3
  | aptr b o i n h1 h2 h3=>exact .aptr b o i n h1 h2 h3
  | asub b o N i m n k c h1 h2 h3 h4 h5 h6=>exact .asub b o N i m n k c h1 h2 h3 h4 h5 h6
  | nils=>exact .nils
  | imm sh l _ h=>exact .imm sh l _ h
  | full sh l p n h=>exact .full sh l p n h
  | vec b p n c h1 h2=>exact .vec b p n c h1 h2
  | nilf=>exact .nilf
  | fn f a b c d h1 h2=>exact .fn f a b c d h1 h2
  | agg cs vs h=>exact .agg cs vs h
  | tuple cs vs h=>exact .tuple cs vs h
  | bagg cs k n l vs h hl=>exact .bagg cs k n l vs h hl
 ·exact h
theorem ql1{all:Array Oper}{k:Nat}{o:Oper}{st st':St}{v:AV}(h:(qhl all k o { st with t:=q90 st.t o.dst v }).run=some st') :
  st'={ st with t:=q90 st.t o.dst (qlV all k v) }:=by
 unfold qhl at h
 unfold qlV
 by_cases hg:qnm all k=true
 ·rw[if_pos hg] at h ⊢
  cases hd:o.dst with
  | none=>rw[hd] at h;cases h;rfl
  | some d=>
   rw[hd] at h
   simp only[q90] at h ⊢
   rcases Nat.lt_or_ge d st.t.length with hlt|hge
   ·rw[List.getElem?_set_self hlt] at h
    cases v<;>simp only at h<;>try (cases h;rfl)
    rename_i b
    cases b<;>(cases h;simp[List.set_set])
   ·rw[List.set_eq_of_length_le hge] at h
    rw[List.getElem?_eq_none hge] at h
    cases h
    rw[List.set_eq_of_length_le hge]
 ·rw[if_neg hg] at h ⊢
  cases h;rfl
def q1s(V:Nat→AV):Nat→List Oper→List AV→List AV
 | _,[],t=>t
 | k,o::rest,t=>q1s V (k+1) rest (q90 t o.dst (V k))
theorem qbH{V W:Nat→AV}:∀(l:List Oper) (k:Nat) (t:List AV),(∀j,k≤j→V j=W j)→q1s V k l t=q1s W k l t
 | [],_,_,_=>rfl
 | o::l,k,t,h=>by
  simp only[q1s]
  rw[h k (Nat.le_refl _)]
  exact qbH l (k+1) _ fun j hj=>h j (by omega)
section
variable (dst:Nat→Option Tmp) (V:Nat→AV) (T0:List AV)
def TLp(L:Nat→Bool):Nat→List AV
 | 0=>T0
 | m+1=>if L m then q90 (TLp L m) (dst m) (V m) else TLp L m
variable {dst V T0}
theorem qmG(t:List AV)(d:Option Tmp)(v:AV):(q90 t d v).length=t.length:=by cases d<;>simp[q90]
theorem q7q(L:Nat→Bool):∀m,(TLp dst V T0 L m).length=T0.length
 | 0=>rfl
 | m+1=>by simp only[TLp];split<;>simp[qmG,q7q L m]
theorem q4r{L:Nat→Bool}{t:Tmp}:∀m,(∀j,j<m→L j=true→dst j≠some t)→(TLp dst V T0 L m)[t]?=T0[t]?
 | 0,_=>rfl
 | m+1,h=>by
  simp only[TLp]
  split
  ·rename_i hl
   have:=h m (Nat.lt_succ_self m) hl
   cases hd:dst m with
   | none=>exact q4r m fun j hj=>h j (by omega)
   | some d=>
    rw[hd] at this
    simp only[q90]
    rw[List.getElem?_set_ne (fun e=>this (by rw[e]))]
    exact q4r m fun j hj=>h j (by omega)
  ·exact q4r m fun j hj=>h j (by omega)
theorem qax{L:Nat→Bool}{t:Tmp}{j:Nat}(hj:L j=true)(hd:dst j=some t):∀m,j<m→(∀k,k<m→k≠j→dst k≠some t) →
  (TLp dst V T0 L m)[t]?=if t<T0.length then some (V j) else none
 | 0,h,_=>by omega
 | m+1,h,hu=>by
  by_cases hm:j=m
  ·subst hm
   simp only[TLp,hj,if_true,hd,q90]
   rw[List.getElem?_set]
   simp[q7q]
  ·simp only[TLp]
   split
   ·have:=hu m (Nat.lt_succ_self m) (fun e=>hm e.symm)
    cases hdm:dst m with
    | none=>exact qax hj hd m (by omega) fun k hk=>hu k (by omega)
    | some d=>
     rw[hdm] at this
     simp only[q90]
     rw[List.getElem?_set_ne (fun e=>this (by rw[e]))]
     exact qax hj hd m (by omega) fun k hk=>hu k (by omega)
   ·exact qax hj hd m (by omega) fun k hk=>hu k (by omega)
theorem qrB{L:Nat→Bool}{i n:Nat}(hi:i<n)(hL:L i=false)(hu:∀k,k<n→k≠i→∀t,dst i=some t→dst k≠some t) :
  TLp dst V T0 (fun j=>if j=i then true else L j) n=q90 (TLp dst V T0 L n) (dst i) (V i):=by
 apply List.ext_getElem?
 intro t
 cases hd:dst i with
 | none=>
  simp only[q90]
  by_cases hex:∃j,j<n∧L j=true∧dst j=some t
  ·
   clear hex
   have:∀m,m≤n→TLp dst V T0 (fun j=>if j=i then true else L j) m=TLp dst V T0 L m:=by
    intro m
    induction m with
    | zero=>intro _;rfl
    | succ m ih=>
     intro hm
     simp only[TLp]
     by_cases hmi:m=i
     ·subst hmi;rw[ih (by omega)];simp[hL,hd,q90]
     ·rw[ih (by omega)];simp[hmi]
   rw[this n (Nat.le_refl _)]
  ·have h1:∀j,j<n→L j=true→dst j≠some t:=fun j hj hl he=>hex ⟨j,hj,hl,he⟩
   rw[q4r n h1]
   refine q4r n fun j hj hl he=>?_
   by_cases hji:j=i
   ·subst hji;rw[hd] at he;cases he
   ·simp[hji] at hl;exact h1 j hj hl he
 | some d=>
  simp only[q90]
  by_cases htd:t=d
  ·subst htd
   rw[qax (j:=i) (by simp) hd n hi (fun k hk hki=>hu k hk hki t hd),List.getElem?_set]
   simp[q7q]
  ·rw[List.getElem?_set_ne (fun e=>htd e.symm)]
   have:∀m,m≤n→(TLp dst V T0 (fun j=>if j=i then true else L j) m)[t]?=(TLp dst V T0 L m)[t]?:=by
    intro m
    induction m with
    | zero=>intro _;rfl
    | succ m ih=>
     intro hm
     simp only[TLp]
     by_cases hmi:m=i
     ·subst hmi
      simp only[if_true,hL,Bool.false_eq_true,if_false,hd,q90]
      rw[List.getElem?_set_ne (fun e=>htd e.symm)]
      exact ih (by omega)
     ·simp only[hmi,if_false]
      split
      ·cases hdm:dst m with
       | none=>exact ih (by omega)
       | some d'=>
        simp only[q90,List.getElem?_set]
        rw[q7q,q7q,ih (by omega)]
      ·exact ih (by omega)
   exact this n (Nat.le_refl _)
end
theorem qod{V:Nat→AV}{l:List Oper}{T0:List AV}:∀j,j≤l.length→TLp (fun i=>(l[i]?).bind (·.dst)) V T0 (fun _=>true) j=q1s V 0 (l.take j) T0:=by
 have app:∀(l:List Oper) (o:Oper) (k:Nat) (t:List AV),q1s V k (l++[o]) t=q90 (q1s V k l t) o.dst (V (k+l.length)):=by
  intro l
  induction l with
  | nil=>intro o k t;simp[q1s]
  | cons a l ih=>intro o k t;simp only[List.cons_append,q1s,ih];congr 2;simp;omega
 intro j
 induction j with
 | zero=>intro _;simp[TLp,q1s]
 | succ j ih=>
  intro hj
  have hlt:j<l.length:=by omega
  have ht:l.take (j+1)=l.take j++[l[j]]:=by rw[List.take_succ_eq_append_getElem hlt]
  rw[ht,app,←ih (by omega)]
  simp only[TLp,if_true]
  rw[List.getElem?_eq_getElem hlt]
  simp only[Option.bind_some]
  congr 2
  simp;omega
end Go.Eng

namespace Go.Eng
def qmk(acc:List Nat)(o:Oper):Nat:=o.after.toList.foldl (fun s e=>if Region.binds .any e then s ||| 2^e.on ||| acc.getD e.on 0 else s) 0
theorem qfH(acc:List Nat)(x:Nat):∀(es:List Edge) (s:Nat),(es.foldl (fun s e=>if Region.binds .any e then s ||| 2^e.on ||| acc.getD e.on 0 else s) s).testBit x=true →
  s.testBit x=true∨∃e,e∈es∧Region.binds .any e=true∧(x=e.on∨(acc.getD e.on 0).testBit x=true)
 | [],s,h=>.inl h
 | e::es,s,h=>by
  simp only[List.foldl_cons] at h
  rcases qfH acc x es _ h with h1|⟨e',h1,h2,h3⟩
  ·split at h1
   ·rename_i hb
    rw[Nat.testBit_or,Nat.testBit_or,Bool.or_eq_true,Bool.or_eq_true] at h1
    rcases h1 with (h1|h1)|h1
    ·exact .inl h1
    ·rw[Nat.testBit_two_pow] at h1
     have h2:e.on=x:=by simpa using h1
     exact .inr ⟨e,List.mem_cons_self,hb,.inl h2.symm⟩
    ·exact .inr ⟨e,List.mem_cons_self,hb,.inr h1⟩
   ·exact .inl h1
  ·exact .inr ⟨e',List.mem_cons_of_mem _ h1,h2,h3⟩
def qu9(ops:List Oper)(acc:List Nat):Prop:=
 ∀i x,(acc.getD i 0).testBit x=true→∃o e,ops[i]?=some o∧e∈o.after.toList∧Region.binds .any e=true∧(x=e.on∨(acc.getD e.on 0).testBit x=true)
theorem qiv:∀(rest done:List Oper) (acc:List Nat),acc.length=done.length→qu9 done acc→qu9 (done++rest) (rest.foldl (fun acc o=>acc++[qmk acc o]) acc)
 | [],done,acc,_,h=>by simpa using h
 | o::rest,done,acc,hl,h=>by
  simp only[List.foldl_cons]
  have:=qiv rest (done++[o]) (acc++[qmk acc o]) (by simp[hl]) ?_
  ·simpa using this
  ·intro i x hb
   have grow:∀(j x:Nat),(acc.getD j 0).testBit x=true→((acc++[qmk acc o]).getD j 0).testBit x=true:=by
    intro j x hj
    rcases Nat.lt_or_ge j acc.length with hlt|hge
    ·rw[List.getD_eq_getElem?_getD,List.getElem?_append_left hlt,←List.getD_eq_getElem?_getD];exact hj
    ·rw[List.getD_eq_getElem?_getD,List.getElem?_eq_none hge] at hj;simp at hj
   rcases Nat.lt_or_ge i acc.length with hlt|hge
   ·rw[List.getD_eq_getElem?_getD,List.getElem?_append_left hlt,←List.getD_eq_getElem?_getD] at hb
    obtain⟨o',e,h1,h2,h3,h4⟩:=h i x hb
    refine⟨o',e,by rw[List.getElem?_append_left (by omega)];exact h1,h2,h3,?_⟩
    exact h4.elim .inl fun q=>.inr (grow _ _ q)
   ·rcases Nat.eq_or_lt_of_le hge with he|hgt
    ·rw[List.getD_eq_getElem?_getD,←he,List.getElem?_append_right (Nat.le_refl _)] at hb
     simp only[Nat.sub_self,List.getElem?_cons_zero,Option.getD_some] at hb
     rcases qfH acc x _ _ hb with h1|⟨e,h1,h2,h3⟩
     ·simp at h1
     ·exact⟨o,e,by rw[←he,List.getElem?_append_right (by omega)];simp[hl],h1,h2,h3.elim .inl fun q=>.inr (grow _ _ q)⟩
    ·rw[List.getD_eq_getElem?_getD,List.getElem?_eq_none (by simp;omega)] at hb
     simp at hb
theorem qjU(ops:List Oper):qu9 ops (q00 ops):=by
 have:=qiv ops [] [] rfl (fun i x h=>by simp at h)
 exact this
structure DrawOk (all:Array Oper):Prop where
 edge:∀i o,all[i]?=some o→∀e,e∈o.after.toList→Region.binds .any e=true→e.on<i
 dst:∀i j oi oj,all[i]?=some oi→all[j]?=some oj→j≠i→∀t,oj.dst=some t→oi.dst≠some t ∧
  (t∈qlN all oi→((q00 all.toList).getD i 0).testBit j=true∨((q00 all.toList).getD j 0).testBit i=true)
theorem qo4{all:Array Oper}(h:qkw all=true):DrawOk all:=by
 unfold qkw at h
 simp only[List.all_eq_true,List.mem_range] at h
 have main:∀i oi,all[i]?=some oi→(∀e,e∈oi.after.toList→Region.binds .any e=true→e.on<i) ∧
   ∀j oj,all[j]?=some oj→j≠i→∀t,oj.dst=some t→oi.dst≠some t∧(t∈qlN all oi→((q00 all.toList).getD i 0).testBit j=true∨((q00 all.toList).getD j 0).testBit i=true):=by
  intro i oi hi
  have hi':all.toList[i]?=some oi:=by simpa using hi
  have:=h i (qk hi')
  rw[hi'] at this
  simp only[Bool.and_eq_true,List.all_eq_true,List.mem_range,Bool.or_eq_true,beq_iff_eq] at this
  obtain⟨h1,h2⟩:=this
  refine⟨fun e he hb=>?_,fun j oj hj hne t ht=>?_⟩
  ·have:=h1 e he
   rw[hb] at this
   simpa using this
  ·have hj':all.toList[j]?=some oj:=by simpa using hj
   have:=(h2 j (qk hj')).resolve_left hne
   rw[hj'] at this
   simp only[ht,Bool.and_eq_true,bne_iff_ne,ne_eq,Bool.or_eq_true,Bool.not_eq_true',List.contains_eq_mem,decide_eq_false_iff_not] at this
   refine⟨this.1,fun hm=>?_⟩
   rcases this.2 with (h3|h3)|h3
   ·exact absurd hm h3
   ·exact .inl h3
   ·exact .inr h3
 exact⟨fun i o hi=>(main i o hi).1,fun i j oi oj hi hj hne=>(main i oi hi).2 j oj hj hne⟩
theorem qo8{all:Array Oper}(hd:DrawOk all):∀(i x:Nat),((q00 all.toList).getD i 0).testBit x=true→x<i:=by
 intro i
 induction i using Nat.strongRecOn with
 | _ i ih=>
  intro x hx
  obtain⟨o,e,h1,h2,h3,h4⟩:=qjU all.toList i x hx
  have he:=hd.edge i o (by simpa using h1) e h2 h3
  rcases h4 with rfl|h4
  ·exact he
  ·have:=ih e.on he x h4;omega
def q7g(all:Array Oper)(L:Nat→Bool):Prop:=∀i o,all[i]?=some o→L i=true→∀e,e∈o.after.toList→Region.binds .any e=true→L e.on=true
theorem qbi{all:Array Oper}(hd:DrawOk all){L:Nat→Bool}(hc:q7g all L):∀(i x:Nat),L i=true→((q00 all.toList).getD i 0).testBit x=true→L x=true:=by
 intro i
 induction i using Nat.strongRecOn with
 | _ i ih=>
  intro x hi hx
  obtain⟨o,e,h1,h2,h3,h4⟩:=qjU all.toList i x hx
  have ho:all[i]?=some o:=by simpa using h1
  have he:=hc i o ho hi e h2 h3
  rcases h4 with rfl|h4
  ·exact he
  ·exact ih e.on (hd.edge i o ho e h2 h3) x he h4
section
variable {E:Env} {callS:ki} {h:List Blk} {all:Array Oper} {V:Nat→AV} {T0:List AV}
def qF(all:Array Oper):Nat→Option Tmp:=fun i=>(all[i]?).bind (·.dst)
theorem qqz(hd:DrawOk all){L:Nat→Bool}(hc:q7g all L){n i:Nat}{o:Oper}(hi:all[i]?=some o)(hin:i≤n)(hL:L i=false)
  (hedge:∀e,e∈o.after.toList→Region.binds .any e=true→L e.on=true) {t:Tmp} (ht:t∈qlN all o) :
  (TLp (qF all) V T0 L n)[t]?=(TLp (qF all) V T0 (fun _=>true) i)[t]?:=by
 by_cases hex:∃j oj,all[j]?=some oj∧j≠i∧oj.dst=some t
 ·obtain⟨j,oj,hj,hne,hjt⟩:=hex
  have hdj:qF all j=some t:=by simp[qF,hj,hjt]
  have huniq:∀m k,k<m→k≠j→qF all k≠some t:=by
   intro m k _ hkj he
   unfold qF at he
   cases hk:all[k]? with
   | none=>rw[hk] at he;cases he
   | some ok=>
    rw[hk] at he
    simp only[Option.bind_some] at he
    exact(hd.dst j k oj ok hj hk hkj t he).1 hjt
  rcases (hd.dst i j o oj hi hj hne t hjt).2 ht with ha|ha
  ·
   have hji:=qo8 hd i j ha
   have hLj:L j=true:=by
    obtain⟨o',e,h1,h2,h3,h4⟩:=qjU all.toList i j ha
    have:o'=o:=by
     have h1':all[i]?=some o':=by simpa using h1
     rw[hi] at h1';exact(Option.some.inj h1').symm
    subst this
    have he:=hedge e h2 h3
    rcases h4 with rfl|h4
    ·exact he
    ·exact qbi hd hc _ _ he h4
   rw[qax hLj hdj n (by omega) (huniq n),qax rfl hdj i hji (huniq i)]
  ·
   have hij:=qo8 hd j i ha
   have hLj:L j=false:=by
    cases hLj:L j with
    | false=>rfl
    | true=>have:=qbi hd hc _ _ hLj ha;rw[hL] at this;cases this
   have e1:(TLp (qF all) V T0 L n)[t]?=T0[t]?:=q4r n fun k hk hLk he=>by
    by_cases hkj:k=j
    ·subst hkj;rw[hLj] at hLk;cases hLk
    ·exact huniq n k hk hkj he
   have e2:(TLp (qF all) V T0 (fun _=>true) i)[t]?=T0[t]?:=q4r i fun k hk _ he=>by
    by_cases hkj:k=j
    ·omega
    ·exact huniq i k hk hkj he
   rw[e1,e2]
 ·have hno:∀k,k≠i→qF all k≠some t:=by
   intro k hki he
   unfold qF at he
   cases hk:all[k]? with
   | none=>rw[hk] at he;cases he
   | some ok=>
    rw[hk] at he
    exact hex ⟨k,ok,hk,hki,he⟩
  have e1:(TLp (qF all) V T0 L n)[t]?=T0[t]?:=q4r n fun k hk hLk=>hno k (fun e=>by subst e;rw[hL] at hLk;cases hLk)
  have e2:(TLp (qF all) V T0 (fun _=>true) i)[t]?=T0[t]?:=q4r i fun k hk _=>hno k (by omega)
  rw[e1,e2]
end
def unl(listed:Array Bool):Nat→Nat
 | 0=>0
 | m+1=>unl listed m+if listed.getD m false then 0 else 1
theorem qfw{listed:Array Bool}:∀{m:Nat},unl listed m=0→∀i,i<m→listed.getD i false=true
 | 0,_,i,hi=>by omega
 | m+1,h,i,hi=>by
  simp only[unl] at h
  by_cases him:i=m
  ·subst him
   cases hl:listed.getD i false with
   | true=>rfl
   | false=>rw[hl] at h;simp at h
  ·exact qfw (Nat.add_eq_zero_iff.1 h).1 i (by omega)
theorem wn{listed:Array Bool}{i j:Nat}(hi:i<listed.size):(listed.setIfInBounds i true).getD j false=if j=i then true else listed.getD j false:=by
 by_cases h:j=i
 ·subst h;simp[Array.getD_eq_getD_getElem?,hi]
 ·simp[Array.getD_eq_getD_getElem?,h,Array.getElem?_setIfInBounds_ne (Ne.symm h)]
theorem qjn{listed:Array Bool}{i:Nat}(hi:i<listed.size)(hl:listed.getD i false=false):∀m,(m≤i→unl (listed.setIfInBounds i true) m=unl listed m)∧(i<m→unl (listed.setIfInBounds i true) m+1=unl listed m)
 | 0=>⟨fun _=>rfl,fun h=>by omega⟩
 | m+1=>by
  obtain⟨h1,h2⟩:=qjn hi hl m
  refine⟨fun h=>?_,fun h=>?_⟩
  ·simp only[unl]
   rw[h1 (by omega),wn hi,if_neg (show ¬m=i by omega)]
  ·simp only[unl]
   rw[wn hi]
   by_cases him:m=i
   ·subst him
    rw[h1 (Nat.le_refl _),if_pos rfl,hl];simp
   ·rw[if_neg him]
    have:=h2 (by omega)
    omega
end Go.Eng

namespace Go.Eng
def yP(h':List Blk):Tree Res→Tree Res→Prop
 | .leaf r,t'=>t'=.leaf (r.1,h',none)
 | .br b t e,.br b' t' e'=>b=b'∧yP h' t t'∧yP h' e e'
 | .fail,_=>True
 | .br _ _ _,_=>False
theorem yP.run{h':List Blk}:∀{t t':Tree Res} {r:Res},yP h' t t'→t.run=some r→t'.run=some (r.1,h',none)
 | .leaf _,t',_,hm,hr=>by cases hr;simp only[yP] at hm;subst hm;rfl
 | .fail,_,_,_,hr=>by cases hr
 | .br b t e,.br b' t' e',r,hm,hr=>by
  simp only[yP] at hm
  obtain⟨rfl,h1,h2⟩:=hm
  cases b<;>simp only[Tree.run] at hr ⊢
  ·exact yP.run h2 hr
  ·exact yP.run h1 hr
 | .br _ _ _,.leaf _,_,hm,_=>by cases hm
 | .br _ _ _,.fail,_,hm,_=>by cases hm
section
variable {h h':List Blk}
def Agr(h h':List Blk)(p:AV):Prop:=∀b,b∈p.men→h'[b]?=h[b]?
theorem zW(v:AV):yP h' (okv h v) (okv h' v):=rfl
theorem ua{b:Bool}{t t' e e':Tree Res}(h1:yP h' t t')(h2:yP h' e e'):yP h' (.br b t e) (.br b t' e'):=⟨rfl,h1,h2⟩
theorem z8{c:Prop}[Decidable c]{t t' e e':Tree Res}(h1:yP h' t t')(h2:yP h' e e'):yP h' (if c then t else e) (if c then t' else e'):=by
 split<;>assumption
theorem q58(kk:IntKind)(f:Int→Int→Int)(l:Bool)(x y:Int):yP h' (q2b h kk f l x y) (q2b h' kk f l x y):=by
 unfold q2b;cases l<;>rfl
theorem qqW(f:Int→Int→Bool)(l:Bool)(x y:Int):yP h' (qoU h f l x y) (qoU h' f l x y):=by
 unfold qoU;cases l<;>rfl
theorem qak{v:AV}(H:Agr h h' v):ww h' v=ww h v:=by
 cases v<;>first|rfl|skip
 rename_i b
 simp only[ww]
 rw[H b (by simp[AV.men])]
theorem qlU(E:Env)(t:TypeId)(p:AV)(H:Agr h h' p):yP h' (q8R E h t p) (q8R E h' t p):=by
 unfold q8R
 dsimp only
 refine z8 trivial ?_
 cases p with
 | ptr b off=>
  simp only
  rw[H b (by simp[AV.men])]
  cases hb:h[b]? with
  | none=>trivial
  | some x=>
   cases x with
   | cells cs=>
    simp only
    refine z8 (z8 (zW _) trivial) ?_
    cases cs[off]?<;>first|trivial|rfl
   | _=>trivial
 | eptr sh l i off=>
  simp only
  refine z8 ?_ ?_
  ·cases q5k sh l i off (E.ty t).size<;>first|trivial|rfl
  ·cases q8Q sh l i off<;>first|trivial|rfl
 | vptr b i off=>
  simp only
  rw[qak (v:=.vec b) H]
  cases hb:ww h (.vec b) with
  | none=>trivial
  | some x=>
   obtain⟨sh,l⟩:=x
   simp only
   refine z8 ?_ ?_
   ·cases q5k sh l i off (E.ty t).size<;>first|trivial|rfl
   ·cases q8Q sh l i off<;>first|trivial|rfl
 | _=>trivial
theorem qp2(E:Env)(t:TypeId)(p:AV)(H:Agr h h' p):yP h' (q6j E h t p) (q6j E h' t p):=by
 cases p with
 | ptr b off=>
  have hm:=qlU E t (.ptr b off) H
  unfold q6j
  simp only
  rw[H b (by simp[AV.men])]
  cases hb:h[b]? with
  | none=>
   have:q8R E h t (.ptr b off)=.fail:=by unfold q8R;simp only[hb];split<;>rfl
   simp only[this];trivial
  | some x=>
   cases x with
   | big cs kk n l=>
    simp only
    unfold qqb
    refine z8 trivial (z8 (z8 (zW _) trivial) ?_)
    cases cs[off]? with
    | none=>exact z8 (zW _) trivial
    | some v=>exact zW _
   | _=>exact hm
 | aptr b o i=>
  unfold q6j
  simp only
  rw[H b (by simp[AV.men])]
  cases hb:h[b]? with
  | none=>trivial
  | some x=>
   cases x with
   | big cs kk n l=>exact z8 (ua (zW _) trivial) trivial
   | _=>trivial
 | _=>unfold q6j;exact qlU _ _ _ H
theorem qpR(E:Env)(t:TypeId)(ps:List (Nat×AV)):yP h' (q9D E h t ps) (q9D E h' t ps):=by
 unfold q9D
 refine z8 trivial ?_
 cases (E.ty t).d with
 | struct fs=>
  simp only
  refine z8 ?_ trivial
  cases q6x (fun i=>(fs[i]?).map fun f=>(f.1,f.2.2)) ((E.ty t).zero.map wM) ps<;>first|trivial|rfl
 | array n e es=>
  simp only
  refine z8 trivial ?_
  cases q6x (fun i=>some (i*es,es)) ((E.ty t).zero.map wM) ps<;>first|trivial|rfl
 | _=>trivial
theorem qmM(E:Env)(t:TypeId)(ps:List (Nat×AV)):yP h' (q63 E h t ps) (q63 E h' t ps):=by
 unfold q63
 cases qpw E t with
 | none=>exact qpR _ _ _
 | some q=>
  obtain⟨o,kk,n⟩:=q
  simp only
  cases (E.ty t).d with
  | struct fs=>
   simp only
   refine z8 ?_ trivial
   cases q6x (fun i=>(fs[i]?).map fun f=>(f.1,f.2.2)) (((E.ty t).zero.take o).map wM) ps<;>first|trivial|rfl
  | _=>trivial
theorem qhN(E:Env)(s:TypeId)(x:AV)(f:Nat):yP h' (ko E h s x f) (ko E h' s x f):=by
 unfold ko
 cases (E.ty s).d with
 | struct fs=>
  simp only
  cases fs[f]? with
  | none=>trivial
  | some o=>
   obtain⟨o,tt,sz⟩:=o
   simp only
   refine z8 trivial ?_
   cases x<;>first|rfl|trivial
 | _=>trivial
theorem qlo(E:Env)(t:TypeId)(cs:List AV)(o:Nat):yP h' (qbd E h t cs o) (qbd E h' t cs o):=by
 unfold qbd
 cases qb2 E t cs o<;>first|rfl|trivial
theorem qpQ(E:Env)(s:TypeId)(x:AV)(f:Nat):yP h' (qa2 E h s x f) (qa2 E h' s x f):=by
 unfold qa2
 cases (E.ty s).d with
 | struct fs=>
  cases x with
  | agg cs=>
   simp only
   cases fs[f]? with
   | none=>trivial
   | some o=>exact qlo _ _ _ _
  | _=>trivial
 | _=>trivial
theorem q9N(i:Int)(f:Nat→AV):∀n,yP h' (q93 h i f n) (q93 h' i f n)
 | 0=>trivial
 | n+1=>⟨rfl,rfl,q9N i f n⟩
theorem qhB(E:Env)(t:TypeId)(x i:AV)(H:Agr h h' x):yP h' (ji E h t x i) (ji E h' t x i):=by
 unfold ji
 cases (E.ty t).d with
 | slice e es=>
  cases x with
  | imm sh l=>
   cases asI i with
   | none=>trivial
   | some y=>exact z8 (ua (zW _) trivial) trivial
  | vec b=>
   cases asI i with
   | none=>trivial
   | some y=>
    simp only
    rw[qak (v:=.vec b) H]
    cases hb:ww h (.vec b) with
    | none=>trivial
    | some z=>exact z8 (ua (zW _) trivial) trivial
  | _=>trivial
 | array n e es=>
  cases x with
  | ptr b off=>
   simp only
   cases i with
   | ilit kk j=>exact z8 (zW _) trivial
   | int kk j=>exact z8 (q9N _ _ _) trivial
   | _=>trivial
  | eptr sh l i0 off=>
   simp only
   cases i with
   | ilit kk j=>exact z8 (zW _) trivial
   | int kk j=>exact z8 (q9N _ _ _) trivial
   | _=>trivial
  | _=>trivial
 | _=>trivial
theorem qhb(E:Env)(t:TypeId)(x i:AV)(H:Agr h h' x):yP h' (yX E h t x i) (yX E h' t x i):=by
 have hm:=qhB E t x i H
 unfold yX
 split
 ·split
  ·split
   ·split
    ·exact z8 (ua (zW _) trivial) trivial
    ·exact hm
   ·exact hm
  ·exact hm
 ·exact hm
theorem qpN(E:Env)(t:TypeId)(x i:AV):yP h' (q9K E h t x i) (q9K E h' t x i):=by
 unfold q9K
 cases (E.ty t).d with
 | array n e es=>
  cases x with
  | agg cs=>
   cases hi:asI i with
   | none=>trivial
   | some y=>
    cases i with
    | ilit kk j=>exact z8 (qlo _ _ _ _) trivial
    | int kk j=>
     simp only
     cases (E.ty e).d with
     | int k2=>
      simp only
      refine z8 ?_ trivial
      cases qcp k2 cs with
      | none=>trivial
      | some l=>exact ua (zW _) trivial
     | _=>trivial
    | _=>cases hi
  | _=>trivial
 | str=>
  cases x with
  | str s=>
   cases asI i with
   | none=>trivial
   | some y=>exact ua (zW _) trivial
  | _=>trivial
 | _=>trivial
theorem qot(d:TD)(op:BinOp)(x y:AV)(H:Agr h h' x):yP h' (qld d h op x y) (qld d h' op x y):=by
 unfold qld
 cases hx:asI x with
 | some p=>
  obtain⟨kk,a⟩:=p
  cases hy:asI y with
  | some q=>
   obtain⟨kk',b⟩:=q
   simp only
   refine z8 ?_ trivial
   cases op<;>simp only<;>first
    | exact q58 _ _ _ _ _
    | exact qqW _ _ _ _
    | trivial
    | skip
   ·cases y<;>simp only<;>first|exact z8 trivial (q58 _ _ _ _ _)|exact ua (q58 _ _ _ _ _) trivial
   ·cases y<;>simp only<;>first|exact z8 trivial (q58 _ _ _ _ _)|exact ua (q58 _ _ _ _ _) trivial
  | none=>cases x<;>first|cases hx;done|(cases y<;>first|(cases hy;done)|trivial)
 | none=>
  simp only
  cases hbx:asB x with
  | some a=>
   cases hby:asB y with
   | some b=>simp only;cases d<;>simp only<;>first|trivial|(cases op<;>first|rfl|trivial)
   | none=>cases x<;>first|(cases hbx;done)|(cases y<;>first|(cases hby;done)|trivial)
  | none=>
   simp only
   cases x with
   | str a=>
    cases y with
    | str b=>cases op<;>first|rfl|trivial|exact ua (zW _) trivial
    | _=>trivial
   | nilp=>
    cases y with
    | nilp=>cases d<;>first|trivial|(cases op<;>first|rfl|trivial)
    | _=>trivial
   | ptr b off=>
    cases y with
    | nilp=>
     cases d<;>first|trivial|skip
     simp only
     rw[H b (by simp[AV.men])]
     cases hb:h[b]? with
     | none=>trivial
     | some z=>cases z<;>first|trivial|(cases op<;>first|rfl|trivial)
    | _=>trivial
   | eptr sh l i o=>
    cases y with
    | nilp=>cases d<;>first|trivial|(cases op<;>first|rfl|trivial)
    | _=>trivial
   | imm sh l=>
    cases y with
    | nils=>cases d<;>first|trivial|(cases op<;>first|trivial|exact ua (zW _) trivial)
    | _=>trivial
   | mptr c sh l i o=>
    cases y with
    | nilp=>cases d<;>first|trivial|(cases op<;>first|rfl|trivial)
    | _=>trivial
   | _=>trivial
theorem qoJ(E:Env)(op:BinOp)(t:TypeId)(x y:AV)(H:Agr h h' x):yP h' (qc9 E h op t x y) (qc9 E h' op t x y):=by
 unfold qc9
 cases x with
 | agg xs=>
  cases y with
  | agg ys=>
   simp only
   unfold qgH
   cases eqT E 32 t (.agg xs) (.agg ys) with
   | none=>trivial
   | some r=>cases op<;>first|rfl|trivial
  | _=>exact qot _ _ _ _ H
 | _=>exact qot _ _ _ _ H
theorem qu3(op:UnOp)(x:AV):yP h' (qtQ h op x) (qtQ h' op x):=by
 cases op<;>cases x<;>first|rfl|trivial
theorem qqv(E:Env)(s d:TypeId)(x:AV):yP h' (qf3 E h s d x) (qf3 E h' s d x):=by
 unfold qf3
 cases (E.ty s).d<;>cases (E.ty d).d<;>cases x<;>first|rfl|trivial
theorem qpe(E:Env)(s d:TypeId)(x:AV)(H:Agr h h' x):yP h' (q9E E h s d x) (q9E E h' s d x):=by
 unfold q9E
 cases (E.ty s).d with
 | slice e es=>
  simp only
  cases (E.ty d).d with
  | str=>
   simp only
   unfold qgf
   cases (E.ty e).d with
   | int kk=>
    cases kk<;>first|trivial|skip
    simp only
    rw[qak H]
    cases hr:ww h x with
    | none=>trivial
    | some q=>
     obtain⟨sh,l⟩:=q
     simp only
     split
     ·rfl
     ·trivial
   | _=>trivial
  | _=>trivial
 | _=>exact qqv _ _ _ _
theorem qsR(E:Env)(ts:List TypeId)(azz:List AV)(H:∀x,x∈azz→Agr h h' x):yP h' (qgx E h ts azz) (qgx E h' ts azz):=by
 unfold qgx
 cases ts with
 | nil=>trivial
 | cons t ts=>
  cases azz with
  | nil=>trivial
  | cons x azz=>
   cases azz with
   | cons _ _=>trivial
   | nil=>
    simp only
    unfold qq6
    cases (E.ty t).d with
    | str=>cases x<;>first|rfl|trivial
    | array n e es=>rfl
    | slice e es=>
     cases x with
     | nils=>rfl
     | vec b=>
      simp only
      rw[qak (v:=.vec b) (H _ List.mem_cons_self)]
      cases hb:ww h (.vec b) with
      | none=>trivial
      | some z=>rfl
     | imm sh l=>rfl
     | _=>trivial
    | _=>cases x<;>trivial
theorem qtY(f:Int→Int→Int)(azz:List AV):yP h' (qjP f h azz) (qjP f h' azz):=by
 unfold qjP
 cases azz with
 | nil=>trivial
 | cons x l=>
  simp only
  cases asI x with
  | none=>trivial
  | some p=>
   obtain⟨kk,n⟩:=p
   simp only
   cases qmA f kk n l with
   | none=>trivial
   | some m=>exact z8 (zW _) (zW _)
theorem qpu{E:Env}{t:TypeId}(ht:(E.ty t).d=.str)(x:AV)(lo hi mx:Option AV):yP h' (q6z E h t x lo hi mx) (q6z E h' t x lo hi mx):=by
 unfold q6z
 rw[ht]
 cases mx with
 | some _=>trivial
 | none=>
  cases x<;>first|trivial|skip
  rename_i s
  simp only
  cases qaN lo 0 with
  | none=>trivial
  | some l=>
   cases qaN hi (zt s) with
   | none=>trivial
   | some r=>exact ua (ua (zW _) trivial) trivial
theorem qmp{E:Env}{t:TypeId}(ht:(E.ty t).d=.str)(x:AV)(lo hi mx:Option AV):yP h' (jm E h t x lo hi mx) (jm E h' t x lo hi mx):=by
 unfold jm
 rw[ht]
 exact qpu ht _ _ _ _
theorem qm4{E:Env}{t:TypeId}{n:Nat}{e:TypeId}{es:Nat}(ht:(E.ty t).d=.array n e es)(x:AV)(lo hi mx:Option AV):yP h' (jm E h t x lo hi mx) (jm E h' t x lo hi mx):=by
 unfold jm
 rw[ht]
 simp only
 cases x<;>first|trivial|skip
 cases mx with
 | some _=>trivial
 | none=>
  simp only
  refine z8 ?_ trivial
  unfold qsu
  split
  ·exact ua (ua (zW _) trivial) trivial
  ·trivial
theorem qmT{E:Env}{t:TypeId}{e:TypeId}{es:Nat}(ht:(E.ty t).d=.slice e es)(x:AV)(lo hi:Option AV){mx:Option AV}(hm:mx.isSome=true):yP h' (jm E h t x lo hi mx) (jm E h' t x lo hi mx):=by
 unfold jm
 rw[ht]
 simp only
 unfold q6z
 cases mx with
 | none=>cases hm
 | some m=>
  simp only
  rw[ht]
  split
  ·split
   ·exact z8 (ua (ua (ua (zW _) trivial) trivial) trivial) trivial
   ·trivial
  ·trivial
theorem qrl{E:Env}{ev:Operand→AV}{op:Op}(hs:q5m E op=true)(H:qqL op=true→∀x,x∈op.operands.toList→Agr h h' (ev x)):yP h' (qf4 E h ev op) (qf4 E h' ev op):=by
 unfold qf4
 cases op<;>simp only[q5m] at hs<;>try (cases hs)
 case move=>exact zW _
 case assign=>exact zW _
 case pick c a b=>simp only;cases ev c<;>first|exact zW _|exact ua (zW _) (zW _)|trivial
 case build=>exact qmM _ _ _
 case load x=>exact qp2 _ _ _ (H rfl x (by simp[Op.operands]))
 case nilCheck x=>
  have H:=H rfl x (by simp[Op.operands])
  simp only
  cases hx:ev x with
  | ptr b o=>
   rw[hx] at H
   simp only
   rw[H b (by simp[AV.men])]
   cases hb:h[b]? with
   | none=>trivial
   | some z=>cases z<;>first|rfl|trivial
  | eptr sh l i o=>rfl
  | mptr c sh l i o=>exact ua (zW _) trivial
  | _=>trivial
 case binOp op t x y r=>exact qoJ _ _ _ _ _ (H rfl x (by simp[Op.operands]))
 case unOp=>exact qu3 _ _
 case convert s d x=>exact qpe _ _ _ _ (H rfl x (by simp[Op.operands]))
 case makeFunc fn _ _=>cases fn<;>first|rfl|trivial
 case slice t x lo hi mx=>
  split at hs
  ·rename_i ht;exact qmp ht _ _ _ _
  ·rename_i ht;exact qm4 ht _ _ _ _
  ·rename_i ht;exact qmT ht _ _ _ (by simpa using hs)
  ·cases hs
 case fieldAddr=>exact qhN _ _ _ _
 case field=>exact qpQ _ _ _ _
 case indexAddr t x i=>exact qhb _ _ _ _ (H rfl x (by simp[Op.operands]))
 case index=>exact qpN _ _ _ _
 case extract x i=>
  simp only
  cases ev x with
  | tuple vs=>simp only;cases vs[i]?<;>first|rfl|trivial
  | _=>trivial
 case call c=>
  obtain⟨callee,args,tys⟩:=c
  cases callee with
  | builtin b=>
   cases b<;>first|exact qsR _ _ _ (fun x hx=>by obtain⟨y,hy,rfl⟩:=List.mem_map.1 hx;exact H rfl y (by simpa[Op.operands,Call.operands] using hy))|exact qtY _ _|(cases hs;done)
  | value x=>simp only at hs;cases hs
  | invoke x n=>simp only at hs;cases hs
end
mutual
theorem qqI{h h':List Blk}:∀(a:AV),Agr h h' a→a.lend h'=a.lend h
 | .vec b,H=>by simp only[AV.lend];rw[H b (by simp[AV.men])]
 | .agg cs,H=>by simp only[AV.lend];rw[q7f cs H]
 | .tuple cs,H=>by simp only[AV.lend];rw[q7f cs H]
 | .undef,_|.yld,_|.skip,_|.blit _,_|.bool _,_|.ilit _ _,_|.int _ _,_|.str _,_|.nilp,_|.ptr _ _,_|.eptr _ _ _ _,_|.mptr _ _ _ _ _,_|.vptr _ _ _,_|.vsub _ _,_|.aptr _ _ _,_|.asub _ _ _ _ _,_|.bagg _ _ _ _,_|.nils,_|.imm _ _,_|.full _ _,_|.nilf,_|.fn _ _ _,_=>rfl
theorem q7f{h h':List Blk}:∀(l:List AV),(∀b,b∈AV.menL l→h'[b]?=h[b]?)→AV.lendL h' l=AV.lendL h l
 | [],_=>rfl
 | a::l,H=>by
  simp only[AV.lendL]
  rw[qqI a fun b hb=>H b (by simp only[AV.menL];exact List.mem_append_left _ hb),q7f l fun b hb=>H b (by simp only[AV.menL];exact List.mem_append_right _ hb)]
end
theorem qer:∀(a:AV) (b:Nat),b∈wK a→b∈a.men:=by
 intro a b hb
 cases a<;>simp only[wK] at hb<;>first|(cases hb;done)|skip
 case vec c=>simpa[AV.men] using hb
 case agg cs=>
  simp only[AV.men]
  induction cs with
  | nil=>cases hb
  | cons c cs ih=>
   simp only[AV.menL]
   simp only[List.filterMap_cons] at hb
   cases c<;>simp only at hb<;>first|exact List.mem_append_right _ (ih hb)|skip
   rcases List.mem_cons.1 hb with rfl|hb
   ·exact List.mem_append_left _ (by simp[AV.men])
   ·exact List.mem_append_right _ (ih hb)
theorem qfs{l:List AV}{a:AV}{b:Nat}(ha:a∈l)(hb:b∈a.men):b∈AV.menL l:=by
 induction l with
 | nil=>cases ha
 | cons c l ih=>
  simp only[AV.menL]
  rcases List.mem_cons.1 ha with rfl|ha
  ·exact List.mem_append_left _ hb
  ·exact List.mem_append_right _ (ih ha)
theorem qhj{E:Env}{h h':List Blk}{f:FuncId}{args:List AV}(H:∀b,b∈AV.menL args→h'[b]?=h[b]?):q4E E h' f args=q4E E h f args:=by
 unfold q4E
 cases hf:E.spec.find? fun x=>x.1==f with
 | none=>rfl
 | some G=>
  simp only
  have e1:(args.flatMap wK).all (qjK h')=(args.flatMap wK).all (qjK h):=by
   have:∀b,b∈args.flatMap wK→qjK h' b=qjK h b:=by
    intro b hb
    obtain⟨a,ha,hb⟩:=List.mem_flatMap.1 hb
    unfold qjK
    rw[H b (qfs ha (qer a b hb))]
   generalize args.flatMap wK=l at this
   induction l with
   | nil=>rfl
   | cons b l ih=>simp only[List.all_cons];rw[this b List.mem_cons_self,ih fun b hb=>this b (List.mem_cons_of_mem _ hb)]
  rw[e1,q7f args H]
theorem q2M(E:Env):kG E (q3a E):=by
 intro h h' f args hs H
 unfold q3a
 unfold qbh at hs
 cases hf:E.spec.find? fun x=>x.1==f with
 | none=>rw[hf] at hs;cases hs
 | some G=>simp only;exact qhj H
theorem qlD(E:Env):kG E qkh:=fun _ _ _ _ _ _=>rfl
theorem qaa{E:Env}{callS:List Blk→ki}(hm:kG E callS){h h':List Blk}{ev:Operand→AV}{op:Op}{v:AV}{R:List Nat}(hR:qte E ev op=some R)(H:∀b,b∈R→h'[b]?=h[b]?)
  (hr:(q2J E (callS h) h ev op).run=some v):(q2J E (callS h') h' ev op).run=some v:=by
 unfold q2J at hr ⊢
 split at hr
 ·rename_i x args tys
  cases hx:ev x with
  | fn f first caps=>
   rw[hx] at hr
   unfold qte at hR
   simp only[qdI,vT,hx] at hR
   cases hf:qbh E f with
   | none=>rw[hf] at hR;cases hR
   | some G=>
    rw[hf] at hR
    simp only[Option.some.injEq] at hR
    subst hR
    simp only
    rw[hm h h' f _ (by rw[hf];rfl) H]
    exact hr
  | _=>rw[hx] at hr;cases hr
 ·rename_i hno
  split at hr
  ·rename_i hst
   rw[if_pos hst]
   obtain⟨r,h1,h2⟩:=bind_some hr
   cases h2
   have hR':qqL op=true→R=AV.menL (op.operands.toList.map ev):=by
    intro hlk
    unfold qte at hR
    have:qdI op=false:=by
     unfold qdI
     split
     ·rename_i x args tys;exact absurd rfl (hno x args tys)
     ·rfl
    rw[this,hlk] at hR
    simpa using hR.symm
   rw[Tree.run_bind,yP.run (qrl (h':=h') hst fun hlk x hx b hb=>H b (by rw[hR' hlk];exact qfs (List.mem_map_of_mem hx) hb)) h1]
   rfl
  ·cases hr
section
variable {h:List Blk}
theorem q9H:∀(cs:List AV),cs.all qqU=true→q54 h cs=h
 | [],_=>rfl
 | c::cs,hc=>by
  simp only[List.all_cons,Bool.and_eq_true] at hc
  cases c<;>first|(simp only[q54];exact q9H cs hc.2)|(cases hc.1)
theorem qkm{E:Env}{t:TypeId}{z:Blk}(hz:uU E t=some z):z.isFrzB=false:=by
 unfold uU at hz
 split at hz<;>split at hz<;>cases hz<;>rfl
theorem qp8{x:AV}{z:Blk}(hz:qeH x=some z):z.isFrzB=false:=by
 unfold qeH at hz
 split at hz<;>split at hz<;>cases hz<;>rfl
theorem ql9{E:Env}{ev:Operand→AV}{op:Op}{v:AV}{z:Blk}(hr:(q57 E h ev op).run=some (v,z)):(qf4 E h ev op).run=some (v,h++[z],none)∧z.isFrzB=false∧(∀b,v≠.bool b):=by
 unfold q57 at hr
 cases op<;>simp only at hr<;>first|(cases hr;done)|skip
 case alloc t=>
  unfold qgS at hr
  cases hz:uU E t with
  | none=>rw[hz] at hr;cases hr
  | some y=>
   rw[hz] at hr
   cases hr
   refine⟨?_,qkm hz,fun b hb=>by cases hb⟩
   unfold qf4
   simp only
   rw[hz];rfl
 case box t x=>
  unfold qgS at hr
  cases hz:qeH (ev x) with
  | none=>rw[hz] at hr;cases hr
  | some y=>
   rw[hz] at hr
   cases hr
   refine⟨?_,qp8 hz,fun b hb=>by cases hb⟩
   unfold qf4
   simp only
   rw[hz];rfl
 case buildSlice t len parts=>
  unfold qf4
  simp only
  unfold q3j
  cases hd:(E.ty t).d<;>rw[hd] at hr<;>simp only at hr ⊢<;>first|(cases hr;done)|skip
  rename_i e es
  split at hr
  ·rename_i hc
   rw[if_pos hc]
   cases hf:q6x (fun i=>some (i*es,es)) ((List.replicate len ((E.ty e).zero.map wM)).flatten) (parts.toList.map fun p=>(p.1,ev p.2)) with
   | none=>rw[hf] at hr;cases hr
   | some cs=>
    cases hs:E.shape 16 e with
    | none=>rw[hf,hs] at hr;cases hr
    | some sh=>
     rw[hf,hs] at hr
     simp only at hr ⊢
     split at hr
     ·rename_i hl
      rw[if_pos hl.1]
      cases hch:q99 h sh len cs with
      | none=>rw[hch] at hr;cases hr
      | some l=>
       rw[hch] at hr
       cases hr
       exact⟨by simp only[q9H cs hl.2];rfl,rfl,fun b hb=>by cases hb⟩
     ·cases hr
  ·cases hr
theorem qeL{E:Env}{f g:Operand→AV}{op:Op}(hfg:∀x∈op.operands.toList,f x=g x):q57 E h f op=q57 E h g op:=by
 unfold q57
 cases op<;>simp only
 case box t x=>rw[hfg x (by simp[Op.operands])]
 case buildSlice t len ps=>
  have:(ps.toList.map fun p=>(p.1,f p.2))=ps.toList.map fun p=>(p.1,g p.2):=List.map_congr_left fun p hp=>by
   rw[hfg p.2 (by simp only[Op.operands];exact List.mem_map_of_mem hp)]
  rw[this]
end
end Go.Eng

namespace Go.Eng
mutual
theorem AV.ren_void{s:Nat}:∀av:AV,s∉av.men→av.ren (q3I s)=av
 | .undef,_|.skip,_|.yld,_|.blit _,_|.bool _,_|.ilit _ _,_|.int _ _,_|.str _,_|.nilp,_|.eptr _ _ _ _,_|.mptr _ _ _ _ _,_|.nils,_|.imm _ _,_|.full _ _,_|.nilf,_=>rfl
 | .ptr b _,h=>by simp only[AV.men,List.mem_singleton] at h;simp[AV.ren,q3I,Ne.symm h]
 | .vptr b _ _,h=>by simp only[AV.men,List.mem_singleton] at h;simp[AV.ren,q3I,Ne.symm h]
 | .vsub b _,h=>by simp only[AV.men,List.mem_singleton] at h;simp[AV.ren,q3I,Ne.symm h]
 | .aptr b _ _,h=>by simp only[AV.men,List.mem_singleton] at h;simp[AV.ren,q3I,Ne.symm h]
 | .asub b _ _ _ _,h=>by simp only[AV.men,List.mem_singleton] at h;simp[AV.ren,q3I,Ne.symm h]
 | .vec b,h=>by simp only[AV.men,List.mem_singleton] at h;simp[AV.ren,q3I,Ne.symm h]
 | .fn g first caps,h=>by
  simp only[AV.men,List.mem_append,not_or] at h
  simp[AV.ren,AV.renL_void first h.1,AV.renL_void caps h.2]
 | .agg cs,h=>by simp only[AV.men] at h;simp[AV.ren,AV.renL_void cs h]
 | .tuple cs,h=>by simp only[AV.men] at h;simp[AV.ren,AV.renL_void cs h]
 | .bagg cs k n l,h=>by simp only[AV.men] at h;simp[AV.ren,AV.renL_void cs h]
theorem AV.renL_void{s:Nat}:∀l:List AV,s∉AV.menL l→AV.renL (q3I s) l=l
 | [],_=>rfl
 | a::l,h=>by
  simp only[AV.menL,List.mem_append,not_or] at h
  simp[AV.renL,AV.ren_void a h.1,AV.renL_void l h.2]
end
theorem Blk.ren_void{s:Nat}(k:Blk)(h:s∉k.menB):k.ren (q3I s)=k:=by
 cases k<;>simp only[Blk.menB,Blk.ren] at h ⊢<;>rw[AV.renL_void _ h]
theorem qdJ{s:Nat}:∀l:List (List AV),s∉q7b l→l.map (AV.renL (q3I s))=l
 | [],_=>rfl
 | a::l,h=>by
  simp only[q7b,List.mem_append,not_or] at h
  simp only[List.map_cons,AV.renL_void a h.1,qdJ l h.2]
theorem qdE{s b:Nat}{k:Blk}:∀{h:List Blk},s∉q0j h→h[b]?=some k→s∉k.menB:=by
 intro h
 induction h generalizing b with
 | nil=>intro _ hb;simp at hb
 | cons a h ih=>
  intro hs hb
  simp only[q0j,List.mem_append,not_or] at hs
  cases b with
  | zero=>simp only[List.getElem?_cons_zero,Option.some.injEq] at hb;subst hb;exact hs.1
  | succ b=>exact ih hs.2 (by simpa using hb)
def Ctx.slot(X:Ctx)(s:Nat)(z:Blk)(o:Obj):Ctx:=
 { σ:=fun b=>if b=s then some X.w.heap.size else X.σ b,h:=X.h.set s z,w:=X.w.alloc o,M:=X.M,kept:=X.kept,y:=X.y }
theorem qfE{B:Base}{X:Ctx}(hs:HSim B X){s:Nat}{z:Blk}{o:Obj}:Move X (X.slot s z o) (q3I s):=by
 refine Move.of (fun _ h=>h) (fun a ha=>World.cell?_of_block (zw _ _ (hs.ltM _ ha))) (fun b b' hb h=>?_)
 unfold q3I at h
 split at h
 ·cases h
 ·rename_i hne
  cases h
  refine⟨by simpa[Ctx.slot] using hb,by simp[Ctx.slot,hne],fun sh m ⟨e,l,h1,h2⟩=>⟨e,l,?_,h2⟩,fun _ _ _ n hn c T fr hc=>⟨c,T,fr,?_,rfl⟩⟩
  ·have e1:(X.slot s z o).h[b]?=X.h[b]?:=List.getElem?_set_ne (fun e=>hne e.symm)
   rw[e1] at h1;exact h1
  ·exact(zw _ _ (Array.getElem?_eq_some_iff.1 hc).1).trans hc
theorem qm0{B:Base}{X:Ctx}(hs:HSim B X){s:Nat}{z:Blk}{o:Obj}(hd:X.h[s]?=some .dead)(hmen:s∉q0j X.h)(hz:vM (X.slot s z o) s z):HSim B (X.slot s z o):=by
 have hm:=qfE hs (s:=s) (z:=z) (o:=o)
 have hsl:=qk hd
 have himp:B.imps.length≤s:=by
  rcases Nat.lt_or_ge s B.imps.length with h|h
  ·obtain⟨k,h1,h2⟩:=hs.impc s h
   rw[hd] at h1;cases h1;cases h2
  ·exact h
 have hget:∀b k',(X.slot s z o).h[b]?=some k'→b≠s∧X.h[b]?=some k'∨b=s∧k'=z:=by
  intro b k' h
  by_cases hb:b=s
  ·subst hb
   have:(X.h.set b z)[b]?=some k':=h
   rw[List.getElem?_set_self hsl] at this
   exact .inr ⟨rfl,(Option.some.inj this).symm⟩
  ·have:(X.h.set s z)[b]?=some k':=h
   rw[List.getElem?_set_ne (fun e=>hb e.symm)] at this
   exact .inl ⟨hb,this⟩
 have hσ:∀b,b≠s→(X.slot s z o).σ b=X.σ b:=fun b hb=>by simp[Ctx.slot,hb]
 have hσn:(X.slot s z o).σ s=some X.w.heap.size:=by simp[Ctx.slot]
 have hold:∀n,n<X.w.heap.size→(X.slot s z o).w.heap[n]?=X.w.heap[n]?:=fun n hn=>zw _ _ hn
 have hsize:X.w.heap.size≤(X.slot s z o).w.heap.size:=by
  show _≤(X.w.alloc o).heap.size
  simp
 have hown:∀b n,(X.slot s z o).own b n→X.own b n∨b=s∧n=X.w.heap.size:=by
  intro b n ⟨h1,k',h2,h3⟩
  rcases hget b k' h2 with⟨hb,h4⟩|⟨rfl,rfl⟩
  ·exact .inl ⟨by rw[←hσ b hb];exact h1,k',h4,h3⟩
  ·rw[hσn] at h1;exact .inr ⟨rfl,(Option.some.inj h1).symm⟩
 constructor
 ·intro b k' h
  rcases hget b k' h with⟨hb,h4⟩|⟨rfl,rfl⟩
  ·by_cases hdd:k'=.dead
   ·subst hdd;trivial
   ·have:=vM.move hm.toMove0 (b':=b) (hσ b hb) (fun n hn=>hold n (hs.lt h4 hdd hn)) (hs.blk b k' h4)
    rwa [Blk.ren_void k' (qdE hmen h4)] at this
  ·exact hz
 ·intro b b' n h h'
  rcases hown b n h with h1|⟨g1,g2⟩
  ·rcases hown b' n h' with h2|⟨g3,g4⟩
   ·exact hs.inj b b' n h1 h2
   ·exact absurd (Ctx.own.lt hs h1) (by omega)
  ·rcases hown b' _ h' with h2|⟨g3,_⟩
   ·exact absurd (Ctx.own.lt hs h2) (by omega)
   ·rw[g1,g3]
 ·intro b n h hM
  rcases hown b n h with h1|⟨g1,g2⟩
  ·exact hs.notM b n h1 hM
  ·exact absurd (hs.ltM _ hM) (by omega)
 ·intro n h
  have:=hs.ltM n h
  omega
 ·exact hs.M0
 ·exact hs.newM
 ·exact hs.os
 ·exact hs.tape
 ·exact hs.output
 ·have:=hs.size;omega
 ·intro n hn hni
  have:=hs.size
  rw[hold _ (by omega)]
  exact hs.frame n hn hni
 ·intro b hb
  rw[hσ b (by omega)];exact hs.imps b hb
 ·intro b hb
  obtain⟨cs,h,hc⟩:=hs.impc b hb
  exact⟨cs,by show (X.h.set s z)[b]?=_;rw[List.getElem?_set_ne (by omega)];exact h,hc⟩
 ·intro b n h hb
  rcases hown b n h with h1|⟨g1,g2⟩
  ·exact hs.fresh b n h1 hb
  ·have:=hs.size;omega
 ·intro p hp
  obtain⟨q1,q2,q3⟩:=hs.kept p hp
  exact⟨(hold _ (Array.getElem?_eq_some_iff.1 q1).1).trans q1,q2,q3⟩
theorem qoS{E:Env}{P:Program}(hE:E.tok P){B:Base}{X:Ctx}(hs:HSim B X){t:TypeId}{z:Blk}(hz:uU E t=some z){s:Nat}(hd:X.h[s]?=some .dead)(hmen:s∉q0j X.h) :
  ∃o:Obj,((do pure (.value (←Instr.alloc t true (.tuple #[]))):Sem Next)).run P X.w=.ok (.value (.pointer (some ⟨X.w.heap.size,0,none⟩))) (X.w.alloc o)∧HSim B (X.slot s z o)∧Move X (X.slot s z o) (q3I s) ∧
   Rep (X.slot s z o) (.ptr s 0) (.pointer (some ⟨X.w.heap.size,0,none⟩)):=by
 have hsl:=qk hd
 have hptr:∀o,Rep (X.slot s z o) (.ptr s 0) (.pointer (some ⟨X.w.heap.size,0,none⟩)):=fun o=>.ptr _ _ _ (by simpa[Ctx.slot] using hsl) (by simp[Ctx.slot])
 unfold uU at hz
 split at hz
 ·rename_i o k n hb
  split at hz
  ·cases hz
   obtain⟨b1,b2,b3,b4,_⟩:=qaC hb
   obtain⟨v,h1,h2,_⟩:=q87 hE (t:=t) (by omega) X.w
   refine⟨.cells v.cells t,by simp[Instr.alloc,h1,q4F],qm0 hs hd hmen ?_,qfE hs,hptr _⟩
   exact⟨X.w.heap.size,v.cells,t,(E.ty t).zero.take o,by simp[Ctx.slot],zu _ _,vj _ _,by rw[h2];exact qen hb,qha _ _⟩
  ·cases hz
 ·split at hz
  ·rename_i hc
   cases hz
   obtain⟨v,h1,h2,_⟩:=q87 hE (t:=t) (by simpa using hc.2) X.w
   refine⟨.cells v.cells t,by simp[Instr.alloc,h1,q4F],qm0 hs hd hmen ?_,qfE hs,hptr _⟩
   exact⟨X.w.heap.size,v.cells,t,by simp[Ctx.slot],zu _ _,by rw[h2];exact vj _ _⟩
  ·cases hz
theorem qdi{E:Env}{P:Program}(hE:E.tok P){B:Base}{X:Ctx}{st:St}{a:Act}(hs:Sim E B X st a){o:Oper}{t:TypeId}(hop:o.op=.alloc t){z:Blk}(hz:uU E t=some z){s:Nat}(hd:st.h[s]?=some .dead)
  (hmen:s∉q0j st.h) (ht:s∉AV.menL st.t) (hf:s∉q7b st.fs) {next:Act→World→Prop} {Q:Exit→Act→World→Prop}
  (hq:∀X' v,Sim E B X' { st with h:=st.h.set s z } a→Rep X' (.ptr s 0) v→next (a.put o.dst v) X'.w):o.wp P a X.w next Q:=by
 rw[←hs.h] at hd hmen
 obtain⟨ob,h1,h2,h3,h4⟩:=qoS hE hs.hs hz hd hmen
 unfold Oper.wp
 have hrun:(execOp a.eval o).run P X.w=.ok (.value (.pointer (some ⟨X.w.heap.size,0,none⟩))) (X.w.alloc ob):=by
  rw[←h1]
  simp only[execOp,hop]
 rw[hrun]
 refine hq (X.slot s z ob) _ ⟨h2,?_,?_,?_,fun x hx=>?_,h3.kept▸hs.df,hs.ni,h3.y.trans hs.y,fun p hp=>h3.kept▸hs.pin p hp⟩ h4
 ·show X.h.set s z=st.h.set s z
  rw[hs.h]
 ·have:=hs.t.ren h3.toMove0
  rwa [AV.renL_void _ ht] at this
 ·have:=hs.fs.ren h3.toMove0
  rwa [qdJ _ hf] at this
 ·obtain⟨⟨sh,l,i,off,he⟩,hr⟩:=hs.glob x hx
  refine⟨⟨sh,l,i,off,he⟩,hr.move h3.M h3.w ?_⟩
  have:=hr.1.ren h3.toMove0
  rw[he] at this ⊢
  exact this
theorem Sim.pad{E:Env}{B:Base}{X:Ctx}{st:St}{a:Act}(hs:Sim E B X st a):∃X',X'.w=X.w∧Sim E B X' { st with h:=st.h++[.dead] } a:=by
 have hw:=PushW.same X
 have hs1:=HSim.push hs.hs (k:=.dead) hw trivial
 have:=hs.ext (Ctx.push_ext hs.hs .dead hw) hs1
 refine⟨X.pushW .dead none X.w,rfl,?_⟩
 have e:(X.pushW .dead none X.w).h=st.h++[.dead]:=by rw[←hs.h];rfl
 rw[e] at this
 exact this
theorem Sim.padN{E:Env}{B:Base}{a:Act}:∀(n:Nat) {X:Ctx} {st:St},Sim E B X st a→∃X',X'.w=X.w∧Sim E B X' { st with h:=st.h++List.replicate n .dead } a
 | 0,X,st,hs=>⟨X,rfl,by simpa using hs⟩
 | n+1,X,st,hs=>by
  obtain⟨X1,h1,h2⟩:=hs.pad
  obtain⟨X2,h3,h4⟩:=Sim.padN n h2
  refine⟨X2,h3.trans h1,?_⟩
  have e:st.h++[.dead]++List.replicate n .dead=st.h++List.replicate (n+1) .dead:=by simp[List.replicate_succ]
  simp only at h4
  rw[e] at h4
  exact h4
end Go.Eng

namespace Go.Eng
theorem stL{all:Array Oper}{V:Nat→AV}{T0:List AV}{L L':Nat→Bool}:∀n,(∀j,j<n→L j=L' j)→TLp (qF all) V T0 L n=TLp (qF all) V T0 L' n
 | 0,_=>rfl
 | n+1,h=>by
  simp only[TLp]
  rw[h n (Nat.lt_succ_self n),stL n fun j hj=>h j (by omega)]
theorem qgw{all:Array Oper}(hd:DrawOk all){listed:Array Bool}(hsz:listed.size=all.size)(h:Region.ready .any all listed=[]):∀i,i<all.size→listed.getD i false=true:=by
 intro i
 induction i using Nat.strongRecOn with
 | _ i ih=>
  intro hi
  cases hl:listed.getD i false with
  | true=>rfl
  | false=>
   have ho:all[i]?=some all[i]:=Array.getElem?_eq_getElem hi
   have:i∈Region.ready .any all listed:=by
    rw[mem_ready]
    refine⟨?_,all[i],ho,fun e he hb=>?_⟩
    ·have hi':i<listed.size:=by omega
     simpa[Array.getD_eq_getD_getElem?,hi'] using hl
    ·have hlt:=hd.edge i _ ho e (by simpa using he) hb
     exact ih e.on hlt (by omega)
   rw[h] at this;cases this
theorem q7k{all:Array Oper}{listed:Array Bool}{i:Nat}{o:Oper}(hsz:listed.size=all.size)(ho:all[i]?=some o)(hc:q7g all fun j=>listed.getD j false)
  (hedge:∀e,e∈o.after.toList→Region.binds .any e=true→listed.getD e.on false=true):q7g all fun j=>(listed.setIfInBounds i true).getD j false:=by
 have hi:i<listed.size:=by rw[hsz];exact(Array.getElem?_eq_some_iff.1 ho).1
 intro j oj hj hL e he hb
 show (listed.setIfInBounds i true).getD e.on false=true
 rw[wn hi]
 split
 ·rfl
 ·by_cases hji:j=i
  ·subst hji
   rw[ho] at hj;cases hj
   exact hedge e he hb
  ·have hL':(listed.setIfInBounds i true).getD j false=true:=hL
   rw[wn hi,if_neg hji] at hL'
   exact hc j oj hj hL' e he hb
theorem qij{h:List Blk}{b c:Nat}(hb:b≠c):(zy h c)[b]?=h[b]?:=by
 unfold zy
 split
 ·rw[List.getElem?_set_ne (fun e=>hb e.symm)]
 ·rfl
theorem qcd{b:Nat}:∀(l:List Nat) (h:List Blk),b∉l→(qW h l)[b]?=h[b]?
 | [],_,_=>rfl
 | c::l,h,hb=>by
  simp only[List.mem_cons,not_or] at hb
  simp only[qW]
  rw[qcd l _ hb.2,qij hb.1]
theorem qee{b:Nat}:∀(l:List Nat) (h:List Blk),b∉l→(q98 h l)[b]?=h[b]?
 | [],_,_=>rfl
 | c::l,h,hb=>by
  simp only[List.mem_cons,not_or] at hb
  simp only[q98]
  split
  ·rw[qee l _ hb.2,List.getElem?_set_ne (fun e=>hb.1 e.symm)]
  ·exact qee l _ hb.2
theorem qgj{b:Nat}:∀(l:List Nat) (h:List Blk) (ks:List Blk) (h':List Blk),vD h l ks=some h'→b∉l→h'[b]?=h[b]?
 | [],h,ks,h',hp,_=>by cases ks<;>(simp only[vD,Option.some.injEq] at hp;rw[hp])
 | c::l,h,[],h',hp,_=>by simp[vD] at hp
 | c::l,h,k::ks,h',hp,hb=>by
  simp only[List.mem_cons,not_or] at hb
  simp only[vD] at hp
  split at hp
  ·cases hq:vD h l ks with
   | none=>rw[hq] at hp;cases hp
   | some h2=>
    rw[hq] at hp
    simp only[Option.map_some,Option.some.injEq] at hp
    rw[←hp,List.getElem?_set_ne (fun e=>hb.1 e.symm)]
    exact qgj l h ks h2 hq hb.2
  ·cases hp
theorem qat{b:Nat}:∀(l:List Nat),b∈qbC l→b∈l
 | [],h=>h
 | a::l,h=>by
  simp only[qbC] at h
  split at h
  ·exact List.mem_cons_of_mem _ (qat l h)
  ·rcases List.mem_cons.1 h with rfl|h
   ·exact List.mem_cons_self
   ·exact List.mem_cons_of_mem _ (qat l h)
mutual
theorem qsP:∀(a:AV) (h h':List Blk),(a.lend h).men=(a.lend h').men
 | .vec b,h,h'=>by
  have:∀h,((AV.vec b).lend h).men=[]:=fun h=>by
   simp only[AV.lend]
   split<;>rfl
  rw[this,this]
 | .agg cs,h,h'=>by simp only[AV.lend,AV.men];exact qd5 cs h h'
 | .tuple cs,h,h'=>by simp only[AV.lend,AV.men];exact qd5 cs h h'
 | .undef,_,_|.yld,_,_|.skip,_,_|.blit _,_,_|.bool _,_,_|.ilit _ _,_,_|.int _ _,_,_|.str _,_,_|.nilp,_,_|.ptr _ _,_,_|.eptr _ _ _ _,_,_|.mptr _ _ _ _ _,_,_|.vptr _ _ _,_,_|.vsub _ _,_,_|.aptr _ _ _,_,_|.asub _ _ _ _ _,_,_|.bagg _ _ _ _,_,_|.nils,_,_|.imm _ _,_,_|.full _ _,_,_|.nilf,_,_|.fn _ _ _,_,_=>rfl
theorem qd5:∀(l:List AV) (h h':List Blk),AV.menL (AV.lendL h l)=AV.menL (AV.lendL h' l)
 | [],_,_=>rfl
 | a::l,h,h'=>by simp only[AV.lendL,AV.menL];rw[qsP a h h',qd5 l h h']
end
theorem qhY{G:u4}{args:List AV}{st:St}{r:AV×St}(h:(ub G args st).run=some r){b:Nat}(hb:b<st.h.length)(hw:b∉qqs st.h args):r.2.h[b]?=st.h[b]?:=by
 unfold ub at h
 unfold qqs at hw
 simp only[List.mem_append,not_or] at hw
 obtain⟨⟨w1,w2⟩,w3⟩:=hw
 have hpre:(kO st.h args)[b]?=st.h[b]?:=by
  unfold kO
  simp only
  rw[qee _ _ w3,qcd _ _ w2,qcd _ _ w1]
 simp only at h
 split at h
 ·cases h
 ·obtain⟨r0,h1,h2⟩:=bind_some h
  split at h2
  ·cases h2
  ·rename_i hput
   cases h2
   have hfp:b∉qbC (AV.menL (AV.lendL (kO st.h args) args)):=by
    intro hm
    have hm:=qat _ hm
    rw[qd5 args (kO st.h args) (qW st.h (args.flatMap wK))] at hm
    exact w3 hm
   have:=qgj _ _ _ _ hput hfp
   rw[hpre] at this
   have hl:st.h[b]?=some st.h[b]:=List.getElem?_eq_getElem hb
   rw[hl] at this
   rw[List.getElem?_append_left (qk this),this,hl]
theorem qfI{E:Env}{h:List Blk}{t:TypeId}{p v:AV}{r:Res}(hr:(q8f E h t p v).run=some r){b:Nat}(hb:b∉p.men):r.2.1[b]?=h[b]?:=by
 unfold q8f at hr
 simp only at hr
 split at hr
 ·cases p<;>simp only at hr<;>first|(cases hr;done)|skip
  case ptr b' off=>
   have hne:b'≠b:=fun e=>hb (by simp[AV.men,e])
   split at hr
   ·split at hr
    ·cases hr;exact List.getElem?_set_ne hne
    ·cases hr
   ·cases hr
  case vptr b' i off=>
   have hne:b'≠b:=fun e=>hb (by simp[AV.men,e])
   split at hr
   ·split at hr
    ·split at hr
     ·cases hr;exact List.getElem?_set_ne hne
     ·cases hr
    ·cases hr
   ·cases hr
 ·cases hr
theorem qmE{E:Env}{h:List Blk}{t:TypeId}{p v:AV}{r:Res}(hr:(q4d E h t p v).run=some r){b:Nat}(hb:b∉p.men):r.2.1[b]?=h[b]?:=by
 unfold q4d at hr
 split at hr
 ·rename_i b' off
  have hne:b'≠b:=fun e=>hb (by simp[AV.men,e])
  split at hr
  ·unfold qr4 at hr
   split at hr
   ·split at hr
    ·cases hr;exact List.getElem?_set_ne hne
    ·cases hr
   ·split at hr
    ·split at hr
     ·cases hr;exact List.getElem?_set_ne hne
     ·split at hr
      ·split at hr<;>first|(cases hr;done)|skip
       all_goals (try (cases hr;exact List.getElem?_set_ne hne))
      ·cases hr
    ·cases hr
  ·exact qfI hr hb
 ·rename_i b' o i
  have hne:b'≠b:=fun e=>hb (by simp[AV.men,e])
  split at hr
  ·split at hr
   ·split at hr
    ·simp only[Tree.run] at hr
     split at hr
     ·cases hr;exact List.getElem?_set_ne hne
     ·cases hr
    ·cases hr
   ·cases hr
  ·cases hr
 ·exact qfI hr hb
theorem qka{ev:Operand→AV}{op:Op}{q:FuncId×List AV}(h:vT ev op=some q):qdI op=true∧∃x args tys first caps,op=.call { callee:=.value x,args:=args,argTypes:=tys }∧ev x=.fn q.1 first caps∧q.2=first++args.toList.map ev++caps:=by
 unfold vT at h
 split at h
 ·rename_i x args tys
  split at h
  ·rename_i f first caps hx
   cases h
   exact⟨rfl,x,args,tys,first,caps,rfl,hx,rfl⟩
  ·cases h
 ·cases h
theorem qmO{E:Env}{h h':List Blk}{ev:Operand→AV}{op:Op}{v:AV}(hr:(qdO E h ev op).run=some (v,h')){b:Nat}(hb:b<h.length)(hw:b∉qvF h ev op):h'[b]?=h[b]?:=by
 unfold qdO at hr
 unfold qvF at hw
 cases hc:vT ev op with
 | some q=>
  obtain⟨f,args⟩:=q
  rw[hc] at hr hw
  simp only at hr hw
  cases hs:qbh E f with
  | none=>rw[hs] at hr;cases hr
  | some G=>
   rw[hs] at hr
   obtain⟨r,h1,h2⟩:=bind_some hr
   cases h2
   exact qhY (st:={ t:=[],fs:=[],h:=h,pend:=none }) h1 hb hw
 | none=>
  rw[hc] at hr hw
  simp only at hr hw
  cases hst:qdU op with
  | true=>
   rw[hst] at hr
   obtain⟨r,h1,h2⟩:=bind_some hr
   cases op<;>first|(cases hst;done)|skip
   rename_i t x y
   simp only at hw
   split at h2
   ·cases h2
    exact qmE h1 hw
   ·cases h2
  | false=>
   rw[hst] at hr
   obtain⟨r,h1,h2⟩:=bind_some hr
   cases h2
   rw[List.getElem?_append_left hb]
theorem qhD{f g:Operand→AV}{op:Op}(hfg:∀x∈op.operands.toList,f x=g x):vT f op=vT g op:=by
 unfold vT
 split
 ·rename_i x args tys
  rw[hfg x (by simp[Op.operands,Call.operands])]
  have:args.toList.map f=args.toList.map g:=List.map_congr_left fun y hy=>hfg y (by simp only[Op.operands,Call.operands,Array.toList_append];exact List.mem_append_right _ hy)
  rw[this]
 ·rfl
theorem qn9{E:Env}{h:List Blk}{f g:Operand→AV}{op:Op}(hfg:∀x∈op.operands.toList,f x=g x):qj1 E h f op=qj1 E h g op∧qdO E h f op=qdO E h g op:=by
 have hc:=qhD hfg
 constructor
 ·unfold qj1;rw[hc]
 ·unfold qdO
  rw[hc]
  cases vT g op with
  | some q=>rfl
  | none=>
   simp only
   cases hs:qdU op with
   | true=>
    cases op<;>first|(cases hs;done)|skip
    rename_i t x y
    have e:qf4 E h f (.store t x y)=qf4 E h g (.store t x y):=by
     unfold qf4
     simp only
     rw[hfg x (by simp[Op.operands]),hfg y (by simp[Op.operands])]
    simp only[e]
   | false=>simp only;rw[qeL hfg]
theorem qmj{E:Env}{P:Program}(hE:E.tok P)(hS:E.specs P){B:Base}{X:Ctx}{st:St}{a:Act}(hs:Sim E B X st a){o:Oper}{av:AV}{h':List Blk}
  (h:(qdO E st.h (E.opd st.t) o.op).run=some (av,h')) {next:Act→World→Prop} {Q:Exit→Act→World→Prop}
  (hq:∀X' v,Sim E B X' { st with h:=h' } a→Rep X' av v→next (a.put o.dst v) X'.w):o.wp P a X.w next Q∧∀c,o.op≠.defer c:=by
 unfold qdO at h
 cases hcl:vT (E.opd st.t) o.op with
 | some q=>
  obtain⟨f,aargs⟩:=q
  rw[hcl] at h
  simp only at h
  obtain⟨_,x,args,tys,first,caps,hop,hx,ha⟩:=qka hcl
  simp only at hx ha
  refine⟨?_,fun c hc=>by rw[hop] at hc;cases hc⟩
  cases hsp:qbh E f with
  | none=>rw[hsp] at h;cases h
  | some G=>
   rw[hsp] at h
   obtain⟨r,h1,h2⟩:=bind_some h
   simp only[Tree.run,Option.some.injEq,Prod.mk.injEq] at h2
   obtain⟨rfl,rfl⟩:=h2
   unfold qbh at hsp
   cases hf:E.spec.find? fun x=>x.1==f with
   | none=>rw[hf] at hsp;cases hsp
   | some G'=>
    rw[hf] at hsp
    simp only[Option.map_some,Option.some.injEq] at hsp
    subst hsp
    have hG:=hS.sp G' (List.mem_of_find?_eq_some hf)
    have hfe:G'.1=f:=by simpa using List.find?_some hf
    rw[hfe] at hG
    have hv:=q3v hs x
    rw[hx] at hv
    generalize hev:a.eval x=vx at hv
    cases hv with
    | fn _ _ _ vf vc q1 q2=>
     have hargs:=q0u hs args.toList
     have hall:RepL X aargs (vf++args.toList.map a.eval++vc):=by rw[ha];exact(q1.append hargs).append q2
     have hcs:(ub G'.2 aargs st).run=some (r.1,{ st with h:=r.2.h }):=by
      unfold ub at h1 ⊢
      simp only at h1 ⊢
      split at h1
      ·cases h1
      ·obtain⟨r0,k1,k2⟩:=bind_some h1
       rw[Tree.run_bind,k1]
       simp only[Option.bind_some]
       split at k2
       ·cases k2
       ·cases k2
        rfl
     have g2:=q2X hG hs hall hcs
     have g1:=hG.1 (vf++args.toList.map a.eval++vc).toArray
     unfold Oper.wp
     have hrun:(execOp a.eval o).run P X.w=.ok (.enter f (vf++args.toList.map a.eval++vc).toArray) X.w:=by
      simp only[execOp,hop,resolve,hev,Deferred.ofValue,Sem.run_bind,Sem.run_pure,Result.andThen_ok,invoke]
      have:vf.toArray++args.map a.eval++vc.toArray=(vf++args.toList.map a.eval++vc).toArray:=by
       apply Array.ext';simp
      rw[this]
      exact g1 X.w
     rw[hrun]
     refine g2.mono fun e w' ⟨v,X',e1,e2,e3,e4⟩=>?_
     subst e1 e2
     exact hq X' _ e4 e3
 | none=>
  rw[hcl] at h
  simp only at h
  have hop:(qf4 E st.h (E.opd st.t) o.op).run=some (av,h',none)∧∀c,o.op≠.defer c:=by
   cases hst:qdU o.op with
   | true=>
    rw[hst] at h
    obtain⟨r,h1,h3⟩:=bind_some h
    refine⟨?_,fun c hc=>by rw[hc] at hst;cases hst⟩
    split at h3
    ·rename_i hn
     simp only[Tree.run,Option.some.injEq,Prod.mk.injEq] at h3
     rw[h1]
     obtain⟨r1,r2,r3⟩:=r
     simp only at hn h3
     rw[hn,h3.1,h3.2]
    ·cases h3
   | false=>
    rw[hst] at h
    obtain⟨r,h1,h3⟩:=bind_some h
    simp only[Tree.run,Option.some.injEq,Prod.mk.injEq] at h3
    obtain⟨r1,r2⟩:=r
    obtain⟨g1,_,_⟩:=ql9 h1
    simp only at h3
    obtain⟨rfl,rfl⟩:=h3
    exact⟨g1,fun c hc=>by rw[hc] at h1;simp[q57,Tree.run] at h1⟩
  refine⟨?_,hop.2⟩
  obtain⟨nx,v,X',g1,g2,g3,g4,g5⟩:=qct hE hs hop.1
  have hs2:Sim E B X' { st with h:=h' } a:=by
   have:=hs.ext g5.2 g4
   rw[g5.1] at this
   exact this
  unfold Oper.wp
  rw[g1]
  rcases g2 with rfl|⟨rfl,rfl⟩
  ·exact hq X' _ hs2 g3
  ·exact hq X' _ hs2 g3
mutual
theorem qsq:∀(a:AV) (h:List Blk) (b:Nat),b∈(a.lend h).men→b∈a.men
 | .vec c,h,b,hb=>by
  simp only[AV.lend] at hb
  split at hb<;>cases hb
 | .agg cs,h,b,hb=>by simp only[AV.lend,AV.men] at hb ⊢;exact qd7 cs h b hb
 | .tuple cs,h,b,hb=>by simp only[AV.lend,AV.men] at hb ⊢;exact qd7 cs h b hb
 | .undef,_,_,hb|.yld,_,_,hb|.skip,_,_,hb|.blit _,_,_,hb|.bool _,_,_,hb|.ilit _ _,_,_,hb|.int _ _,_,_,hb|.str _,_,_,hb|.nilp,_,_,hb|.ptr _ _,_,_,hb|.eptr _ _ _ _,_,_,hb|.mptr _ _ _ _ _,_,_,hb|.vptr _ _ _,_,_,hb|.vsub _ _,_,_,hb|.aptr _ _ _,_,_,hb|.asub _ _ _ _ _,_,_,hb|.bagg _ _ _ _,_,_,hb|.nils,_,_,hb|.imm _ _,_,_,hb|.nilf,_,_,hb|.fn _ _ _,_,_,hb=>hb
theorem qd7:∀(l:List AV) (h:List Blk) (b:Nat),b∈AV.menL (AV.lendL h l)→b∈AV.menL l
 | [],_,_,hb=>hb
 | a::l,h,b,hb=>by
  simp only[AV.lendL,AV.menL,List.mem_append] at hb ⊢
  exact hb.imp (qsq a h b) (qd7 l h b)
end
mutual
theorem qoQ:∀(a:AV) (h:List Blk),a.men=[]→a.lend h=a
 | .vec b,h,hm=>by simp[AV.men] at hm
 | .agg cs,h,hm=>by simp only[AV.lend];rw[q8b cs h (by simpa[AV.men] using hm)]
 | .tuple cs,h,hm=>by simp only[AV.lend];rw[q8b cs h (by simpa[AV.men] using hm)]
 | .undef,_,_|.yld,_,_|.skip,_,_|.blit _,_,_|.bool _,_,_|.ilit _ _,_,_|.int _ _,_,_|.str _,_,_|.nilp,_,_|.ptr _ _,_,_|.eptr _ _ _ _,_,_|.mptr _ _ _ _ _,_,_|.vptr _ _ _,_,_|.vsub _ _,_,_|.aptr _ _ _,_,_|.asub _ _ _ _ _,_,_|.bagg _ _ _ _,_,_|.nils,_,_|.imm _ _,_,_|.full _ _,_,_|.nilf,_,_|.fn _ _ _,_,_=>rfl
theorem q8b:∀(l:List AV) (h:List Blk),AV.menL l=[]→AV.lendL h l=l
 | [],_,_=>rfl
 | a::l,h,hm=>by
  simp only[AV.menL,List.append_eq_nil_iff] at hm
  simp only[AV.lendL]
  rw[qoQ a h hm.1,q8b l h hm.2]
end
theorem qsK{h:List Blk}{b:Nat}{k:Blk}(hb:h[b]?=some k):h.set b k=h:=by
 apply List.ext_getElem?
 intro i
 by_cases hi:i=b
 ·subst hi;rw[List.getElem?_set_self (qk hb),hb]
 ·rw[List.getElem?_set_ne (fun e=>hi e.symm)]
def q7D(h:List Blk)(b:Nat):Bool:=match h[b]? with|some k=>k.plain|none=>false
theorem q95:∀(l:List Nat) (h:List Blk),l.all (q7D h)=true→q98 h l=h
 | [],_,_=>rfl
 | b::l,h,hl=>by
  simp only[List.all_cons,Bool.and_eq_true] at hl
  simp only[q98]
  split
  ·rename_i cs hb
   have h1:=hl.1
   unfold q7D at h1
   rw[hb] at h1
   simp only[Blk.plain,List.isEmpty_iff] at h1
   rw[q8b cs h h1,qsK hb]
   exact q95 l h hl.2
  ·exact q95 l h hl.2
theorem q6I:∀(l:List Nat) (h:List Blk),l.all (q7D h)=true→q4y h l=[]
 | [],_,_=>rfl
 | b::l,h,hl=>by
  simp only[List.all_cons,Bool.and_eq_true] at hl
  simp only[q4y]
  split
  ·rename_i cs hb
   have h1:=hl.1
   unfold q7D at h1
   rw[hb] at h1
   simp only[Blk.plain,List.isEmpty_iff] at h1
   have:cs.flatMap wK=[]:=by
    rw[List.flatMap_eq_nil_iff]
    intro a ha
    rw[List.eq_nil_iff_forall_not_mem]
    intro x hx
    have:=qfs ha (qer a x hx)
    rw[h1] at this;cases this
   rw[this,q6I l h hl.2];rfl
  ·exact q6I l h hl.2
theorem q8l{h:List Blk}{s c:Nat}{x y:Blk}(hc:c≠s):(h.set s x).set c y=(h.set c y).set s x:=List.set_comm _ _ (fun e=>hc e.symm)
theorem qmB{h:List Blk}{s c:Nat}(hc:c≠s):zy (h.set s .dead) c=(zy h c).set s .dead:=by
 unfold zy
 rw[List.getElem?_set_ne (fun e=>hc e.symm)]
 split
 ·exact q8l hc
 ·rfl
theorem qg4{s:Nat}:∀(l:List Nat) (h:List Blk),s∉l→qW (h.set s .dead) l=(qW h l).set s .dead
 | [],_,_=>rfl
 | c::l,h,hs=>by
  simp only[List.mem_cons,not_or] at hs
  simp only[qW]
  rw[qmB (fun e=>hs.1 e.symm)]
  exact qg4 l _ hs.2
theorem qez{s:Nat}{h:List Blk}{k:Blk}:∀(l:List Nat),s∉l→q0U (h.set s k) l=q0U h l
 | [],_=>rfl
 | c::l,hs=>by
  simp only[List.mem_cons,not_or] at hs
  simp only[q0U]
  rw[List.getElem?_set_ne (fun e=>hs.1 e),qez l hs.2]
theorem qh4{s:Nat}{h:List Blk}{d:Blk}:∀(l:List Nat) (ks:List Blk),s∉l→vD (h.set s d) l ks=(vD h l ks).map fun x=>x.set s d
 | [],ks,_=>by cases ks<;>rfl
 | c::l,[],_=>rfl
 | c::l,k::ks,hs=>by
  simp only[List.mem_cons,not_or] at hs
  simp only[vD]
  split
  ·rw[qh4 l ks hs.2]
   cases vD h l ks with
   | none=>rfl
   | some h2=>
    simp only[Option.map_some]
    rw[q8l (fun e=>hs.1 e.symm)]
  ·rfl
theorem qfQ:∀(l:List Nat) (h:List Blk),(qW h l).length=h.length
 | [],_=>rfl
 | c::l,h=>by
  simp only[qW]
  rw[qfQ l]
  unfold zy
  split<;>simp
theorem qfZ:∀(l:List Nat) (h ks h':List Blk),vD h l ks=some h'→h'.length=h.length
 | [],h,ks,h',hp=>by cases ks<;>(simp only[vD,Option.some.injEq] at hp;rw[hp])
 | c::l,h,[],h',hp=>by simp[vD] at hp
 | c::l,h,k::ks,h',hp=>by
  simp only[vD] at hp
  split at hp
  ·cases hq:vD h l ks with
   | none=>rw[hq] at hp;cases hp
   | some h2=>
    rw[hq] at hp
    simp only[Option.map_some,Option.some.injEq] at hp
    rw[←hp,List.length_set,qfZ l h ks h2 hq]
  ·cases hp
theorem qsF{args:List AV}{b:Nat}(hb:b∈args.flatMap wK):b∈AV.menL args:=by
 obtain⟨a,ha,hb⟩:=List.mem_flatMap.1 hb
 exact qfs ha (qer a b hb)
theorem qbn{h:List Blk}{args:List AV}(hp:(AV.menL (AV.lendL (qW h (args.flatMap wK)) args)).all (q7D (qW h (args.flatMap wK)))=true):kO h args=qW h (args.flatMap wK):=by
 unfold kO
 simp only
 rw[q6I _ _ hp]
 exact q95 _ _ hp
theorem qjI{G:u4}{args:List AV}{h:List Blk}{r:AV×St}(hr:(ub G args { t:=[],fs:=[],h:=h,pend:=none }).run=some r){s:Nat}(hs:s<h.length)(hm:s∉AV.menL args)
  (hp:(AV.menL (AV.lendL (qW h (args.flatMap wK)) args)).all (q7D (qW h (args.flatMap wK)))=true) :
  (ub G args { t:=[],fs:=[],h:=h.set s .dead,pend:=none }).run=some (r.1,{ t:=[],fs:=[],h:=r.2.h.set s .dead,pend:=none }) ∧
  (AV.menL (AV.lendL (qW (h.set s .dead) (args.flatMap wK)) args)).all (q7D (qW (h.set s .dead) (args.flatMap wK)))=true:=by
 have hv:s∉args.flatMap wK:=fun e=>hm (qsF e)
 have e1:=qg4 _ h hv
 have e2:AV.lendL ((qW h (args.flatMap wK)).set s .dead) args=AV.lendL (qW h (args.flatMap wK)) args:=q7f args fun b hb=>List.getElem?_set_ne (fun e=>by subst e;exact hm hb)
 have hfp:s∉AV.menL (AV.lendL (qW h (args.flatMap wK)) args):=fun e=>hm (qd7 _ _ _ e)
 have hp':(AV.menL (AV.lendL (qW (h.set s .dead) (args.flatMap wK)) args)).all (q7D (qW (h.set s .dead) (args.flatMap wK)))=true:=by
  rw[e1,e2]
  rw[List.all_eq_true] at hp ⊢
  intro b hb
  have:=hp b hb
  unfold q7D at this ⊢
  rw[List.getElem?_set_ne (fun e=>by subst e;exact hfp hb)]
  exact this
 refine⟨?_,hp'⟩
 have k1:=qbn hp
 have k2:=qbn hp'
 unfold ub at hr ⊢
 simp only at hr ⊢
 rw[k1] at hr
 rw[k2,e1,e2]
 have hfd:s∉qbC (AV.menL (AV.lendL (qW h (args.flatMap wK)) args)):=fun e=>hfp (qat _ e)
 rw[qez _ hfd]
 generalize hh1:qW h (args.flatMap wK)=h1 at *
 have hl1:s<h1.length:=by rw[←hh1,qfQ];exact hs
 cases htk:q0U h1 (qbC (AV.menL (AV.lendL h1 args))) with
 | none=>rw[htk] at hr;cases hr
 | some hin=>
  rw[htk] at hr
  simp only at hr ⊢
  obtain⟨r0,q1,q2⟩:=bind_some hr
  rw[Tree.run_bind,q1]
  simp only[Option.bind_some]
  rw[qh4 _ _ hfd]
  cases hpt:vD h1 (qbC (AV.menL (AV.lendL h1 args))) r0.2 with
  | none=>rw[hpt] at q2;cases q2
  | some h2=>
   rw[hpt] at q2
   simp only[Option.map_some] at q2 ⊢
   cases q2
   have hl2:s<h2.length:=by rw[qfZ _ _ _ _ hpt];exact hl1
   simp only[Tree.run,List.length_set,Option.some.injEq,Prod.mk.injEq,true_and]
   rw[List.set_append_left _ _ hl2]
theorem qpK{E:Env}{h:List Blk}{t:TypeId}{p v:AV}{r:Res}(hp:qtd p=true){s:Nat}(hm:s∉p.men)(hr:(q4d E h t p v).run=some r) :
  (q4d E (h.set s .dead) t p v).run=some (r.1,r.2.1.set s .dead,r.2.2):=by
 cases p<;>first|(cases hp;done)|skip
 case ptr b off=>
  have hne:b≠s:=fun e=>hm (by simp[AV.men,e])
  unfold q4d at hr ⊢
  simp only at hr ⊢
  rw[List.getElem?_set_ne (fun e=>hne e.symm)]
  have plain:∀{r:Res},(q8f E h t (.ptr b off) v).run=some r→(q8f E (h.set s .dead) t (.ptr b off) v).run=some (r.1,r.2.1.set s .dead,r.2.2):=by
   intro r hr
   unfold q8f at hr ⊢
   simp only at hr ⊢
   rw[List.getElem?_set_ne (fun e=>hne e.symm)]
   split at hr
   ·rename_i hc
    rw[if_pos hc]
    split at hr
    ·split at hr
     ·rename_i hc2
      rw[if_pos hc2]
      cases hr
      simp only[Tree.run,Option.some.injEq,Prod.mk.injEq,true_and,and_true]
      exact q8l hne
     ·cases hr
    ·cases hr
   ·cases hr
  split at hr
  ·unfold qr4 at hr ⊢
   split at hr
   ·split at hr
    ·rename_i hc
     rw[if_pos hc]
     cases hr
     simp only[Tree.run,Option.some.injEq,Prod.mk.injEq,true_and,and_true]
     exact q8l hne
    ·cases hr
   ·split at hr
    ·rename_i hc
     rw[if_pos hc]
     split at hr
     ·cases hr
      simp only[Tree.run,Option.some.injEq,Prod.mk.injEq,true_and,and_true]
      exact q8l hne
     ·split at hr
      ·split at hr
       ·rename_i hc2
        rw[if_pos hc2]
        cases hr
        simp only[Tree.run,Option.some.injEq,Prod.mk.injEq,true_and,and_true]
        exact q8l hne
       ·cases hr
      ·cases hr
    ·cases hr
  ·exact plain hr
 case aptr b o i=>
  have hne:b≠s:=fun e=>hm (by simp[AV.men,e])
  unfold q4d at hr ⊢
  simp only at hr ⊢
  rw[List.getElem?_set_ne (fun e=>hne e.symm)]
  split at hr
  ·split at hr
   ·split at hr
    ·rename_i hc
     rw[if_pos hc]
     simp only[Tree.run] at hr ⊢
     split at hr
     ·cases hr
      simp only[Option.some.injEq,Prod.mk.injEq,true_and,and_true]
      exact q8l hne
     ·cases hr
    ·cases hr
   ·cases hr
  ·cases hr
theorem qrL{h h':List Blk}{s:Sh}{a:AV}(hv:qqU a=true):toU h s a=toU h' s a:=by
 cases a<;>first|(cases hv;done)|(cases s<;>rfl)
theorem qiN{h h':List Blk}:∀(sh:List Sh) (azz:List AV),azz.all qqU=true→qht h sh azz=qht h' sh azz
 | [],[],_=>rfl
 | [],_::_,_=>rfl
 | _::_,[],_=>rfl
 | s::sh,a::azz,hv=>by
  simp only[List.all_cons,Bool.and_eq_true] at hv
  simp only[qht]
  rw[qrL (h':=h') hv.1,qiN (h':=h') sh azz hv.2]
theorem qsg{p:AV→Bool}{l:List AV}(h:l.all p=true)(n:Nat):(l.take n).all p=true:=by
 rw[List.all_eq_true] at h ⊢
 exact fun x hx=>h x (List.mem_of_mem_take hx)
theorem qs7{p:AV→Bool}{l:List AV}(h:l.all p=true)(n:Nat):(l.drop n).all p=true:=by
 rw[List.all_eq_true] at h ⊢
 exact fun x hx=>h x (List.mem_of_mem_drop hx)
theorem qbQ{h h':List Blk}{sh:List Sh}:∀(n:Nat) (cs:List AV),cs.all qqU=true→q99 h sh n cs=q99 h' sh n cs
 | 0,[],_=>rfl
 | 0,_::_,_=>rfl
 | n+1,cs,hv=>by
  simp only[q99]
  rw[qiN (h':=h') _ _ (qsg hv _),qbQ (h':=h') n _ (qs7 hv _)]
theorem qoW{E:Env}{h h':List Blk}{ev:Operand→AV}{op:Op}{v:AV}(hr:(qdO E h ev op).run=some (v,h')){s:Nat}(hs:s<h.length)(hq:s∉qdb ev op)(hmk:qt9 h ev op=true) :
  (qdO E (h.set s .dead) ev op).run=some (v,h'.set s .dead)∧qt9 (h.set s .dead) ev op=true:=by
 unfold qdO at hr ⊢
 unfold qt9 at hmk ⊢
 unfold qdb at hq
 cases hc:vT ev op with
 | some q=>
  obtain⟨f,args⟩:=q
  rw[hc] at hr hmk hq
  simp only at hr hmk hq ⊢
  cases hsp:qbh E f with
  | none=>rw[hsp] at hr;cases hr
  | some G=>
   rw[hsp] at hr
   simp only at hr ⊢
   obtain⟨r,h1,h2⟩:=bind_some hr
   cases h2
   obtain⟨g1,g2⟩:=qjI h1 hs hq hmk
   refine⟨?_,g2⟩
   rw[Tree.run_bind,g1]
   rfl
 | none=>
  rw[hc] at hr hmk hq
  simp only at hr hmk hq ⊢
  cases hst:qdU op with
  | true=>
   rw[hst] at hr
   simp only at hr ⊢
   cases op<;>first|(cases hst;done)|skip
   rename_i t x y
   simp only at hmk
   obtain⟨r,h1,h2⟩:=bind_some hr
   refine⟨?_,hmk⟩
   have hm:s∉(ev x).men:=fun e=>hq (by simp[Op.operands,AV.menL,e])
   have:=qpK hmk hm h1
   rw[Tree.run_bind,show (qf4 E (h.set s .dead) ev (.store t x y)).run=some (r.1,r.2.1.set s .dead,r.2.2) from this]
   simp only[Option.bind_some]
   obtain⟨r1,r2,r3⟩:=r
   cases r3 with
   | none=>cases h2;rfl
   | some _=>cases h2
  | false=>
   rw[hst] at hr
   simp only at hr ⊢
   cases op<;>simp only at hmk<;>first|(cases hmk;done)|skip
   case box t x=>
    refine⟨?_,rfl⟩
    unfold q57 qgS at hr ⊢
    simp only at hr ⊢
    cases hb:qeH (ev x) with
    | none=>rw[hb] at hr;cases hr
    | some z=>
     rw[hb] at hr
     simp only at hr ⊢
     cases hr
     simp only[Tree.bind,Tree.run,List.length_set,Option.some.injEq,Prod.mk.injEq,true_and]
     rw[List.set_append_left _ _ hs]
   case buildSlice t len parts=>
    refine⟨?_,rfl⟩
    unfold q57 at hr ⊢
    simp only at hr ⊢
    cases hd:(E.ty t).d<;>rw[hd] at hr<;>simp only at hr ⊢<;>first|(cases hr;done)|skip
    rename_i e es
    split at hr
    ·rename_i hc
     rw[if_pos hc]
     cases hf:q6x (fun i=>some (i*es,es)) ((List.replicate len ((E.ty e).zero.map wM)).flatten) (parts.toList.map fun p=>(p.1,ev p.2)) with
     | none=>rw[hf] at hr;cases hr
     | some cs=>
      cases hs2:E.shape 16 e with
      | none=>rw[hf,hs2] at hr;cases hr
      | some sh=>
       rw[hf,hs2] at hr
       simp only at hr ⊢
       split at hr
       ·rename_i hl
        rw[if_pos hl,qbQ (h':=h) _ _ hl.2]
        cases hch:q99 h sh len cs with
        | none=>rw[hch] at hr;cases hr
        | some l=>
         rw[hch] at hr
         simp only at hr ⊢
         cases hr
         simp only[Tree.bind,Tree.run,List.length_set,Option.some.injEq,Prod.mk.injEq,true_and]
         rw[List.set_append_left _ _ hs]
       ·cases hr
    ·cases hr
   case store t x y=>cases hst
def uP(D:Nat→Desc)(L:Nat→Bool):Nat→List Blk→List Blk
 | 0,h=>h
 | n+1,h=>match D n,L n with
  | .alc s,false=>(uP D L n h).set s .dead
  | _,_=>uP D L n h
def q0o(D:Nat→Desc)(L:Nat→Bool)(n a s:Nat):Prop:=a<n∧D a=.alc s∧L a=false
section
variable {D:Nat→Desc} {L L':Nat→Bool} {h:List Blk}
theorem js(n:Nat):(∃s,D n=.alc s∧L n=false∧uP D L (n+1) h=(uP D L n h).set s .dead)∨((∀s,¬(D n=.alc s∧L n=false))∧uP D L (n+1) h=uP D L n h):=by
 simp only[uP]
 cases hD:D n with
 | alc s=>
  cases hL:L n with
  | false=>exact .inl ⟨s,rfl,rfl,rfl⟩
  | true=>exact .inr ⟨fun s h=>(by cases h.2),rfl⟩
 | _=>exact .inr ⟨fun s h=>(by cases h.1),rfl⟩
theorem q5o:∀n,(uP D L n h).length=h.length
 | 0=>rfl
 | n+1=>by
  rcases js (D:=D) (L:=L) (h:=h) n with⟨s,_,_,e⟩|⟨_,e⟩
  ·rw[e,List.length_set,q5o n]
  ·rw[e,q5o n]
theorem qa0{b:Nat}:∀n,(∀a s,q0o D L n a s→s≠b)→(uP D L n h)[b]?=h[b]?
 | 0,_=>rfl
 | n+1,hb=>by
  have ih:=qa0 n fun a s hm=>hb a s ⟨by have:=hm.1;omega,hm.2⟩
  rcases js (D:=D) (L:=L) (h:=h) n with⟨s,h1,h2,e⟩|⟨_,e⟩
  ·rw[e,List.getElem?_set_ne (hb n s ⟨Nat.lt_succ_self n,h1,h2⟩),ih]
  ·rw[e,ih]
theorem qfJ(n:Nat)(hall:∀a s,¬q0o D L n a s):uP D L n h=h:=by
 apply List.ext_getElem?
 intro b
 exact qa0 n fun a s hm=>absurd hm (hall a s)
theorem qbw:∀n,(∀a s,a<n→D a=.alc s→L a=L' a)→uP D L n h=uP D L' n h
 | 0,_=>rfl
 | n+1,hl=>by
  have ih:=qbw n fun a s ha hd=>hl a s (by omega) hd
  simp only[uP]
  cases hD:D n with
  | alc s=>rw[←hl n s (Nat.lt_succ_self n) hD];cases L n<;>simp only[ih]
  | _=>simp only[ih]
theorem qaF{a s:Nat}(hs:s<h.length):∀n,q0o D L n a s→(uP D L n h)[s]?=some .dead
 | 0,hm=>by have:=hm.1;omega
 | n+1,hm=>by
  rcases js (D:=D) (L:=L) (h:=h) n with⟨s',h1,h2,e⟩|⟨h1,e⟩
  ·rw[e]
   by_cases hss:s'=s
   ·subst hss;rw[List.getElem?_set_self (by rw[q5o];exact hs)]
   ·rw[List.getElem?_set_ne hss]
    have hna:a≠n:=fun e=>by
     have:=hm.2.1;rw[e,h1] at this;cases this;exact hss rfl
    exact qaF hs n ⟨by have:=hm.1;omega,hm.2⟩
  ·rw[e]
   have hna:a≠n:=fun e=>h1 s (by rw[←e];exact hm.2)
   exact qaF hs n ⟨by have:=hm.1;omega,hm.2⟩
theorem qrx{n a s:Nat}{z:Blk}(hm:q0o D L n a s)(hz:h[s]?=some z)(hd:∀a' s',q0o D L n a' s'→a'≠a→s'≠s) :
  uP D (fun j=>if j=a then true else L j) n h=(uP D L n h).set s z:=by
 apply List.ext_getElem?
 intro b
 by_cases hb:b=s
 ·subst hb
  rw[List.getElem?_set_self (by rw[q5o];exact qk hz),qa0 n,hz]
  intro a' s' hm'
  have hna:a'≠a:=fun e=>by have:=hm'.2.2;simp[e] at this
  have:=hm'.2.2
  simp only[if_neg hna] at this
  exact hd a' s' ⟨hm'.1,hm'.2.1,this⟩ hna
 ·rw[List.getElem?_set_ne (fun e=>hb e.symm)]
  have:∀n,(uP D (fun j=>if j=a then true else L j) n h)[b]?=(uP D L n h)[b]?:=by
   intro n
   induction n with
   | zero=>rfl
   | succ n ih=>
    by_cases hna:n=a
    ·subst hna
     rcases js (D:=D) (L:=fun j=>if j=n then true else L j) (h:=h) n with⟨s',h1,h2,e⟩|⟨_,e⟩
     ·simp at h2
     ·rw[e,ih]
      rcases js (D:=D) (L:=L) (h:=h) n with⟨s',h1,h2,e'⟩|⟨_,e'⟩
      ·rw[e']
       have hs':s'=s:=by have:=hm.2.1;rw[h1] at this;cases this;rfl
       rw[hs',List.getElem?_set_ne (fun e=>hb e.symm)]
      ·rw[e']
    ·rcases js (D:=D) (L:=L) (h:=h) n with⟨s',h1,h2,e'⟩|⟨h0,e'⟩
     ·rcases js (D:=D) (L:=fun j=>if j=a then true else L j) (h:=h) n with⟨s2,k1,k2,e⟩|⟨k0,e⟩
      ·rw[h1] at k1;cases k1
       rw[e,e']
       by_cases hbs:s'=b
       ·subst hbs
        rw[List.getElem?_set,List.getElem?_set]
        simp only[if_true,q5o]
       ·rw[List.getElem?_set_ne hbs,List.getElem?_set_ne hbs,ih]
      ·exact absurd ⟨h1,by simp[hna,h2]⟩ (k0 s')
     ·rcases js (D:=D) (L:=fun j=>if j=a then true else L j) (h:=h) n with⟨s2,k1,k2,e⟩|⟨k0,e⟩
      ·exact absurd ⟨k1,by simpa[hna] using k2⟩ (h0 s2)
      ·rw[e,e',ih]
  exact this n
theorem qkF{s:Nat}(hs:s∉q0j h):∀n,s∉q0j (uP D L n h)
 | 0=>hs
 | n+1=>by
  have ih:=qkF hs n
  rcases js (D:=D) (L:=L) (h:=h) n with⟨s',h1,h2,e⟩|⟨_,e⟩
  ·rw[e]
   have:∀(l:List Blk) (i:Nat),s∉q0j l→s∉q0j (l.set i .dead):=by
    intro l
    induction l with
    | nil=>intro i h;simpa using h
    | cons k l ihl=>
     intro i h
     simp only[q0j,List.mem_append,not_or] at h
     cases i with
     | zero=>simp only[List.set_cons_zero,q0j,Blk.menB,List.nil_append];exact h.2
     | succ i=>
      simp only[List.set_cons_succ,q0j,List.mem_append,not_or]
      exact⟨h.1,ihl i h.2⟩
   exact this _ _ ih
  ·rw[e];exact ih
theorem qh0{E:Env}{h':List Blk}{ev:Operand→AV}{op:Op}{v:AV}(hr:(qdO E h ev op).run=some (v,h')):∀n,(∀a s,q0o D L n a s→s<h.length∧s∉qdb ev op∧qt9 h ev op=true) →
  (qdO E (uP D L n h) ev op).run=some (v,uP D L n h')∧((∃a s,q0o D L n a s)→qt9 (uP D L n h) ev op=true)
 | 0,_=>⟨hr,fun⟨a,s,hm⟩=>by have:=hm.1;omega⟩
 | n+1,hc=>by
  obtain⟨i1,i2⟩:=qh0 hr n fun a s hm=>hc a s ⟨by have:=hm.1;omega,hm.2⟩
  have up:∀a s,q0o D L n a s→q0o D L (n+1) a s:=fun a s hm=>⟨by have:=hm.1;omega,hm.2⟩
  rcases js (D:=D) (L:=L) (h:=h) n with⟨s,h1,h2,e⟩|⟨h0,e⟩
  ·rcases js (D:=D) (L:=L) (h:=h') n with⟨s',h1',_,e'⟩|⟨h0',e'⟩
   ·rw[h1] at h1';cases h1'
    obtain⟨c1,c2,c3⟩:=hc n s ⟨Nat.lt_succ_self n,h1,h2⟩
    have hmk:qt9 (uP D L n h) ev op=true:=by
     by_cases hex:∃a s,q0o D L n a s
     ·exact i2 hex
     ·rw[qfJ n fun a s hm=>hex ⟨a,s,hm⟩];exact c3
    obtain⟨g1,g2⟩:=qoW i1 (s:=s) (by rw[q5o];exact c1) c2 hmk
    rw[e,e']
    exact⟨g1,fun _=>g2⟩
   ·exact absurd ⟨h1,h2⟩ (h0' s)
  ·rcases js (D:=D) (L:=L) (h:=h') n with⟨s',h1',h2',e'⟩|⟨h0',e'⟩
   ·exact absurd ⟨h1',h2'⟩ (h0 s')
   ·rw[e,e']
    refine⟨i1,fun⟨a,s,hm⟩=>i2 ⟨a,s,?_,hm.2⟩⟩
    rcases Nat.lt_or_ge a n with ha|ha
    ·exact ha
    ·have:a=n:=by have:=hm.1;omega
     subst this
     exact absurd hm.2 (h0 s)
end
def Desc.isE:Desc→Bool
 | .eff _ _ _ _ _ _=>true
 | _=>false
def qcr(E:Env)(callS:List Blk→ki)(all:Array Oper)(h0:List Blk)(i:Nat)(o:Oper)(T:List AV)(v:AV)(h h':List Blk)(d:Desc):Prop:=
 (vU all o T=some false∧v=.skip∧h'=h∧d=.skip) ∨
 (vU all o T=some true∧∃u,(qg5 E callS h (E.opd T) o.op).run=some (u,h')∧v=qlV all i u∧d=q7e E h (E.opd T) o.op u h') ∨
 (vU all o T=some true∧h'=h∧∃t z s,o.op=.alloc t∧uU E t=some z∧h0[s]?=some z∧d=.alc s∧v=.ptr s 0)
theorem qkx{anc:List Nat}{x:Nat×Desc}{k:Nat}:q0e anc x k .skip=true:=by
 obtain⟨i,d⟩:=x
 cases d<;>simp[q0e,q1y]
theorem qmV{anc:List Nat}{i k:Nat}{d:Desc}:q0e anc (i,.skip) k d=true:=by
 cases d<;>simp[q0e,q1y]
theorem qkl{op:Op}{t:TypeId}(h:qgv op=some t):op=.alloc t:=by
 unfold qgv at h
 split at h
 ·cases h;rfl
 ·cases h
end Go.Eng

namespace Go.Eng
theorem qih{E:Env}{callS:List Blk→ki}{all:Array Oper}{anc:List Nat}{h0:List Blk}:∀(l:List Oper) (k c:Nat) (ds:List (Nat×Desc)) (st st':St) (zs:List Blk),
  qcz E l=some zs→(∀j z,zs[j]?=some z→h0[c+j]?=some z)→(qkL E callS all anc k l c ds st).run=some st' →
  ∃(V:Nat→AV) (H:Nat→List Blk) (D:Nat→Desc),H k=st.h∧st'={ st with t:=q1s V k l st.t,h:=H (k+l.length) } ∧
   (∀j o,l[j]?=some o→qcr E callS all h0 (k+j) o (q1s V k (l.take j) st.t) (V (k+j)) (H (k+j)) (H (k+j+1)) (D (k+j))) ∧
   (∀j,j<l.length→∀x,x∈ds→q0e anc x (k+j) (D (k+j))=true) ∧
   (∀j j',j<j'→j'<l.length→q0e anc (k+j,D (k+j)) (k+j') (D (k+j'))=true) ∧
   (∀j,j<zs.length→∃i,i<l.length∧D (k+i)=.alc (c+j))∧(∀i s,i<l.length→D (k+i)=.alc s→c≤s∧s<c+zs.length)
 | [],k,c,ds,st,st',zs,hal,_,h=>by
  simp only[qkL,Tree.run,Option.some.injEq] at h
  subst h
  simp only[qcz,Option.some.injEq] at hal
  subst hal
  exact⟨fun _=>.undef,fun _=>st.h,fun _=>.skip,rfl,rfl,fun j o hj=>by simp at hj,fun j hj=>by simp at hj,fun j j' _ hj=>by simp at hj,fun j hj=>by simp at hj,fun i s hi=>by simp at hi⟩
 | o::rest,k,c,ds,st,st',zs,hal,hz,h=>by
  have fin:∀(v:AV) (h':List Blk) (d:Desc) (c':Nat) (ds':List (Nat×Desc)) (zs':List Blk),qcz E rest=some zs'→(∀j z,zs'[j]?=some z→h0[c'+j]?=some z) →
    ((c'=c∧zs'=zs∧∀s,d≠.alc s)∨(d=.alc c∧c'=c+1∧zs.length=zs'.length+1))→qcr E callS all h0 k o st.t v st.h h' d→(∀x,x∈ds→q0e anc x k d=true)→(∀x,x∈ds→x∈ds')→(d=.skip∨(k,d)∈ds') →
    (qkL E callS all anc (k+1) rest c' ds' { st with t:=q90 st.t o.dst v,h:=h' }).run=some st' →
    ∃(V:Nat→AV) (H:Nat→List Blk) (D:Nat→Desc),H k=st.h∧st'={ st with t:=q1s V k (o::rest) st.t,h:=H (k+(o::rest).length) } ∧
   (∀j o',(o::rest)[j]?=some o'→qcr E callS all h0 (k+j) o' (q1s V k ((o::rest).take j) st.t) (V (k+j)) (H (k+j)) (H (k+j+1)) (D (k+j))) ∧
   (∀j,j<(o::rest).length→∀x,x∈ds→q0e anc x (k+j) (D (k+j))=true) ∧
   (∀j j',j<j'→j'<(o::rest).length→q0e anc (k+j,D (k+j)) (k+j') (D (k+j'))=true) ∧
   (∀j,j<zs.length→∃i,i<(o::rest).length∧D (k+i)=.alc (c+j))∧(∀i s,i<(o::rest).length→D (k+i)=.alc s→c≤s∧s<c+zs.length):=by
   intro v h' d c' ds' zs' hal' hz' hrel hmx hcr hds hd hr
   obtain⟨V,H,D,e1,e2,e3,e4,e5,e6,e7⟩:=qih rest (k+1) c' ds' _ st' zs' hal' hz' hr
   have hfold:∀(l:List Oper) (t:List AV),q1s (fun j=>if j=k then v else V j) (k+1) l t=q1s V (k+1) l t:=fun l t=>qbH l (k+1) t fun j hj=>if_neg (by omega)
   refine⟨fun j=>if j=k then v else V j,fun j=>if j=k then st.h else H j,fun j=>if j=k then d else D j,by simp,?_,?_,?_,?_,?_,?_⟩
   ·rw[e2]
    simp only[q1s,if_true,List.length_cons]
    rw[hfold,if_neg (by omega),show k+(rest.length+1)=k+1+rest.length by omega]
   ·intro j o' hj
    cases j with
    | zero=>
     simp only[List.getElem?_cons_zero,Option.some.injEq] at hj
     subst hj
     simp only[Nat.add_zero,if_true,List.take_zero,q1s]
     rw[if_neg (by omega),e1]
     exact hmx
    | succ j=>
     have:=e3 j o' (by simpa using hj)
     simp only[List.take_succ_cons,q1s,if_true]
     rw[hfold,show k+(j+1)=k+1+j by omega,if_neg (by omega),if_neg (by omega),if_neg (by omega),if_neg (by omega)]
     exact this
   ·intro j hj x hx
    cases j with
    | zero=>simp only[Nat.add_zero,if_true];exact hcr x hx
    | succ j=>
     have:=e4 j (by simpa using hj) x (hds x hx)
     simp only
     rw[show k+(j+1)=k+1+j by omega,if_neg (by omega)]
     exact this
   ·intro j j' hjj hj'
    obtain⟨j'',rfl⟩:∃x,j'=x+1:=⟨j'-1,by omega⟩
    have hl:j''<rest.length:=by simpa using hj'
    simp only
    rw[show k+(j''+1)=k+1+j'' by omega,if_neg (show ¬k+1+j''=k by omega)]
    cases j with
    | zero=>
     simp only[Nat.add_zero,if_true]
     rcases hd with rfl|hd
     ·exact qmV
     ·exact e4 j'' hl _ hd
    | succ j=>
     rw[show k+(j+1)=k+1+j by omega,if_neg (by omega)]
     exact e5 j j'' (by omega) hl
   ·intro j hj
    rcases hrel with⟨rfl,rfl,_⟩|⟨rfl,rfl,hzl⟩
    ·obtain⟨i,h1,h2⟩:=e6 j hj
     refine⟨i+1,by simpa using h1,?_⟩
     simp only
     rw[show k+(i+1)=k+1+i by omega,if_neg (by omega)]
     exact h2
    ·cases j with
     | zero=>exact⟨0,by simp,by simp⟩
     | succ j=>
      obtain⟨i,h1,h2⟩:=e6 j (by omega)
      refine⟨i+1,by simpa using h1,?_⟩
      simp only
      rw[show k+(i+1)=k+1+i by omega,if_neg (by omega),h2]
      congr 1;omega
   ·intro i s hi hs
    cases i with
    | zero=>
     simp only[Nat.add_zero,if_true] at hs
     rcases hrel with⟨_,_,h3⟩|⟨h3,_,hzl⟩
     ·exact absurd hs (h3 s)
     ·rw[h3] at hs;cases hs;omega
    | succ i=>
     simp only at hs
     rw[show k+(i+1)=k+1+i by omega,if_neg (by omega)] at hs
     have:=e7 i s (by simpa using hi) hs
     rcases hrel with⟨rfl,rfl,_⟩|⟨_,rfl,hzl⟩
     ·exact this
     ·omega
  simp only[qkL] at h
  simp only[qcz] at hal
  cases hao:qgv o.op with
  | some t=>
   rw[hao] at hal h
   simp only at hal h
   have hop:=qkl hao
   cases hg:o.guard with
   | some _=>rw[hg] at hal;cases hal
   | none=>
    rw[hg] at hal
    cases hab:uU E t with
    | none=>rw[hab] at hal;cases hal
    | some z=>
     rw[hab] at hal
     cases har:qcz E rest with
     | none=>rw[har] at hal;cases hal
     | some zs'=>
      rw[har] at hal
      simp only[Option.some.injEq] at hal
      subst hal
      have hw:vU all o st.t=some true:=by unfold vU;rw[hg]
      rw[hw] at h
      simp only at h
      split at h
      ·rename_i hall
       rw[List.all_eq_true] at hall
       refine fin (.ptr c 0) st.h (.alc c) (c+1) _ zs' har (fun j z' hj=>?_) (.inr ⟨rfl,rfl,rfl⟩) (.inr (.inr ⟨hw,rfl,t,z,c,hop,hab,hz 0 z rfl,rfl,rfl⟩)) hall (fun x hx=>List.mem_append_left _ hx) (.inr (List.mem_append_right _ List.mem_cons_self)) h
       have:=hz (j+1) z' (by simpa using hj)
       rw[show c+1+j=c+(j+1) by omega];exact this
      ·cases h
  | none=>
   rw[hao] at hal h
   simp only at hal h
   cases hw:vU all o st.t with
   | none=>rw[hw] at h;cases h
   | some b=>
    rw[hw] at h
    cases b with
    | true=>
     simp only at h
     obtain⟨r,h1,h2⟩:=bind_some h
     split at h2
     ·rename_i hall
      obtain⟨s,h3,h4⟩:=bind_some h2
      obtain⟨u,h'⟩:=r
      obtain rfl:=ql1 (st:={ st with h:=h' }) h3
      rw[List.all_eq_true] at hall
      exact fin _ h' _ c _ zs hal hz (.inl ⟨rfl,rfl,fun s hs=>by unfold q7e at hs;split at hs<;>cases hs⟩) (.inr (.inl ⟨hw,u,h1,rfl,rfl⟩)) hall (fun x hx=>List.mem_append_left _ hx) (.inr (List.mem_append_right _ List.mem_cons_self)) h4
     ·cases h2
    | false=>
     simp only at h
     exact fin .skip st.h .skip c ds zs hal hz (.inl ⟨rfl,rfl,fun s hs=>by cases hs⟩) (.inl ⟨hw,rfl,rfl,rfl⟩) (fun x _=>qkx) (fun x hx=>hx) (.inl rfl) h
theorem ql4{s:Nat}:∀(l:List AV) (i:Nat) (v:AV),s∉AV.menL l→s∉v.men→s∉AV.menL (l.set i v)
 | [],_,_,h,_=>by simpa using h
 | a::l,0,v,h,hv=>by
  simp only[AV.menL,List.mem_append,not_or] at h
  simp only[List.set_cons_zero,AV.menL,List.mem_append,not_or]
  exact⟨hv,h.2⟩
 | a::l,i+1,v,h,hv=>by
  simp only[AV.menL,List.mem_append,not_or] at h
  simp only[List.set_cons_succ,AV.menL,List.mem_append,not_or]
  exact⟨h.1,ql4 l i v h.2 hv⟩
theorem qjd{dst:Nat→Option Tmp}{V:Nat→AV}{T0:List AV}{L:Nat→Bool}{s:Nat}(h0:s∉AV.menL T0):∀n,(∀j,j<n→L j=true→s∉(V j).men)→s∉AV.menL (TLp dst V T0 L n)
 | 0,_=>h0
 | n+1,h=>by
  have ih:=qjd (dst:=dst) (V:=V) (L:=L) h0 n fun j hj=>h j (by omega)
  simp only[TLp]
  split
  ·rename_i hl
   cases hd:dst n with
   | none=>exact ih
   | some d=>exact ql4 _ _ _ ih (h n (Nat.lt_succ_self n) hl)
  ·exact ih
theorem qgy{all:Array Oper}{k:Nat}{v:AV}{s:Nat}(h:s∉v.men):s∉(qlV all k v).men:=by
 unfold qlV
 split
 ·split
  ·simp[AV.men]
  ·exact h
 ·exact h
theorem qsh{E:Env}{callS:List Blk→ki}{all:Array Oper}{h0:List Blk}{i:Nat}{o:Oper}{T:List AV}{v:AV}{h h':List Blk}{d:Desc}{s:Nat}(hm:qcr E callS all h0 i o T v h h' d)(hs:q1y s d=true):s∉v.men:=by
 rcases hm with⟨_,h1,_,_⟩|⟨_,u,_,h1,h2⟩|⟨_,_,t,z,s',_,_,_,h1,h2⟩
 ·rw[h1];simp[AV.men]
 ·rw[h1]
  apply qgy
  rw[h2] at hs
  unfold q7e at hs
  split at hs
  ·simp only[q1y,Bool.and_eq_true,Bool.not_eq_true',List.contains_eq_mem,decide_eq_false_iff_not] at hs
   exact hs.1.2
  ·simp only[q1y,Bool.and_eq_true,Bool.not_eq_true',List.contains_eq_mem,decide_eq_false_iff_not] at hs
   exact hs.2
 ·rw[h2]
  rw[h1] at hs
  intro hm
  simp only[AV.men,List.mem_singleton] at hm
  subst hm
  simp[q1y] at hs
section
variable {E:Env} {P:Program} {callS:List Blk→ki} {B:Base} {all:Array Oper} {V:Nat→AV} {T0:List AV} {H:Nat→List Blk} {D:Nat→Desc} {fs:List (List AV)} {pd:Option Ex} {Q:Exit→Act→World→Prop} {n0 m:Nat} {h0:List Blk}
theorem qu1{h h':List Blk}{ev:Operand→AV}{op:Op}{v:AV}:(q7e E h ev op v h').isE=qj1 E h ev op:=by
 unfold q7e
 cases qj1 E h ev op<;>rfl
theorem q77(hms:m≤all.size)(hV:∀i o,all[i]?=some o→i<m→qcr E callS all h0 i o (TLp (qF all) V T0 (fun _=>true) i) (V i) (H i) (H (i+1)) (D i)) :
  ∀(n lo:Nat),lo+n≤m→(∀k,lo≤k→k<lo+n→(D k).isE=false)→H (lo+n)=H lo
 | 0,_,_,_=>rfl
 | n+1,lo,hm,hno=>by
  have ih:=q77 hms hV n lo (by omega) fun k h1 h2=>hno k h1 (by omega)
  rw[←ih]
  have hk:lo+n<all.size:=by omega
  have hd:=hno (lo+n) (by omega) (by omega)
  rcases hV (lo+n) _ (Array.getElem?_eq_getElem hk) (by omega) with⟨_,_,h3,_⟩|⟨_,u,h3,_,h2⟩|⟨_,h3,_⟩
  ·exact h3
  ·rw[h2,qu1] at hd
   unfold qg5 at h3
   rw[hd] at h3
   obtain⟨v,g1,g2⟩:=bind_some h3
   simp only[Tree.run,Option.some.injEq,Prod.mk.injEq] at g2
   exact g2.2.symm
  ·exact h3
theorem qol(hms:m≤all.size)(hV:∀i o,all[i]?=some o→i<m→qcr E callS all h0 i o (TLp (qF all) V T0 (fun _=>true) i) (V i) (H i) (H (i+1)) (D i)){b k:Nat}(hk:k<m)
  (hno:∀N w q mm v mk,D k=.eff N w q mm v mk→b<(H k).length∧b∉w):(H (k+1))[b]?=(H k)[b]?:=by
 have hk':k<all.size:=by omega
 rcases hV k _ (Array.getElem?_eq_getElem hk') hk with⟨_,_,h3,_⟩|⟨_,u,h3,_,h2⟩|⟨_,h3,_⟩
 ·rw[h3]
 ·unfold qg5 at h3
  unfold q7e at h2
  cases he:qj1 E (H k) (E.opd (TLp (qF all) V T0 (fun _=>true) k)) all[k].op with
  | true=>
   rw[he] at h2 h3
   obtain⟨q1,q2⟩:=hno _ _ _ _ _ _ h2
   exact qmO h3 q1 q2
  | false=>
   rw[he] at h3
   obtain⟨v,g1,g2⟩:=bind_some h3
   simp only[Tree.run,Option.some.injEq,Prod.mk.injEq] at g2
   rw[←g2.2]
 ·rw[h3]
theorem qv3(hms:m≤all.size)(hV:∀i o,all[i]?=some o→i<m→qcr E callS all h0 i o (TLp (qF all) V T0 (fun _=>true) i) (V i) (H i) (H (i+1)) (D i)){k:Nat}(hk:k<m){N:Nat}{w q mm v:List Nat}{mk:Bool}
  (hd:D k=.eff N w q mm v mk):N=(H k).length∧mm=q0j (H (k+1)):=by
 have hk':k<all.size:=by omega
 rcases hV k _ (Array.getElem?_eq_getElem hk') hk with⟨_,_,_,h3⟩|⟨_,u,h3,_,h2⟩|⟨_,_,_,_,_,_,_,_,h3,_⟩
 ·rw[hd] at h3;cases h3
 ·rw[hd] at h2
  unfold q7e at h2
  split at h2
  ·cases h2;exact⟨rfl,rfl⟩
  ·cases h2
 ·rw[hd] at h3;cases h3
theorem qj7(hms:m≤all.size)(hV:∀i o,all[i]?=some o→i<m→qcr E callS all h0 i o (TLp (qF all) V T0 (fun _=>true) i) (V i) (H i) (H (i+1)) (D i)){b:Nat} :
  ∀(n lo:Nat),lo+n≤m→(∀k,lo≤k→k<lo+n→∀N w q mm v mk,D k=.eff N w q mm v mk→b<N∧b∉w)→(H (lo+n))[b]?=(H lo)[b]?
 | 0,_,_,_=>rfl
 | n+1,lo,hm,hno=>by
  have ih:=qj7 hms hV n lo (by omega) fun k h1 h2=>hno k h1 (by omega)
  rw[←ih]
  exact qol (k:=lo+n) hms hV (by omega) fun N w q mm v mk hd=>by
   obtain⟨g1,g2⟩:=hno (lo+n) (by omega) (by omega) N w q mm v mk hd
   rw[←(qv3 (k:=lo+n) hms hV (by omega) hd).1]
   exact⟨g1,g2⟩
theorem qki(hms:m≤all.size)(hV:∀i o,all[i]?=some o→i<m→qcr E callS all h0 i o (TLp (qF all) V T0 (fun _=>true) i) (V i) (H i) (H (i+1)) (D i)){b:Nat}{z:Blk}(hz:(H 0)[b]?=some z) :
  ∀(n:Nat),n≤m→(∀k,k<n→∀N w q mm v mk,D k=.eff N w q mm v mk→b∉w)→(H n)[b]?=some z
 | 0,_,_=>hz
 | n+1,hm,hno=>by
  have ih:=qki hms hV hz n (by omega) fun k h1=>hno k (by omega)
  rw[←ih]
  exact qol (k:=n) hms hV (by omega) fun N w q mm v mk hd=>⟨qk ih,hno n (by omega) N w q mm v mk hd⟩
theorem qqj(hms:m≤all.size)(hV:∀i o,all[i]?=some o→i<m→qcr E callS all h0 i o (TLp (qF all) V T0 (fun _=>true) i) (V i) (H i) (H (i+1)) (D i)){s:Nat}(hz:s∉q0j (H 0)) :
  ∀(n:Nat),n≤m→(∀k,k<n→∀N w q mm v mk,D k=.eff N w q mm v mk→s∉mm)→s∉q0j (H n)
 | 0,_,_=>hz
 | n+1,hm,hno=>by
  have ih:=qqj hms hV hz n (by omega) fun k h1=>hno k (by omega)
  cases hd:D n with
  | eff N w q mm v mk=>
   rw[←(qv3 (k:=n) hms hV (by omega) hd).2]
   exact hno n (by omega) N w q mm v mk hd
  | _=>
   have:=q77 hms hV 1 n (by omega) fun k h1 h2=>by
    obtain rfl:k=n:=by omega
    rw[hd];rfl
   rw[this];exact ih
theorem qhg{r:Option (List Nat)}{n:Nat}{w:List Nat}(h:qky r n w=true):∃R,r=some R∧∀b,b∈R→b<n∧b∉w:=by
 unfold qky at h
 cases r with
 | none=>cases h
 | some R=>
  refine⟨R,rfl,fun b hb=>?_⟩
  simp only[List.all_eq_true,Bool.and_eq_true,Bool.not_eq_true',List.contains_eq_mem,decide_eq_false_iff_not] at h
  obtain⟨h1,h2⟩:=h b hb
  exact⟨Nat.blt_eq.mp h1,h2⟩
theorem qnh{anc:List Nat}{a k s:Nat}{d:Desc}(h:q0e anc (a,.alc s) k d=true)(hn:qhW anc k a=false):q1y s d=true:=by
 unfold q0e at h
 simp only[Bool.and_eq_true,hn,Bool.false_or] at h
 exact h.1
theorem qly{anc:List Nat}{x:Nat×Desc}{k s:Nat}(h:q0e anc x k (.alc s)=true):q1y s x.2=true:=by
 unfold q0e at h
 simp only[Bool.and_eq_true] at h
 exact h.2.1
theorem qan{s N:Nat}{w q mm v:List Nat}{mk:Bool}(h:q1y s (.eff N w q mm v mk)=true):s∉w∧s∉q∧s∉mm∧s∉v∧mk=true:=by
 simp only[q1y,Bool.and_eq_true,Bool.not_eq_true',List.contains_eq_mem,decide_eq_false_iff_not] at h
 exact⟨h.1.1.1.1,h.1.1.1.2,h.1.1.2,h.1.2,h.2⟩
theorem qeZ{s:Nat}{r:Option (List Nat)}{v:List Nat}(h:q1y s (.still r v)=true):(∃R,r=some R∧s∉R)∧s∉v:=by
 cases r with
 | none=>simp[q1y] at h
 | some R=>
  simp only[q1y,Bool.and_eq_true,Bool.not_eq_true',List.contains_eq_mem,decide_eq_false_iff_not] at h
  exact⟨⟨R,rfl,h.1⟩,h.2⟩
theorem qnw(_:DrawOk all)(_:m≤all.size)(_:∀i o,all[i]?=some o→i<m→qcr E callS all h0 i o (TLp (qF all) V T0 (fun _=>true) i) (V i) (H i) (H (i+1)) (D i))
  (hX:∀i j,i<j→j<m→q0e (q00 all.toList) (i,D i) j (D j)=true)
  {L:Nat→Bool} (_:q7g all L) {a s:Nat} (hm:q0o D L m a s) {k:Nat} (hk:k<m) (hka:k≠a) (hn:qhW (q00 all.toList) k a=false):q1y s (D k)=true:=by
 obtain⟨h1,h2,h3⟩:=hm
 rcases Nat.lt_or_ge a k with h|h
 ·have:=hX a k h hk
  rw[h2] at this
  exact qnh this hn
 ·have:=hX k a (by omega) h1
  rw[h2] at this
  exact qly this
theorem q5Q(hd:DrawOk all)(hms:m≤all.size)(hV:∀i o,all[i]?=some o→i<m→qcr E callS all h0 i o (TLp (qF all) V T0 (fun _=>true) i) (V i) (H i) (H (i+1)) (D i))
  (hX:∀i j,i<j→j<m→q0e (q00 all.toList) (i,D i) j (D j)=true)
  {L:Nat→Bool} (hc:q7g all L) {a s:Nat} (hm:q0o D L m a s) {k:Nat} (hk:k<m) (hL:L k=true):q1y s (D k)=true:=by
 refine qnw hd hms hV hX hc hm hk (fun e=>?_) ?_
 ·rw[e,hm.2.2] at hL;cases hL
 ·cases hb:qhW (q00 all.toList) k a with
  | false=>rfl
  | true=>
   have:=qbi hd hc k a hL hb
   rw[hm.2.2] at this;cases this
theorem qqx(hE:E.tok P)(hS:E.specs P)(hc:q6C E P callS)(hmo:kG E callS)(hd:DrawOk all)(hms:m≤all.size)
  (hV:∀i o,all[i]?=some o→i<m→qcr E callS all (H 0) i o (TLp (qF all) V T0 (fun _=>true) i) (V i) (H i) (H (i+1)) (D i))
  (hX:∀i j,i<j→j<m→q0e (q00 all.toList) (i,D i) j (D j)=true)
  (hsl:∀i s,i<m→D i=.alc s→s∉AV.menL T0∧s∉q7b fs∧s∉q0j (H 0))
  (hq:all.size≤m→∀X a,Sim E B X { t:=TLp (qF all) V T0 (fun _=>true) all.size,fs:=fs,pend:=pd,h:=H m } a→Q .normal a X.w)
  (hlast:∀i fuel listed X a,i<all.size→m≤i→listed.size=all.size→i∈Region.ready .any all listed→q7g all (fun j=>listed.getD j false)→(∀j,m≤j→j<all.size→listed.getD j false=false)→(∀j,j<m→listed.getD j false=true) →
   Sim E B X { t:=TLp (qF all) V T0 (fun j=>listed.getD j false) all.size,fs:=fs,pend:=pd,h:=H m } a →
   unl listed all.size≤fuel+1→wpOpIn (ux B.ro) n0 P all Q i (wpAnyIn (ux B.ro) n0 P .any all Q fuel (listed.setIfInBounds i true)) a X.w)
  (hsuf:∀i j,m≤i→i<all.size→j<i→((q00 all.toList).getD i 0).testBit j=true) :
  ∀(fuel:Nat) (listed:Array Bool) (X:Ctx) (a:Act) (t:Nat),listed.size=all.size→q7g all (fun j=>listed.getD j false)→(∀i,m≤i→i<all.size→listed.getD i false=false) →
   t≤m→(∀k,k<t→(D k).isE=true→listed.getD k false=true)→(∀k,t≤k→k<m→(D k).isE=true→listed.getD k false=false) →
   unl listed all.size≤fuel→Sim E B X { t:=TLp (qF all) V T0 (fun j=>listed.getD j false) all.size,fs:=fs,pend:=pd,h:=uP D (fun j=>listed.getD j false) m (H t) } a→wpAnyIn (ux B.ro) n0 P .any all Q fuel listed a X.w:=by
 intro fuel
 have toEnd:∀(listed:Array Bool) (t:Nat),t≤m→(∀k,t≤k→k<m→(D k).isE=true→listed.getD k false=false)→(∀j,j<m→listed.getD j false=true)→uP D (fun j=>listed.getD j false) m (H t)=H m:=by
  intro listed t htm h2 hall
  have:=q77 hms hV (m-t) t (by omega) fun k k1 k2=>by
   cases hde:(D k).isE with
   | false=>rfl
   | true=>have:=h2 k k1 (by omega) hde;rw[hall k (by omega)] at this;cases this
  rw[show t+(m-t)=m by omega] at this
  rw[this]
  exact qfJ m fun a s hm=>by
   have h3:listed.getD a false=false:=hm.2.2
   rw[hall a hm.1] at h3;cases h3
 have fin:∀(listed:Array Bool) (X:Ctx) (a:Act) (t:Nat),listed.size=all.size→(∀i,m≤i→i<all.size→listed.getD i false=false)→t≤m→(∀k,t≤k→k<m→(D k).isE=true→listed.getD k false=false)→Region.ready .any all listed=[] →
   Sim E B X { t:=TLp (qF all) V T0 (fun j=>listed.getD j false) all.size,fs:=fs,pend:=pd,h:=uP D (fun j=>listed.getD j false) m (H t) } a→Q .normal a X.w:=by
  intro listed X a t hsz hm htm h2 hr hs
  have hall:=qgw hd hsz hr
  rcases Nat.lt_or_ge m all.size with hlt|hge
  ·have:=hm m (Nat.le_refl _) hlt
   rw[hall m hlt] at this;cases this
  ·rw[toEnd listed t htm h2 fun j hj=>hall j (by omega)] at hs
   rw[stL (L':=fun _=>true) all.size fun j hj=>hall j hj] at hs
   exact hq hge X a hs
 induction fuel with
 | zero=>
  intro listed X a t hsz hcl hm htm h1 h2 hu hs
  have hr:Region.ready .any all listed=[]:=by
   apply List.eq_nil_iff_forall_not_mem.2
   intro j hj
   rw[mem_ready] at hj
   obtain⟨h1,o,h2,_⟩:=hj
   have hj':=(Array.getElem?_eq_some_iff.1 h2).1
   have:=qfw (listed:=listed) (Nat.le_zero.1 hu) j hj'
   have hj2:j<listed.size:=by omega
   simp[Array.getD_eq_getD_getElem?,hj2] at this h1
   rw[this] at h1;cases h1
  exact⟨hr,fin listed X a t hsz hm htm h2 hr hs⟩
 | succ fuel ih=>
  intro listed X a t hsz hcl hm htm hlo hhi hu hs
  refine⟨fun hr=>fin listed X a t hsz hm htm hhi hr hs,fun i hi=>?_⟩
  have hri:=hi
  rw[mem_ready] at hi
  obtain⟨h1,o,ho,hedge⟩:=hi
  have hin:=(Array.getElem?_eq_some_iff.1 ho).1
  have hil:i<listed.size:=by omega
  have hLi:listed.getD i false=false:=by simpa[Array.getD_eq_getD_getElem?,hil] using h1
  have hedge':∀e,e∈o.after.toList→Region.binds .any e=true→listed.getD e.on false=true:=fun e he hb=>hedge e (by simpa using he) hb
  have hcl':=q7k hsz ho hcl hedge'
  have hget:∀j,(listed.setIfInBounds i true).getD j false=if j=i then true else listed.getD j false:=fun j=>wn hil
  have before:∀k,k≠i→qhW (q00 all.toList) i k=true→listed.getD k false=true:=by
   intro k hki hk
   have:=qbi hd hcl' i k (by show (listed.setIfInBounds i true).getD i false=true;rw[wn hil,if_pos rfl]) hk
   have h':(listed.setIfInBounds i true).getD k false=true:=this
   rwa [wn hil,if_neg hki] at h'
  have behind:∀k,qhW (q00 all.toList) k i=true→listed.getD k false=false:=by
   intro k hk
   cases hl:listed.getD k false with
   | false=>rfl
   | true=>
    have:=qbi hd hcl k i hl hk
    have h':listed.getD i false=true:=this
    rw[hLi] at h';cases h'
  have mind:∀b s,q0o D (fun j=>listed.getD j false) m b s→b≠i→i<m→q1y s (D i)=true:=by
   intro b s hb hbi him
   refine qnw hd hms hV hX hcl hb him (fun e=>hbi e.symm) ?_
   cases hb':qhW (q00 all.toList) i b with
   | false=>rfl
   | true=>
    have:=before b hbi hb'
    have h3:listed.getD b false=false:=hb.2.2
    rw[h3] at this;cases this
  rcases Nat.lt_or_ge i m with him|him
  ·have hv:=hV i o ho him
   have hsame:∀t,t∈qlN all o→(TLp (qF all) V T0 (fun j=>listed.getD j false) all.size)[t]?=(TLp (qF all) V T0 (fun _=>true) i)[t]?:=fun t ht=>
    qqz hd hcl ho (Nat.le_of_lt hin) hLi hedge' ht
   have hopd:∀x,x∈o.op.operands.toList→E.opd (TLp (qF all) V T0 (fun j=>listed.getD j false) all.size) x=E.opd (TLp (qF all) V T0 (fun _=>true) i) x:=fun x hx=>by
    cases x with
    | tmp t=>
     have:=hsame t (List.mem_append_left _ (List.mem_filterMap.2 ⟨.tmp t,hx,rfl⟩))
     simp only[Env.opd,List.getD_eq_getElem?_getD]
     rw[this]
    | const v=>rfl
    | global g=>rfl
    | func f=>rfl
   have hwant:vU all o (TLp (qF all) V T0 (fun j=>listed.getD j false) all.size)=vU all o (TLp (qF all) V T0 (fun _=>true) i):=by
    unfold vU
    cases hg:o.guard with
    | none=>rfl
    | some p=>
     obtain⟨j,want⟩:=p
     simp only
     cases hj:(all[j]?).bind (·.dst) with
     | none=>rfl
     | some d=>
      simp only
      rw[hsame d (by simp[qlN,hg,hj])]
   have hun:unl (listed.setIfInBounds i true) all.size≤fuel:=by
    have:=(qjn hil hLi all.size).2 hin;omega
   have hdi:qF all i=o.dst:=by simp[qF,ho]
   have hmask:(∀s,D i≠.alc s)→∀h,uP D (fun j=>(listed.setIfInBounds i true).getD j false) m h=uP D (fun j=>listed.getD j false) m h:=fun hna h=>qbw m fun k s _ hk=>by
    rw[hget k,if_neg (fun e=>by subst e;exact hna s hk)]
   have hnext:∀(X':Ctx) (u:Value) (t':Nat),t'≤m→(∀k,k<t'→(D k).isE=true→k=i∨listed.getD k false=true)→(∀k,t'≤k→k<m→(D k).isE=true→k≠i∧listed.getD k false=false) →
     Sim E B X' { t:=TLp (qF all) V T0 (fun j=>listed.getD j false) all.size,fs:=fs,pend:=pd,h:=uP D (fun j=>(listed.setIfInBounds i true).getD j false) m (H t') } a→Rep X' (V i) u →
     wpAnyIn (ux B.ro) n0 P .any all Q fuel (listed.setIfInBounds i true) (a.put o.dst u) X'.w:=by
    intro X' u t' ht' k1 k2 hs' hu'
    refine ih _ X' _ t' (by simp[hsz]) hcl' ?_ ht' ?_ ?_ hun ?_
    ·intro k hk1 hk2
     rw[wn hil,if_neg (by omega)]
     exact hm k hk1 hk2
    ·intro k hk hke
     rw[wn hil]
     rcases k1 k hk hke with rfl|h
     ·rw[if_pos rfl]
     ·split
      ·rfl
      ·exact h
    ·intro k hk hk2 hke
     obtain⟨g1,g2⟩:=k2 k hk hk2 hke
     rw[wn hil,if_neg g1];exact g2
    ·have hput:=hs'.put hu' o.dst
     have hT:TLp (qF all) V T0 (fun j=>(listed.setIfInBounds i true).getD j false) all.size=q90 (TLp (qF all) V T0 (fun j=>listed.getD j false) all.size) o.dst (V i):=by
      rw[←hdi,←qrB hin hLi]
      ·exact stL all.size fun j _=>wn hil
      ·intro k hk hki t ht he
       cases hk':all[k]? with
       | none=>simp[qF,hk'] at he
       | some ok=>
        simp only[qF,hk',Option.bind_some] at he
        rw[hdi] at ht
        exact(hd.dst i k o ok ho hk' hki t he).1 ht
     rw[hT]
     exact hput
   have between:∀k,k<m→(D k).isE=true→(t≤k∧k<i∨i<k∧k<t)→qhW (q00 all.toList) i k=false∧qhW (q00 all.toList) k i=false:=by
    intro k hkm hke hk
    rcases hk with⟨q1,q2⟩|⟨q1,q2⟩
    ·have hLk:=hhi k q1 hkm hke
     refine⟨?_,?_⟩
     ·cases hb:qhW (q00 all.toList) i k with
      | false=>rfl
      | true=>rw[before k (by omega) hb] at hLk;cases hLk
     ·cases hb:qhW (q00 all.toList) k i with
      | false=>rfl
      | true=>have:=qo8 hd k i hb;omega
    ·have hLk:=hlo k q2 hke
     refine⟨?_,?_⟩
     ·cases hb:qhW (q00 all.toList) i k with
      | false=>rfl
      | true=>have:=qo8 hd i k hb;omega
     ·cases hb:qhW (q00 all.toList) k i with
      | false=>rfl
      | true=>rw[behind k hb] at hLk;cases hLk
   unfold wpOpIn
   rw[ho]
   simp only
   rcases hv with⟨w1,w2,w3,w4⟩|⟨w1,u,w3,w4,w2⟩|⟨w1,w3,ty,z,s,w4,w5,w6,w7,w8⟩
   ·
    rw[u6 hs.t (hwant.trans w1)]
    simp only[Bool.false_eq_true,if_false]
    refine⟨fun _ _=>trivial,hnext X _ t htm (fun k hk hke=>.inr (hlo k hk hke)) (fun k hk hk2 hke=>⟨fun e=>?_,hhi k hk hk2 hke⟩) (by rw[hmask fun s e=>by rw[w4] at e;cases e];exact hs) (by rw[w2];exact .skip)⟩
    rw[e,w4] at hke;cases hke
   ·rw[u6 hs.t (hwant.trans w1)]
    simp only[if_true]
    unfold qg5 at w3
    have hna:∀s,D i≠.alc s:=fun s e=>by rw[w2] at e;unfold q7e at e;split at e<;>cases e
    cases he:qj1 E (H i) (E.opd (TLp (qF all) V T0 (fun _=>true) i)) o.op with
    | true=>
     rw[he] at w3
     have hDi:(D i).isE=true:=by rw[w2,qu1];exact he
     have hDi2:D i=.eff (H i).length (qvF (H i) (E.opd (TLp (qF all) V T0 (fun _=>true) i)) o.op) (qdb (E.opd (TLp (qF all) V T0 (fun _=>true) i)) o.op) (q0j (H (i+1))) u.men (qt9 (H i) (E.opd (TLp (qF all) V T0 (fun _=>true) i)) o.op):=by
      rw[w2];unfold q7e;rw[he]
     have hbet:∀k,k<m→(D k).isE=true→¬(t≤k∧k<i∨i<k∧k<t):=by
      intro k hkm hke hk
      obtain⟨g1,g2⟩:=between k hkm hke hk
      rcases hk with⟨q1,q2⟩|⟨q1,q2⟩
      ·have:=hX k i q2 him
       unfold q0e at this
       cases hDk:D k<;>rw[hDk] at hke<;>first|(cases hke;done)|skip
       cases hDi':D i<;>rw[hDi'] at hDi<;>first|(cases hDi;done)|skip
       rw[hDk,hDi'] at this
       simp only[Bool.true_and] at this
       rw[g1] at this;cases this
      ·have:=hX i k q1 hkm
       unfold q0e at this
       cases hDk:D k<;>rw[hDk] at hke<;>first|(cases hke;done)|skip
       cases hDi':D i<;>rw[hDi'] at hDi<;>first|(cases hDi;done)|skip
       rw[hDk,hDi'] at this
       simp only[Bool.true_and] at this
       rw[g2] at this;cases this
     have hHt:H t=H i:=by
      rcases Nat.le_total t i with hti|hti
      ·have:=q77 hms hV (i-t) t (by omega) fun k k1 k2=>by
        cases hde:(D k).isE with
        | false=>rfl
        | true=>exact absurd (.inl ⟨k1,by omega⟩) (hbet k (by omega) hde)
       rw[show t+(i-t)=i by omega] at this
       exact this.symm
      ·rcases Nat.eq_or_lt_of_le hti with hti|hti
       ·rw[hti]
       ·have:=hlo i hti hDi
        rw[hLi] at this;cases this
     rw[hHt] at hs
     have w3':=(qh0 (D:=D) (L:=fun j=>listed.getD j false) w3 m fun b s hb=>by
      have hbi:b≠i:=fun e=>hna s (by rw[←e];exact hb.2.1)
      have:=mind b s hb hbi him
      rw[hDi2] at this
      obtain⟨_,q2,_,_,q5⟩:=qan this
      refine⟨?_,q2,q5⟩
      have hz:∃z,(H 0)[s]?=some z:=by
       rcases hV b _ (Array.getElem?_eq_getElem (by have:=hb.1;omega)) hb.1 with⟨_,_,_,q⟩|⟨_,u,_,_,q⟩|⟨_,_,_,z,s',_,_,q1,q,_⟩
       ·rw[hb.2.1] at q;cases q
       ·have q':=hb.2.1.symm.trans q
        unfold q7e at q';split at q'<;>cases q'
       ·rw[hb.2.1] at q;cases q;exact⟨z,q1⟩
      obtain⟨z,hz⟩:=hz
      have:=qki hms hV hz t htm fun k hk N w q mm v mk hDk=>by
       have:=q5Q hd hms hV hX hcl hb (k:=k) (by omega) (hlo k hk (by rw[hDk];rfl))
       rw[hDk] at this
       exact(qan this).1
      rw[hHt] at this
      exact qk this).1
     have hcg:=qn9 (E:=E) (h:=uP D (fun j=>listed.getD j false) m (H i)) hopd
     rw[←hcg.2] at w3'
     obtain⟨g1,g2⟩:=qmj hE hS (st:={ t:=TLp (qF all) V T0 (fun j=>listed.getD j false) all.size,fs:=fs,pend:=pd,h:=uP D (fun j=>listed.getD j false) m (H i) }) hs w3' (o:=o)
      (next:=fun a w=>wpAnyIn (ux B.ro) n0 P .any all Q fuel (listed.setIfInBounds i true) a w) (Q:=Q) fun X' v hs' hv'=>
       hnext X' v (i+1) (by omega) (fun k hk hke=>by
        rcases Nat.lt_or_ge k i with hki|hki
        ·right
         rcases Nat.lt_or_ge k t with hkt|hkt
         ·exact hlo k hkt hke
         ·exact absurd (.inl ⟨hkt,hki⟩) (hbet k (by omega) hke)
        ·exact .inl (by omega)) (fun k hk hk2 hke=>⟨by omega,by
        rcases Nat.lt_or_ge k t with hkt|hkt
        ·exact absurd (.inr ⟨by omega,hkt⟩) (hbet k hk2 hke)
        ·exact hhi k hkt hk2 hke⟩) (by rw[hmask hna];exact hs') (by rw[w4];exact qcj hv')
     exact qbB B.ro n0 g1 g2
    | false=>
     rw[he] at w3
     obtain⟨av,k1,k2⟩:=bind_some w3
     simp only[Tree.run,Option.some.injEq,Prod.mk.injEq] at k2
     obtain⟨rfl,_⟩:=k2
     have hDi:(D i).isE=false:=by rw[w2,qu1];exact he
     have hDi':D i=.still (qte E (E.opd (TLp (qF all) V T0 (fun _=>true) i)) o.op) av.men:=by rw[w2];unfold q7e;rw[he]
     have hclear:∀k N w q mm v mk,k<m→D k=.eff N w q mm v mk→(t≤k∧k<i∨i<k∧k<t)→qky (qte E (E.opd (TLp (qF all) V T0 (fun _=>true) i)) o.op) N w=true:=by
      intro k N w q mm v mk hkm hk hkk
      obtain⟨g1,g2⟩:=between k hkm (by rw[hk];rfl) hkk
      rcases hkk with⟨q1,q2⟩|⟨q1,q2⟩
      ·have:=hX k i q2 him
       rw[hk,hDi'] at this
       simp only[q0e,Bool.true_and] at this
       rw[g1] at this
       simpa using this
      ·have:=hX i k q1 hkm
       rw[hk,hDi'] at this
       simp only[q0e,Bool.true_and] at this
       rw[g2] at this
       simpa using this
     have hval:(q2J E (callS (uP D (fun j=>listed.getD j false) m (H t))) (uP D (fun j=>listed.getD j false) m (H t)) (E.opd (TLp (qF all) V T0 (fun _=>true) i)) o.op).run=some av:=by
      have hR:(∃R,qte E (E.opd (TLp (qF all) V T0 (fun _=>true) i)) o.op=some R∧∀b,b∈R→(H t)[b]?=(H i)[b]?)∨H t=H i:=by
       by_cases hno:∃k N w q mm v mk,k<m∧D k=.eff N w q mm v mk∧(t≤k∧k<i∨i<k∧k<t)
       ·obtain⟨k,N,w,q,mm,v,mk,a1,a2,a3⟩:=hno
        obtain⟨R,r1,_⟩:=qhg (hclear k N w q mm v mk a1 a2 a3)
        refine .inl ⟨R,r1,fun b hb=>?_⟩
        have clr:∀k N w q mm v mk,k<m→D k=.eff N w q mm v mk→(t≤k∧k<i∨i<k∧k<t)→b<N∧b∉w:=by
         intro k N w q mm v mk b1 b2 b3
         obtain⟨R',q1,q2⟩:=qhg (hclear k N w q mm v mk b1 b2 b3)
         rw[r1] at q1;cases q1
         exact q2 b hb
        rcases Nat.le_total t i with hti|hti
        ·have:=qj7 hms hV (b:=b) (i-t) t (by omega) fun k c1 c2 N w q mm v mk c3=>clr k N w q mm v mk (by omega) c3 (.inl ⟨c1,by omega⟩)
         rw[show t+(i-t)=i by omega] at this
         exact this.symm
        ·have:=qj7 hms hV (b:=b) (t-i) i (by omega) fun k c1 c2 N w q mm v mk c3=>clr k N w q mm v mk (by omega) c3 (.inr ⟨by
          rcases Nat.eq_or_lt_of_le c1 with c1|c1
          ·rw[←c1,hDi'] at c3;cases c3
          ·exact c1,by omega⟩)
         rw[show i+(t-i)=t by omega] at this
         exact this
       ·right
        rcases Nat.le_total t i with hti|hti
        ·have:=q77 hms hV (i-t) t (by omega) fun k c1 c2=>by
          cases hDk:D k with
          | eff N w q mm v mk=>exact absurd ⟨k,N,w,q,mm,v,mk,by omega,hDk,.inl ⟨c1,by omega⟩⟩ hno
          | _=>rfl
         rw[show t+(i-t)=i by omega] at this
         exact this.symm
        ·have:=q77 hms hV (t-i) i (by omega) fun k c1 c2=>by
          cases hDk:D k with
          | eff N w q mm v mk=>
           rcases Nat.eq_or_lt_of_le c1 with c1|c1
           ·rw[←c1,hDi'] at hDk;cases hDk
           ·exact absurd ⟨k,N,w,q,mm,v,mk,by omega,hDk,.inr ⟨c1,by omega⟩⟩ hno
          | _=>rfl
         rw[show i+(t-i)=t by omega] at this
         exact this
      by_cases hmi:∃b s,q0o D (fun j=>listed.getD j false) m b s
      ·obtain⟨b0,s0,hb0⟩:=hmi
       have hbi:∀b s,q0o D (fun j=>listed.getD j false) m b s→b≠i:=fun b s hb e=>hna s (by rw[←e];exact hb.2.1)
       have hm0:=mind b0 s0 hb0 (hbi b0 s0 hb0) him
       rw[hDi'] at hm0
       obtain⟨⟨R,r1,_⟩,_⟩:=qeZ hm0
       refine qaa hmo r1 (fun b hb=>?_) k1
       rw[qa0 m fun c s hcs e=>?_]
       ·rcases hR with⟨R',r2,r3⟩|hR
        ·rw[r1] at r2;cases r2
         exact r3 b hb
        ·rw[hR]
       ·have:=mind c s hcs (hbi c s hcs) him
        rw[hDi',r1] at this
        obtain⟨⟨R',r2,r3⟩,_⟩:=qeZ this
        cases r2
        rw[e] at r3
        exact r3 hb
      ·rw[qfJ m fun b s hb=>hmi ⟨b,s,hb⟩]
       rcases hR with⟨R,r1,r2⟩|hR
       ·exact qaa hmo r1 r2 k1
       ·rw[hR];exact k1
     rw[←qcg hopd] at hval
     refine qbB B.ro n0 (qcZ hE hc hs hval fun X' v hs' hv'=>hnext X' v t htm (fun k hk hke=>.inr (hlo k hk hke)) (fun k hk hk2 hke=>⟨fun e=>?_,hhi k hk hk2 hke⟩) (by rw[hmask hna];exact hs') (by rw[w4];exact qcj hv')) (fun c hc=>by rw[hc] at hval;simp[q2J,q5m,Tree.run] at hval)
     rw[e,hDi] at hke;cases hke
   ·
    rw[u6 hs.t (hwant.trans w1)]
    simp only[if_true]
    have hmi:q0o D (fun j=>listed.getD j false) m i s:=⟨him,w7,hLi⟩
    have hzt:(H t)[s]?=some z:=qki hms hV w6 t htm fun k hk N w q mm v mk hDk=>by
     have:=q5Q hd hms hV hX hcl hmi (k:=k) (by omega) (hlo k hk (by rw[hDk];rfl))
     rw[hDk] at this
     exact(qan this).1
    have hmt:s∉q0j (H t):=qqj hms hV (hsl i s him w7).2.2 t htm fun k hk N w q mm v mk hDk=>by
     have:=q5Q hd hms hV hX hcl hmi (k:=k) (by omega) (hlo k hk (by rw[hDk];rfl))
     rw[hDk] at this
     exact(qan this).2.2.1
    have hdead:=qaF (D:=D) (L:=fun j=>listed.getD j false) (h:=H t) (qk hzt) m hmi
    have htm2:s∉AV.menL (TLp (qF all) V T0 (fun j=>listed.getD j false) all.size):=qjd (hsl i s him w7).1 _ fun j hj hLj=>by
     have hjm:j<m:=by
      rcases Nat.lt_or_ge j m with h|h
      ·exact h
      ·have:=hm j h hj
       rw[show listed.getD j false=true from hLj] at this;cases this
     exact qsh (hV j _ (Array.getElem?_eq_getElem hj) hjm) (q5Q hd hms hV hX hcl hmi hjm hLj)
    have hDi:(D i).isE=false:=by rw[w7];rfl
    refine qbB B.ro n0 (qdi hE hs w4 w5 hdead (qkF hmt m) htm2 (hsl i s him w7).2.1 fun X' v hs' hv'=>hnext X' v t htm (fun k hk hke=>.inr (hlo k hk hke)) (fun k hk hk2 hke=>⟨fun e=>?_,hhi k hk hk2 hke⟩) ?_ (by rw[w8];exact hv')) (fun c hc=>by rw[hc] at w4;cases w4)
    ·rw[e,hDi] at hke;cases hke
    ·have e1:=qrx (D:=D) (L:=fun j=>listed.getD j false) (h:=H t) hmi hzt fun a' s' hm' hne=>by
      intro e
      have:=mind a' s' hm' hne him
      rw[w7,e] at this
      simp[q1y] at this
     have e2:uP D (fun j=>(listed.setIfInBounds i true).getD j false) m (H t)=uP D (fun j=>if j=i then true else listed.getD j false) m (H t):=qbw m fun k _ _ _=>hget k
     rw[e2,e1]
     exact hs'
  ·have hall:∀j,j<m→listed.getD j false=true:=fun j hj=>before j (by omega) (hsuf i j him hin (by omega))
   rw[toEnd listed t htm hhi hall] at hs
   exact hlast i fuel listed X a hin him hsz hri hcl hm hall hs hu
end
theorem q7F{n:Nat}(i:Nat):(Array.replicate n false).getD i false=false:=by
 rcases Nat.lt_or_ge i n with h|h<;>simp[Array.getD_eq_getD_getElem?,h]
theorem qqS(listed:Array Bool):∀n,unl listed n≤n
 | 0=>Nat.le_refl _
 | n+1=>by simp only[unl];have:=qqS listed n;split<;>omega
theorem qnS(all:Array Oper):zh all≤all.size:=by
 unfold zh
 simp only
 cases hf:(List.range all.toList.length).find? _ with
 | none=>simp
 | some m=>
  have:=List.mem_of_find?_eq_some hf
  simp at this
  simp;omega
theorem q7i(all:Array Oper){i j:Nat}(hj:zh all≤j)(hjn:j<all.size)(hij:i<j):((q00 all.toList).getD j 0).testBit i=true:=by
 unfold zh at hj
 simp only at hj
 cases hf:(List.range all.toList.length).find? (fun m=>(List.range all.toList.length).all fun j=>decide (j<m)||(List.range j).all fun i=>((q00 all.toList).getD j 0).testBit i) with
 | none=>rw[hf] at hj;simp at hj;omega
 | some m=>
  rw[hf] at hj
  simp only[Option.getD_some] at hj
  have h:=List.find?_some hf
  rw[List.all_eq_true] at h
  have h2:=h j (List.mem_range.2 (by simpa using hjn))
  simp only[Bool.or_eq_true,decide_eq_true_eq,List.all_eq_true,List.mem_range] at h2
  rcases h2 with h2|h2
  ·omega
  ·exact h2 i hij
section
variable {E:Env} {P:Program} {B:Base} {all:Array Oper} {Q:Exit→Act→World→Prop} {callH:q1Q} {n0:Nat}
theorem qln(hE:E.tok P)(hcH:CallOK E P callH B)(hd:DrawOk all){st':St}(hq:∀X' a',Sim E B X' st' a'→Q .normal a' X'.w):∀(l:List Oper) (i:Nat),all.toList.drop i=l→zh all≤i →
  ∀(fuel:Nat) (listed:Array Bool) (X:Ctx) (a:Act) (st:St),listed.size=all.size→(∀j,j<i→j<all.size→listed.getD j false=true)→(∀j,i≤j→listed.getD j false=false)→unl listed all.size≤fuel →
   Sim E B X st a→(q9d E callH all i l st).run=some st'→wpAnyIn (ux B.ro) n0 P .any all Q fuel listed a X.w:=by
 intro l
 induction l with
 | nil=>
  intro i hl hm fuel listed X a st hsz hlo hhi hun hs h
  simp only[q9d,Tree.run,Option.some.injEq] at h
  subst h
  have hi:all.size≤i:=by simpa using List.drop_eq_nil_iff.1 hl
  have hr:Region.ready .any all listed=[]:=by
   apply List.eq_nil_iff_forall_not_mem.2
   intro j hj
   rw[mem_ready] at hj
   obtain⟨q1,o',q2,_⟩:=hj
   have hj':=(Array.getElem?_eq_some_iff.1 q2).1
   have hjt:=hlo j (by omega) hj'
   have hj2:j<listed.size:=by omega
   rw[Array.getD_eq_getD_getElem?,Array.getElem?_eq_getElem hj2] at hjt q1
   simp only[Option.getD_some] at hjt q1
   rw[hjt] at q1;cases q1
  cases fuel with
  | zero=>exact⟨hr,hq X a hs⟩
  | succ fuel=>exact⟨fun _=>hq X a hs,fun j hj=>by rw[hr] at hj;cases hj⟩
 | cons o rest ih=>
  intro i hl hm fuel listed X a st hsz hlo hhi hun hs h
  have hin:i<all.size:=by
   rcases Nat.lt_or_ge i all.size with h1|h1
   ·exact h1
   ·rw[List.drop_eq_nil_of_le (by simpa using h1)] at hl;cases hl
  have ho:all[i]?=some o:=by
   have:=List.getElem?_drop (xs:=all.toList) (i:=i) (j:=0)
   rw[hl] at this
   simpa using this.symm
  have hrest:all.toList.drop (i+1)=rest:=by rw[←List.drop_drop,hl];rfl
  have hil:i<listed.size:=by omega
  have hcl:q7g all fun j=>listed.getD j false:=by
   intro j oj hj hL e he hb
   have hj':=(Array.getElem?_eq_some_iff.1 hj).1
   have hji:j<i:=by
    rcases Nat.lt_or_ge j i with h1|h1
    ·exact h1
    ·have hL':listed.getD j false=true:=hL
     rw[hhi j h1] at hL';cases hL'
   have:=hd.edge j oj hj e he hb
   exact hlo e.on (by omega) (by omega)
  have hpos:0<unl listed all.size:=by
   rcases Nat.eq_zero_or_pos (unl listed all.size) with h0|h0
   ·have:=qfw h0 i hin
    rw[hhi i (Nat.le_refl _)] at this;cases this
   ·exact h0
  obtain⟨fuel,rfl⟩:∃f,fuel=f+1:=⟨fuel-1,by omega⟩
  have hLi:=hhi i (Nat.le_refl _)
  have hone:∀j,j∈Region.ready .any all listed→j=i:=by
   intro j hj
   rw[mem_ready] at hj
   obtain⟨q1,oj,q2,gedge⟩:=hj
   have hj':=(Array.getElem?_eq_some_iff.1 q2).1
   have hj2:j<listed.size:=by omega
   have hLj:listed.getD j false=false:=by simpa[Array.getD_eq_getD_getElem?,hj2] using q1
   rcases Nat.lt_trichotomy j i with h1|h1|h1
   ·rw[hlo j h1 hj'] at hLj;cases hLj
   ·exact h1
   ·have hedge':∀e,e∈oj.after.toList→Region.binds .any e=true→listed.getD e.on false=true:=fun e he hb=>gedge e (by simpa using he) hb
    have hcl':=q7k hsz q2 hcl hedge'
    have hb':=q7i all (by omega) hj' h1
    have:=qbi hd hcl' j i (by show (listed.setIfInBounds j true).getD j false=true;rw[wn hj2,if_pos rfl]) hb'
    have h':(listed.setIfInBounds j true).getD i false=true:=this
    rw[wn hj2,if_neg (by omega),hLi] at h'
    cases h'
  refine⟨fun hr=>?_,fun j hj=>?_⟩
  ·
   exfalso
   have:=qgw hd hsz hr i hin
   rw[hLi] at this;cases this
  ·obtain rfl:=hone j hj
   have hgo:∀(X'':Ctx) (a'':Act) (s'':St),Sim E B X'' s'' a''→(q9d E callH all (j+1) rest s'').run=some st'→wpAnyIn (ux B.ro) n0 P .any all Q fuel (listed.setIfInBounds j true) a'' X''.w:=by
    intro X'' a'' s'' hs'' h''
    refine ih (j+1) hrest (by omega) fuel _ X'' a'' s'' (by simp[hsz]) (fun k hk hk2=>?_) (fun k hk=>?_) ?_ hs'' h''
    ·rw[wn hil];split
     ·rfl
     ·exact hlo k (by omega) hk2
    ·rw[wn hil,if_neg (by omega)];exact hhi k (by omega)
    ·have:=(qjn hil hLi all.size).2 hin;omega
   simp only[q9d] at h
   unfold wpOpIn
   rw[ho]
   simp only
   cases hwa:vU all o st.t with
   | none=>rw[hwa] at h;cases h
   | some b=>
    rw[hwa] at h
    rw[u6 hs.t hwa]
    cases b with
    | true=>
     simp only[if_true]
     obtain⟨s1,k1,k2⟩:=bind_some h
     obtain⟨s2,k3,k4⟩:=bind_some k2
     exact qeJ hE hcH hs k1 fun X'' a'' hs''=>hgo X'' a'' s2 (qhh hs'' k3) k4
    | false=>
     simp only[Bool.false_eq_true,if_false]
     exact⟨fun _ _=>trivial,hgo X _ (qnU o st) (hs.put (av:=.skip) .skip o.dst) h⟩
end
theorem qfz(h h':List Blk):q0j (h++h')=q0j h++q0j h':=by
 induction h with
 | nil=>rfl
 | cons k h ih=>simp[q0j,ih]
theorem qiJ{zs:List Blk}(h:∀z,z∈zs→z.menB=[]){s:Nat}:s∉q0j zs:=by
 induction zs with
 | nil=>intro h;cases h
 | cons z zs ih=>
  simp only[q0j,List.mem_append,not_or]
  exact⟨by rw[h z List.mem_cons_self];simp,ih fun z hz=>h z (List.mem_cons_of_mem _ hz)⟩
theorem qjA{E:Env}{P:Program}(hm:P.follows .mixedOrders=true)(hE:E.tok P)(hS:E.specs P){callH:q1Q}{B:Base}(hcH:CallOK E P callH B){callS:List Blk→ki}(hc:q6C E P callS)(hmo:kG E callS){id:Nat}{all:Array Oper}{X:Ctx}{st st':St}{a:Act}
  (hs:Sim E B X st a) (h:(qm8 E callH callS all st).run=some st') {Q:Exit→Act→World→Prop} {n0:Nat} (hq:∀X' a',Sim E B X' st' a'→Q .normal a' X'.w):(Code.region id all true).wpIn (ux B.ro) n0 P Q a X.w:=by
 apply wpIn_region_any hm
 have hs1:=hs.drawn (X.w.drawn+1)
 generalize hX1:({ X with w:={ X.w with drawn:=X.w.drawn+1 } }:Ctx)=X1 at hs1
 have hw:({ X.w with drawn:=X.w.drawn+1 }:World)=X1.w:=by rw[←hX1]
 rw[hw]
 obtain⟨T0,fs,hb,pd⟩:=st
 unfold qm8 at h
 by_cases hdb:qkw all=false
 ·rw[if_pos hdb] at h;cases h
 ·rw[if_neg hdb] at h
  have hd:=qo4 (by simpa using hdb:qkw all=true)
  have hcl0:q7g all fun j=>(Array.replicate all.size false).getD j false:=by
   intro i o _ hL
   have hL':(Array.replicate all.size false).getD i false=true:=hL
   rw[q7F] at hL';cases hL'
  have hdst:qF all=fun i=>(all.toList[i]?).bind (·.dst):=by funext i;simp[qF]
  have hsl:=qnS all
  simp only at h
  cases hal:qcz E (all.toList.take (zh all)) with
  | none=>rw[hal] at h;cases h
  | some zs=>
  rw[hal] at h
  simp only at h
  split at h
  case h_2=>cases h
  rename_i hzc
  obtain⟨r,h1,h2⟩:=bind_some h
  obtain⟨V,H,D,e0,e1,e2,_,e4,e5,e6⟩:=qih (h0:=hb++zs) _ 0 hb.length [] _ r zs hal (fun j z hj=>by rw[List.getElem?_append_right (by omega),Nat.add_sub_cancel_left];exact hj) h1
  simp only[Nat.zero_add] at e1 e2 e4 e5 e6
  have htlen:(all.toList.take (zh all)).length=zh all:=by simp;omega
  have htk:∀i,i<zh all→(all.toList.take (zh all))[i]?=all[i]?:=by
   intro i hi
   rw[List.getElem?_take,if_pos hi];simp
  have hTm:∀i,i≤zh all→TLp (qF all) V T0 (fun _=>true) i=q1s V 0 ((all.toList.take (zh all)).take i) T0:=by
   intro i hi
   rw[hdst,qod i (by simp;omega),List.take_take,Nat.min_eq_left hi]
  have hVA:∀i o,all[i]?=some o→i<zh all→qcr E callS all (H 0) i o (TLp (qF all) V T0 (fun _=>true) i) (V i) (H i) (H (i+1)) (D i):=by
   intro i o ho hi
   rw[hTm i (by omega)]
   rw[e0]
   exact e2 i o (by rw[htk i hi];exact ho)
  have hs0:∀(X':Ctx) (a':Act),Sim E B X' { t:=TLp (qF all) V T0 (fun _=>true) (zh all),fs:=fs,pend:=pd,h:=H (zh all) } a'→Sim E B X' r a':=by
   intro X' a' hs'
   have:r={ t:=TLp (qF all) V T0 (fun _=>true) (zh all),fs:=fs,pend:=pd,h:=H (zh all) }:=by
    rw[hTm _ (Nat.le_refl _),e1,List.take_of_length_le (i:=zh all) (l:=all.toList.take (zh all)) (by simp;omega),htlen]
   rw[this];exact hs'
  have hsl2:∀i s,i<zh all→D i=.alc s→s∉AV.menL T0∧s∉q7b fs∧s∉q0j (H 0):=by
   intro i s hi hds
   have hs':=e6 i s (by rw[htlen];exact hi) hds
   have hne:zs.isEmpty=false:=by
    cases zs with
    | nil=>simp at hs';omega
    | cons _ _=>rfl
   rw[hne] at hzc
   simp only[Bool.false_or,Bool.and_eq_true,List.all_eq_true,List.mem_append] at hzc
   obtain⟨c1,c2⟩:=hzc
   have lt:∀b,(b∈AV.menL T0∨b∈q7b fs)∨b∈q0j hb→b<hb.length:=fun b hb'=>Nat.blt_eq.mp (c1 b hb')
   refine⟨fun hm=>?_,fun hm=>?_,fun hm=>?_⟩
   ·have:=lt s (.inl (.inl hm));omega
   ·have:=lt s (.inl (.inr hm));omega
   ·rw[e0,qfz] at hm
    rcases List.mem_append.1 hm with hm|hm
    ·have:=lt s (.inr hm);omega
    ·exact qiJ (fun z hz=>by simpa using c2 z hz) hm
  obtain⟨X2,hX2,hs2⟩:=Sim.padN zs.length hs1
  rw[←hX2]
  have hpad:hb++List.replicate zs.length .dead=uP D (fun j=>(Array.replicate all.size false).getD j false) (zh all) (H 0):=by
   rw[e0]
   apply List.ext_getElem?
   intro b
   rcases Nat.lt_or_ge b hb.length with hlt|hge
   ·rw[List.getElem?_append_left hlt,qa0 _ fun a' s hm' e=>by
     have:=e6 a' s (by rw[htlen];exact hm'.1) hm'.2.1
     omega,List.getElem?_append_left hlt]
   ·rcases Nat.lt_or_ge b (hb.length+zs.length) with hlt|hge2
    ·obtain⟨i,q1,q2⟩:=e5 (b-hb.length) (by omega)
     rw[htlen] at q1
     rw[show hb.length+(b-hb.length)=b by omega] at q2
     rw[List.getElem?_append_right hge,List.getElem?_replicate_of_lt (by omega)]
     exact(qaF (by simp;omega) (zh all) ⟨q1,q2,q7F i⟩).symm
    ·rw[List.getElem?_eq_none (by simp;omega),List.getElem?_eq_none (by rw[q5o];simp;omega)]
  have start:Sim E B X2 { t:=TLp (qF all) V T0 (fun j=>(Array.replicate all.size false).getD j false) all.size,fs:=fs,pend:=pd,h:=uP D (fun j=>(Array.replicate all.size false).getD j false) (zh all) (H 0) } a:=by
   have:TLp (qF all) V T0 (fun j=>(Array.replicate all.size false).getD j false) all.size=T0:=by
    have:∀n,TLp (qF all) V T0 (fun j=>(Array.replicate all.size false).getD j false) n=T0:=by
     intro n
     induction n with
     | zero=>rfl
     | succ n ih=>simp only[TLp];rw[if_neg (by rw[q7F];simp),ih]
    exact this _
   rw[this,←hpad];exact hs2
  refine qqx (m:=zh all) (V:=V) (T0:=T0) (H:=H) (D:=D) (fs:=fs) hE hS hc hmo hd hsl hVA (fun i j hij hj=>e4 i j hij (by rw[htlen];exact hj)) hsl2 ?_ ?_ (fun i j h1 h2 h3=>q7i all h1 h2 h3) all.size _ X2 a 0 (by simp) hcl0 (fun i _ _=>q7F i) (Nat.zero_le _) (fun k hk=>by omega) (fun k _ _ _=>q7F k) (qqS _ _) start
  ·intro hge X' a' hs'
   have hsz:zh all=all.size:=by omega
   rw[show TLp (qF all) V T0 (fun _=>true) all.size=TLp (qF all) V T0 (fun _=>true) (zh all) by rw[hsz]] at hs'
   have h3:=hs0 X' a' hs'
   rw[List.drop_eq_nil_of_le (by simp;omega)] at h2
   simp only[q9d,Tree.run,Option.some.injEq] at h2
   rw[h2] at h3
   exact hq X' a' h3
  ·intro i fuel listed X' a' hin him hsz hri hcl hlm hallm hs' hun
   have hri':=hri
   rw[mem_ready] at hri'
   obtain⟨g1,o,ho,gedge⟩:=hri'
   have hil:i<listed.size:=by omega
   have hLi:listed.getD i false=false:=by simpa[Array.getD_eq_getD_getElem?,hil] using g1
   have hedge':∀e,e∈o.after.toList→Region.binds .any e=true→listed.getD e.on false=true:=fun e he hb=>gedge e (by simpa using he) hb
   have hcl':=q7k hsz ho hcl hedge'
   have hallb:∀j,j<i→listed.getD j false=true:=by
    intro j hj
    have hb':=q7i all him hin hj
    have:=qbi hd hcl' i j (by show (listed.setIfInBounds i true).getD i false=true;rw[wn hil,if_pos rfl]) hb'
    have h':(listed.setIfInBounds i true).getD j false=true:=this
    rw[wn hil,if_neg (by omega)] at h'
    exact h'
   have him2:i=zh all:=by
    rcases Nat.eq_or_lt_of_le him with h3|h3
    ·exact h3.symm
    ·have h4:=hallb _ h3
     rw[hlm _ (Nat.le_refl _) (by omega)] at h4;cases h4
   have hcut:∀n,zh all≤n→n≤all.size→TLp (qF all) V T0 (fun j=>listed.getD j false) n=TLp (qF all) V T0 (fun _=>true) (zh all):=by
    intro n
    induction n with
    | zero=>
     intro h3 _
     have h0:zh all=0:=by omega
     rw[h0];rfl
    | succ n ihn=>
     intro h3 h4
     rcases Nat.eq_or_lt_of_le h3 with h5|h5
     ·rw[←h5]
      exact stL (zh all) fun j hj=>hallb j (by omega)
     ·simp only[TLp]
      rw[if_neg (by rw[hlm n (by omega) (by omega)];simp)]
      exact ihn (by omega) (by omega)
   rw[hcut _ hsl (Nat.le_refl _)] at hs'
   have h3:=hs0 X' a' hs'
   subst him2
   exact(qln hE hcH hd hq _ (zh all) rfl (Nat.le_refl _) (fuel+1) listed X' a' _ hsz (fun j hj _=>hallb j hj) (fun j hj=>by
    rcases Nat.lt_or_ge j all.size with h5|h5
    ·exact hlm j hj h5
    ·simp[Array.getD_eq_getD_getElem?,show listed.size≤j by omega]) hun h3 h2).2 _ hri
end Go.Eng

namespace Go.Eng
theorem HSim.renum{B:Base}{X X':Ctx}{f:Nat→Option Nat}(hs:HSim B X)(hm:Move X X' f)(hw:X'.w=X.w)(hM:X'.M=X.M)(g:Nat→Nat)
  (hget:∀b k,X'.h[b]?=some k→k=.dead∨(X.h[g b]?=some k∧X'.σ b=X.σ (g b)∧k.ren f=k))
  (hinj:∀b b',g b=g b'→b=b'∨X'.h[b]?=some .dead∨X'.h[b']?=some .dead)
  (hi:∀b,b<B.imps.length→X'.σ b=X.σ b∧X'.h[b]?=X.h[b]?) (hg:∀b,B.imps.length≤b→B.imps.length≤g b):HSim B X':=by
 have hown:∀b n,X'.own b n→X.own (g b) n:=by
  intro b n ⟨h1,k,h2,h3⟩
  rcases hget b k h2 with rfl|⟨q1,q2,_⟩
  ·cases h3
  ·exact⟨q2▸h1,k,q1,h3⟩
 constructor
 ·intro b k h
  rcases hget b k h with rfl|⟨q1,q2,q3⟩
  ·trivial
  ·by_cases hd:k=.dead
   ·subst hd;trivial
   ·have:=vM.move hm.toMove0 (b':=b) q2 (fun n _=>by rw[hw]) (hs.blk (g b) k q1)
    rwa [q3] at this
 ·intro b b' n h h'
  rcases hinj b b' (hs.inj _ _ n (hown b n h) (hown b' n h')) with e|e|e
  ·exact e
  ·obtain⟨_,k,q1,q2⟩:=h;rw[e] at q1;cases q1;cases q2
  ·obtain⟨_,k,q1,q2⟩:=h';rw[e] at q1;cases q1;cases q2
 ·intro b n h;rw[hM];exact hs.notM _ n (hown b n h)
 ·intro n h;rw[hM] at h;rw[hw];exact hs.ltM n h
 ·intro n h;rw[hM];exact hs.M0 n h
 ·intro n h;rw[hM] at h;exact hs.newM n h
 ·rw[hw];exact hs.os
 ·rw[hw];exact hs.tape
 ·rw[hw];exact hs.output
 ·rw[hw];exact hs.size
 ·intro n h1 h2;rw[hw];exact hs.frame n h1 h2
 ·intro b hb;rw[(hi b hb).1];exact hs.imps b hb
 ·intro b hb;rw[(hi b hb).2];exact hs.impc b hb
 ·intro b n h hb;exact hs.fresh _ n (hown b n h) (hg b hb)
 ·intro p hp;rw[hm.kept] at hp;rw[hw];exact hs.kept p hp
theorem qmv{B:Base}{X:Ctx}(hs:HSim B X){b:Nat}{k:Blk}(h:X.h[b]?=some k)(hk:k.solid=false):B.imps.length≤b:=by
 rcases Nat.lt_or_ge b B.imps.length with hb|hb
 ·obtain⟨k',h1,h2⟩:=hs.impc b hb
  rw[h] at h1;cases h1;rw[hk] at h2;cases h2
 ·exact hb
def Ctx.alias(X:Ctx)(b s:Nat)(k:Blk):Ctx:=
 { σ:=fun x=>if x=s then X.σ b else X.σ x,h:=(X.h.set b .dead).set s k,w:=X.w,M:=X.M,kept:=X.kept,y:=X.y }
theorem qhr{X:Ctx}{b s:Nat}{k:Blk}(hb:b<X.h.length)(hsl:s<X.h.length)(x:Nat):(X.alias b s k).h[x]?=if x=s then some k else if x=b then some .dead else X.h[x]?:=by
 show ((X.h.set b .dead).set s k)[x]?=_
 by_cases h1:x=s
 ·subst h1;rw[if_pos rfl,List.getElem?_set_self (by simpa using hsl)]
 ·rw[if_neg h1,List.getElem?_set_ne (fun e=>h1 e.symm)]
  by_cases h2:x=b
  ·subst h2;rw[if_pos rfl,List.getElem?_set_self hb]
  ·rw[if_neg h2,List.getElem?_set_ne (fun e=>h2 e.symm)]
theorem qeq{B:Base}{X:Ctx}(hs:HSim B X){b s:Nat}{e:TypeId}{sh:List Sh}{l:R}(hb:X.h[b]?=some (.vec e sh l))(hd:X.h[s]?=some .dead)(hmen:s∉q0j X.h) :
  HSim B (X.alias b s (.vec e sh l))∧Move X (X.alias b s (.vec e sh l)) (q3I s)∧∀v,Rep X (.vec b) v→Rep (X.alias b s (.vec e sh l)) (.vec s) v:=by
 have hbl:=qk hb
 have hsl:=qk hd
 have hbs:b≠s:=fun he=>by rw[he,hd] at hb;cases hb
 have hget:=fun x=>qhr (X:=X) (k:=.vec e sh l) hbl hsl x
 have hlen:(X.alias b s (.vec e sh l)).h.length=X.h.length:=by simp[Ctx.alias]
 have hm:Move X (X.alias b s (.vec e sh l)) (q3I s):=by
  refine Move.of (fun _ h=>h) (fun _ _=>rfl) (fun b1 b2 hb1 h=>?_)
  have hne:b1≠s:=by intro e;subst e;simp[q3I] at h
  have:b2=b1:=by simp[q3I,hne] at h;exact h.symm
  subst this
  refine⟨by rw[hlen];exact hb1,by simp[Ctx.alias,hne],fun sh1 m ⟨e1,l1,h1,h2⟩=>?_,fun _ _ _ n _ c T fr hc=>⟨c,T,fr,hc,rfl⟩⟩
  rw[hget,if_neg hne] at h1
  by_cases h3:b2=b
  ·rw[if_pos h3] at h1;rcases h1 with h1|h1<;>cases h1
  ·rw[if_neg h3] at h1;exact⟨e1,l1,h1,h2⟩
 refine⟨hs.renum hm rfl rfl (fun x=>if x=s then b else x) (fun x k h=>?_) (fun x x' h=>?_) (fun x hx=>?_) (fun x hx=>?_),hm,fun v hv=>?_⟩
 ·rw[hget] at h
  by_cases h1:x=s
  ·rw[if_pos h1] at h;cases h
   right;rw[if_pos h1];exact⟨hb,by simp[Ctx.alias,h1],rfl⟩
  ·rw[if_neg h1] at h
   by_cases h2:x=b
   ·rw[if_pos h2] at h;cases h;exact .inl rfl
   ·rw[if_neg h2] at h
    right;rw[if_neg h1];exact⟨h,by simp[Ctx.alias,h1],Blk.ren_void k (qdE hmen h)⟩
 ·by_cases h1:x=s
  ·by_cases h2:x'=s
   ·exact .inl (h1.trans h2.symm)
   ·rw[if_pos h1,if_neg h2] at h
    right;right;rw[hget,if_neg h2,if_pos h.symm]
  ·by_cases h2:x'=s
   ·rw[if_neg h1,if_pos h2] at h
    right;left;rw[hget,if_neg h1,if_pos h]
   ·rw[if_neg h1,if_neg h2] at h;exact .inl h
 ·have h1:=qmv hs hb rfl
  have h2:=qmv hs hd rfl
  exact⟨by simp[Ctx.alias,show x≠s by omega],by rw[hget,if_neg (by omega),if_neg (by omega)]⟩
 ·have h1:=qmv hs hb rfl
  split<;>omega
 ·cases hv with
  | vec _ p n c hlt h=>
   refine .vec s p n c (by rw[hlen];exact hsl) fun sh' m ⟨e',l',q1,q2⟩=>?_
   rw[hget,if_pos rfl] at q1
   have q3:e'=e∧sh'=sh∧l'=l:=by
    rcases q1 with q1|q1
    ·cases q1;exact⟨rfl,rfl,rfl⟩
    ·cases q1
   obtain⟨rfl,rfl,rfl⟩:=q3
   have:=h sh' m ⟨e',l',.inl hb,q2⟩
   unfold ql2 at this ⊢
   have hσ:(X.alias b s (.vec e' sh' l')).σ s=X.σ b:=by simp[Ctx.alias]
   rw[hσ];exact this
theorem qp7{B:Base}{X:Ctx}(hs:HSim B X){h':List Blk}(hX:X.h=h'++[.dead])(hmen:h'.length∉q0j h') :
  HSim B { X with h:=h' }∧Move X { X with h:=h' } (q3I h'.length):=by
 have hget:∀(x:Nat) (k:Blk),h'[x]?=some k→X.h[x]?=some k:=fun x k h=>by rw[hX,List.getElem?_append_left (qk h)];exact h
 have hm:Move X { X with h:=h' } (q3I h'.length):=by
  refine Move.of (fun _ h=>h) (fun _ _=>rfl) (fun b1 b2 hb1 h=>?_)
  have hne:b1≠h'.length:=by intro e;subst e;simp[q3I] at h
  have:b2=b1:=by simp[q3I,hne] at h;exact h.symm
  subst this
  rw[hX] at hb1
  simp only[List.length_append,List.length_cons,List.length_nil] at hb1
  refine⟨by show b2<h'.length;omega,rfl,fun sh1 m ⟨e1,l1,h1,h2⟩=>⟨e1,l1,?_,h2⟩,fun _ _ _ n _ c T fr hc=>⟨c,T,fr,hc,rfl⟩⟩
  exact h1.elim (fun h=>.inl (hget _ _ h)) (fun h=>.inr (hget _ _ h))
 refine⟨hs.renum hm rfl rfl id (fun x k h=>.inr ⟨hget x k h,rfl,Blk.ren_void k (qdE hmen h)⟩) (fun x x' h=>.inl h) (fun x hx=>⟨rfl,?_⟩) (fun x hx=>hx),hm⟩
 obtain⟨k,h1,h2⟩:=hs.impc x hx
 have hxl:x<h'.length:=by
  rcases Nat.lt_or_ge x h'.length with h|h
  ·exact h
  ·rw[hX,List.getElem?_append_right h] at h1
   rcases Nat.eq_or_lt_of_le h with h|h
   ·rw[←h] at h1;simp at h1;subst h1;cases h2
   ·rw[List.getElem?_eq_none (by simp;omega)] at h1;cases h1
 show h'[x]?=X.h[x]?
 rw[hX,List.getElem?_append_left hxl]
theorem Sim.moved{E:Env}{B:Base}{X X':Ctx}{st:St}{a:Act}(hs:Sim E B X st a){s:Nat}(h2:HSim B X')(h3:Move X X' (q3I s))(ht:s∉AV.menL st.t)(hf:s∉q7b st.fs):Sim E B X' { st with h:=X'.h } a:=by
 refine⟨h2,rfl,?_,?_,fun x hx=>?_,h3.kept▸hs.df,hs.ni,h3.y.trans hs.y,fun p hp=>h3.kept▸hs.pin p hp⟩
 ·have:=hs.t.ren h3.toMove0
  rwa [AV.renL_void _ ht] at this
 ·have:=hs.fs.ren h3.toMove0
  rwa [qdJ _ hf] at this
 ·obtain⟨⟨sh,l,i,off,he⟩,hr⟩:=hs.glob x hx
  refine⟨⟨sh,l,i,off,he⟩,hr.move h3.M h3.w ?_⟩
  have:=hr.1.ren h3.toMove0
  rw[he] at this ⊢
  exact this
theorem Rep.voided{X X':Ctx}{s b:Nat}{v:Value}(h:Move X X' (q3I s))(hr:Rep X (.vec b) v)(hne:b≠s):Rep X' (.vec b) v:=by
 have:=hr.ren h.toMove0
 simpa[AV.ren,q3I,hne] using this
theorem brR{α:Type}{b:Bool}{t:Tree α}{r:α}(h:(Tree.br b t .fail).run=some r):b=true∧t.run=some r:=by
 cases b
 ·cases h
 ·exact⟨rfl,h⟩
theorem kh{h:List Blk}{s c:Nat}{k:Blk}(hk:k.menB=[])(hc:c∉q0j h):c∉q0j (h.set s k):=by
 induction h generalizing s with
 | nil=>exact hc
 | cons a h ih=>
  simp only[q0j,List.mem_append,not_or] at hc
  cases s with
  | zero=>simp only[List.set_cons_zero,q0j,hk,List.nil_append];exact hc.2
  | succ s=>simp only[List.set_cons_succ,q0j,List.mem_append,not_or];exact⟨hc.1,ih hc.2⟩
theorem qqQ{E:Env}{B:Base}{X:Ctx}{st:St}{a:Act}{e:TypeId}{sh:List Sh}{l:R}{s:Nat}{h:List Blk}{v:Value}(hs:Sim E B X { st with h:=h++[.vec e sh l] } a)(hv:Rep X (.vec h.length) v)
  (hd:h[s]?=some .dead) (h1:s∉q0j h) (h2:s∉AV.menL st.t) (h3:s∉q7b st.fs) (n1:h.length∉q0j h) (n2:h.length∉AV.menL st.t) (n3:h.length∉q7b st.fs) :
  ∃X',X'.w=X.w∧Sim E B X' { st with h:=h.set s (.vec e sh l) } a∧Rep X' (.vec s) v:=by
 have hsl:=qk hd
 have hX:X.h=h++[.vec e sh l]:=hs.h
 have hb:X.h[h.length]?=some (.vec e sh l):=by rw[hX,List.getElem?_append_right (Nat.le_refl _)];simp
 have hd':X.h[s]?=some .dead:=by rw[hX,List.getElem?_append_left hsl];exact hd
 have hm':s∉q0j X.h:=by rw[hX,qfz];simp[q0j,Blk.menB];exact h1
 obtain⟨g1,g2,g3⟩:=qeq hs.hs hb hd' hm'
 have s1:=hs.moved g1 g2 h2 h3
 have hA:(X.alias h.length s (.vec e sh l)).h=h.set s (.vec e sh l)++[.dead]:=by
  show (X.h.set h.length .dead).set s (.vec e sh l)=_
  rw[hX,List.set_append_right (h:=Nat.le_refl _),Nat.sub_self,List.set_append_left (h:=hsl)];rfl
 obtain⟨k1,k2⟩:=qp7 g1 hA (by simp only[List.length_set];exact kh rfl n1)
 rw[List.length_set] at k2
 have s2:=s1.moved k1 k2 n2 n3
 have hne:s≠h.length:=by omega
 exact⟨{ X.alias h.length s (.vec e sh l) with h:=h.set s (.vec e sh l) },rfl,s2,(g3 v hv).voided k2 hne⟩
theorem wv(h:List Blk)(x:AV):(yI h x).length=h.length:=by
 cases x<;>simp[yI,q6h]
theorem q4H{h:List Blk}{x:AV}{c:Nat}(hc:c∉x.men):(yI h x)[c]?=h[c]?:=by
 cases x<;>first|rfl|skip
 rename_i b
 exact qij (fun e=>hc (by simp[AV.men,e]))
theorem qd9{h:List Blk}{x:AV}{c:Nat}(hc:c∉q0j h):c∉q0j (yI h x):=by
 cases x<;>first|exact hc|skip
 rename_i b
 show c∉q0j (zy h b)
 unfold zy
 split
 ·rename_i e sh l _
  exact kh (k:=.frz e sh l) rfl hc
 ·exact hc
theorem qdT{P:Program}{B:Base}{X:Ctx}{o:Oper}{a:Act}{r:Res}(h:qI P B X (execOp a.eval o) r){next:Act→World→Prop}{Q:Exit→Act→World→Prop}
  (hq:∀X' v,HSim B X'→Rep X' r.1 v→(match r.2.2 with|none=>X'.h=r.2.1∧Ext X X'|some b=>X'.h=r.2.1.map (Blk.ren (q3I b))∧Move X X' (q3I b))→next (a.put o.dst v) X'.w):o.wp P a X.w next Q:=by
 obtain⟨nx,v,X',g1,g2,g3,g4,g5⟩:=h
 unfold Oper.wp
 rw[g1]
 rcases g2 with rfl|⟨rfl,rfl⟩
 ·exact hq X' _ g4 g3 g5
 ·exact hq X' _ g4 g3 g5
theorem qof{s:Nat}{h:List Blk}(hs:s∉q0j h):h.map (Blk.ren (q3I s))=h:=by
 induction h with
 | nil=>rfl
 | cons k h ih=>
  simp only[q0j,List.mem_append,not_or] at hs
  simp only[List.map_cons,Blk.ren_void k hs.1,ih hs.2]
theorem qqh{o:Option Blk}(h:qiM o=true):o=some .dead:=by
 unfold qiM at h;split at h
 ·rfl
 ·cases h
theorem Sim.ext'{E:Env}{B:Base}{X X':Ctx}{st:St}{a:Act}{h':List Blk}(hs:Sim E B X st a)(hx:Ext X X')(h4:HSim B X')(hh:X'.h=h'):Sim E B X' { st with h:=h' } a:=by
 have:=hs.ext hx h4
 rw[hh] at this;exact this
theorem qoE{b:Nat}{h:List Blk}{x:AV}{sh:List Sh}{m:R}(hr:ww h x=some (sh,m))(hn:qoi b x=true):b∉x.men:=by
 cases x<;>simp only[ww] at hr<;>first|(cases hr;done)|simp[AV.men]
 rename_i b'
 intro e
 subst e
 simp[qoi] at hn
theorem qlE{h h':List Blk}{x:AV}(H:∀b,b∈x.men→h'[b]?=h[b]?):ww h' x=ww h x:=by
 cases x<;>simp only[ww]
 rename_i b
 rw[H b (by simp[AV.men])]
mutual
theorem Rep.inB{X:Ctx}:∀{a:AV} {v:Value},Rep X a v→∀b,b∈a.men→b<X.h.length
 | _,_,.undef _,b,h=>by simp[AV.men] at h
 | _,_,.skip,b,h=>by simp[AV.men] at h
 | _,_,.yld,b,h=>by simp[AV.men] at h
 | _,_,.blit _,b,h=>by simp[AV.men] at h
 | _,_,.bool _,b,h=>by simp[AV.men] at h
 | _,_,.ilit _ _,b,h=>by simp[AV.men] at h
 | _,_,.int _ _,b,h=>by simp[AV.men] at h
 | _,_,.str _,b,h=>by simp[AV.men] at h
 | _,_,.nilp,b,h=>by simp[AV.men] at h
 | _,_,.ptr _ _ _ hb _,b,h=>by simp only[AV.men,List.mem_singleton] at h;rw[h];exact hb
 | _,_,.eptr _ _ _ _ _ _ _ _ _,b,h=>by simp[AV.men] at h
 | _,_,.mnil _ _ _ _,b,h=>by simp[AV.men] at h
 | _,_,.mptr _ _ _ _ _ _ _ _ _,b,h=>by simp[AV.men] at h
 | _,_,.vptr _ _ _ _ _ hb _ _,b,h=>by simp only[AV.men,List.mem_singleton] at h;rw[h];exact hb
 | _,_,.vsub _ _ _ _ _ _ hb _ _,b,h=>by simp only[AV.men,List.mem_singleton] at h;rw[h];exact hb
 | _,_,.aptr _ _ _ _ hb _ _,b,h=>by simp only[AV.men,List.mem_singleton] at h;rw[h];exact hb
 | _,_,.asub _ _ _ _ _ _ _ _ hb _ _ _ _ _,b,h=>by simp only[AV.men,List.mem_singleton] at h;rw[h];exact hb
 | _,_,.nils,b,h=>by simp[AV.men] at h
 | _,_,.imm _ _ _ _,b,h=>by simp[AV.men] at h
 | _,_,.full _ _ _ _ _,b,h=>by simp[AV.men] at h
 | _,_,.vec _ _ _ _ hb _,b,h=>by simp only[AV.men,List.mem_singleton] at h;rw[h];exact hb
 | _,_,.nilf,b,h=>by simp[AV.men] at h
 | _,_,.fn _ _ _ _ _ h1 h2,b,h=>by
  simp only[AV.men,List.mem_append] at h
  exact h.elim (RepL.inB h1 b) (RepL.inB h2 b)
 | _,_,.agg _ _ h1,b,h=>by simp only[AV.men] at h;exact RepL.inB h1 b h
 | _,_,.tuple _ _ h1,b,h=>by simp only[AV.men] at h;exact RepL.inB h1 b h
 | _,_,.bagg _ _ _ _ _ h1 _,b,h=>by simp only[AV.men] at h;exact RepL.inB h1 b h
theorem RepL.inB{X:Ctx}:∀{l:List AV} {vs:List Value},RepL X l vs→∀b,b∈AV.menL l→b<X.h.length
 | _,_,.nil,b,h=>by simp[AV.menL] at h
 | _,_,.cons h1 h2,b,h=>by
  simp only[AV.menL,List.mem_append] at h
  exact h.elim (Rep.inB h1 b) (RepL.inB h2 b)
end
theorem RepLL.inB{X:Ctx}:∀{l:List (List AV)} {vs:List (List Value)},RepLL X l vs→∀b,b∈q7b l→b<X.h.length
 | _,_,.nil,b,h=>by simp[q7b] at h
 | _,_,.cons h1 h2,b,h=>by
  simp only[q7b,List.mem_append] at h
  exact h.elim (RepL.inB h1 b) (RepLL.inB h2 b)
theorem qr6{b:Nat}:∀{h:List Blk},b∈q0j h→∃(i:Nat) (k:Blk),h[i]?=some k∧b∈k.menB
 | [],h=>by cases h
 | k::h,hb=>by
  simp only[q0j,List.mem_append] at hb
  rcases hb with hb|hb
  ·exact⟨0,k,rfl,hb⟩
  ·obtain⟨i,k',h1,h2⟩:=qr6 hb
   exact⟨i+1,k',by simpa using h1,h2⟩
theorem HSim.inB{B:Base}{X:Ctx}(hs:HSim B X):∀b,b∈q0j X.h→b<X.h.length:=by
 intro b hb
 obtain⟨i,k,h1,h2⟩:=qr6 hb
 have:=hs.blk i k h1
 cases k with
 | cells cs=>obtain⟨_,_,_,_,_,hr⟩:=this;exact hr.inB b h2
 | big cs _ _ _=>obtain⟨_,_,_,_,_,_,hr,_⟩:=this;exact hr.inB b h2
 | vec _ _ _=>simp[Blk.menB] at h2
 | frz _ _ _=>simp[Blk.menB] at h2
 | dead=>simp[Blk.menB] at h2
theorem Move.voids{X Y Z:Ctx}{s:Nat}(h:Move X Y (q3I s))(k:Move Y Z (q3I s)):Move X Z (q3I s):=by
 refine Move.of (fun n hn=>k.M n (h.M n hn)) (fun a ha=>(k.w a (h.M _ ha)).trans (h.w a ha)) (fun b1 b2 hb1 hf=>?_) (k.y.trans h.y) (k.kept.trans h.kept)
 have hne:b1≠s:=by intro e;subst e;simp[q3I] at hf
 have e2:b2=b1:=by simp[q3I,hne] at hf;exact hf.symm
 subst e2
 have k1:=h.b b2 b2 hb1 hf
 have k2:=k.b b2 b2 k1.lt hf
 refine⟨k2.lt,k2.σ.trans k1.σ,fun sh m hv=>k1.vec sh m (k2.vec sh m hv),fun sh m hv n hn c T fr hc=>?_⟩
 obtain⟨c1,T1,fr1,e1,e2⟩:=k1.size sh m (k2.vec sh m hv) n hn c T fr hc
 obtain⟨c2,T2,fr2,e3,e4⟩:=k2.size sh m hv n (by rw[k1.σ];exact hn) c1 T1 fr1 e1
 exact⟨c2,T2,fr2,e3,e4.trans e2⟩
theorem qii{l:R}{i j r:Nat}(hij:i≤j)(hi:i≤l.length)(q:Nat):zZ (q48 l (i:Int) (j:Int)) (r:Int) q=if r<i then zZ l (r:Int) q else zZ l ((r+(j-i):Nat):Int) q:=by
 unfold zZ q48
 simp only[Int.toNat_natCast]
 by_cases h:r<i
 ·rw[if_pos h]
  simp only[List.getD_eq_getElem?_getD]
  rw[List.getElem?_append_left (by simp;omega),List.getElem?_take,if_pos h]
 ·rw[if_neg h]
  simp only[List.getD_eq_getElem?_getD]
  rw[List.getElem?_append_right (by simp;omega),List.getElem?_drop]
  congr 4
  simp;omega
theorem qsj{P:Program}{f:FuncId}{e:TypeId}(hD:q6R P f e){B:Base}{X:Ctx}(hs:HSim B X){b k:Nat}{sh:List Sh}{l:R}(hb:X.h[b]?=some (.vec e sh l))(hd:X.h[k]?=some .dead)(hmen:k∉q0j X.h){vs:Value}(hv:Rep X (.vec b) vs)
  {i j:Int} (h0:0<l.length) (hi:0≤i) (hij:i≤j) (hj:j≤qh l) (hsh:sh.length=P.cellsOf e) (hp:0<sh.length) :
  Calls P f #[vs,.int .i64 i,.int .i64 j] X.w fun x w'=>∃v X',x=.returned v∧X'.w=w'∧Rep X' (.vec k) v∧HSim B X'∧X'.h=(X.h.set b .dead).set k (.vec e sh (q48 l i j))∧Move X X' (q3I k):=by
 obtain⟨i,rfl⟩:∃n:Nat,i=n:=⟨i.toNat,by omega⟩
 obtain⟨j,rfl⟩:∃n:Nat,j=n:=⟨j.toNat,by omega⟩
 have hij:i≤j:=by omega
 have hj:j≤l.length:=by unfold qh at hj;omega
 obtain⟨a1,a2,a3⟩:=qeq hs hb hd hmen
 have hbl:=qk hb
 have hkl:=qk hd
 have hk1:(X.alias b k (.vec e sh l)).h[k]?=some (.vec e sh l):=by rw[qhr hbl hkl,if_pos rfl]
 have hrep:=a3 vs hv
 cases hrep with
 | vec _ p m cap hlt hvv=>
  have hvv:=hvv sh l.length ⟨e,l,.inl hk1,rfl⟩
  rcases a1.blk k _ hk1 with⟨_,e2⟩|⟨n,c,e1,e2,e3⟩
  ·rw[e2] at h0;simp at h0
  ·unfold ql2 at hvv
   rw[e1] at hvv
   obtain⟨cap',q1,q2,q3,c1,T1,fr1,q4,q5⟩:=hvv
   cases q1
   have e2':X.w.heap[n]?=some (.cells c e (0,0)):=e2
   rw[e2] at q4;cases q4
   rw[hsh] at q5
   refine(hD.2 X.w n l.length cap i j c e e2' q5 (fun q v hq hc=>?_) (by omega) q2 (by unfold maxLen at q3;omega) hij hj).mono fun x w' ⟨hx,c',g1,g2,g3,g4,g5,g6,g7,g8⟩=>?_
   ·rw[←hsh] at hq
    have r1:q/sh.length<l.length:=(Nat.div_lt_iff_lt_mul hp).2 hq
    have r2:q%sh.length<sh.length:=Nat.mod_lt _ hp
    obtain⟨u,u1,u2⟩:=e3 (q/sh.length) (q%sh.length) r2 r1
    have:q/sh.length*sh.length+q%sh.length=q:=by rw[Nat.mul_comm];exact Nat.div_add_mod q sh.length
    rw[this,hc] at u1
    cases u1
    generalize sh[q%sh.length]=s at u2
    cases u2<;>rfl
   ·have hw:ReplW (X.alias b k (.vec e sh l)) k (some n) w':=⟨fun m _ hne=>g4 m (fun he=>hne (by rw[he];exact e1)),fun m c0 T0 fr0 hm hc0=>by
     rw[e1] at hm;cases hm
     have hc0':X.w.heap[n]?=some (.cells c0 T0 fr0):=hc0
     rw[e2'] at hc0';cases hc0'
     exact⟨c',e,(0,0),g1,g2⟩,by rw[g5];exact Nat.le_refl _,g6,g7,g8,.inl e1.symm⟩
    have hx2:=Ctx.repl_move a1 hk1 (k':=.vec e sh (q48 l i j)) hw
    have hlen:(q48 l (i:Int) (j:Int)).length=l.length-(j-i):=by unfold q48;simp;omega
    have hrows:qjy X.w X.M sh (q48 l (i:Int) (j:Int)) c':=by
     intro r q hq hr
     rw[hlen] at hr
     have hb1:r*sh.length+q<(l.length-(j-i))*sh.length:=by
      have:(r+1)*sh.length≤(l.length-(j-i))*sh.length:=Nat.mul_le_mul_right _ hr
      rw[Nat.add_mul] at this;omega
     rw[qii hij (by omega),g3 _ (by rw[←hsh];exact hb1),←hsh]
     by_cases hri:r<i
     ·have:r*sh.length+q<i*sh.length:=by
       have:(r+1)*sh.length≤i*sh.length:=Nat.mul_le_mul_right _ hri
       rw[Nat.add_mul] at this;omega
      rw[if_pos hri,if_pos this]
      exact e3 r q hq (by omega)
     ·have:¬(r*sh.length+q<i*sh.length):=by
       have:i*sh.length≤r*sh.length:=Nat.mul_le_mul_right _ (by omega)
       omega
      rw[if_neg hri,if_neg this]
      obtain⟨u,u1,u2⟩:=e3 (r+(j-i)) q hq (by omega)
      refine⟨u,?_,u2⟩
      rw[←u1,Nat.add_mul]
      congr 1;omega
    refine⟨_,(X.alias b k (.vec e sh l)).repl k (some n) (.vec e sh (q48 l i j)) w',hx,rfl,?_,a1.repl hk1 hw (.inr ⟨n,c',by simp[Ctx.repl],g1,hrows.mono hx2.M hx2.w⟩),?_,a2.voids hx2⟩
    ·have:=qdu (X:=X.alias b k (.vec e sh l)) (e:=e) (sh:=sh) (l:=q48 l i j) (n:=n) (cap:=cap) (w':=w') (qk hk1) (by rw[hlen];omega) q3 g1 (by rw[g2,hsh];exact q5)
     rw[hlen] at this
     exact this
    ·show ((X.alias b k (.vec e sh l)).h.set k (.vec e sh (q48 l i j))).map (Blk.ren (q3I k))=_
     have hA:(X.alias b k (.vec e sh l)).h=(X.h.set b .dead).set k (.vec e sh l):=rfl
     rw[hA,List.set_set,qof (kh rfl (kh rfl hmen))]
theorem qkR{E:Env}{P:Program}(hS:E.specs P){f:FuncId}{e:TypeId}(h:quw E f=some e):q6R P f e:=by
 unfold quw at h
 cases hf:E.dels.find? fun x=>x.1==f with
 | none=>rw[hf] at h;cases h
 | some x=>
  rw[hf] at h
  simp only[Option.map_some,Option.some.injEq] at h
  have h1:x.1=f:=by simpa using List.find?_some hf
  have:=hS.dl x (List.mem_of_find?_eq_some hf)
  rw[h1,h] at this
  exact this
theorem qeU{E:Env}{P:Program}(hE:E.tok P){f:FuncId}{e:TypeId}(hD:q6R P f e){B:Base}{X:Ctx}(hs:HSim B X){args:List AV}{vargs:List Value}(ha:RepL X args vargs){k:Nat}{av:AV}{h':List Blk}
  (h:(qeE E X.h e args k).run=some (av,h')) (hd:X.h[k]?=some .dead) (hmen:k∉q0j X.h) :
  Calls P f vargs.toArray X.w fun x w'=>∃v X',x=.returned v∧X'.w=w'∧Rep X' av v∧HSim B X'∧X'.h=h'∧Move X X' (q3I k):=by
 unfold qeE at h
 split at h
 case h_2=>cases h
 rename_i b x y
 split at h
 case h_2=>cases h
 rename_i e' sh l i j hb hx hy
 split at h
 case isFalse=>cases h
 rename_i hc
 obtain⟨⟨rfl,hsh⟩,hp⟩:=hc
 obtain⟨g1,h⟩:=brR h
 obtain⟨g2,h⟩:=brR h
 obtain⟨g3,h⟩:=brR h
 obtain⟨g4,h⟩:=brR h
 simp only[Tree.run,Option.some.injEq,Prod.mk.injEq] at h
 obtain⟨rfl,rfl⟩:=h
 cases ha with
 | cons h1 ha=>cases ha with
  | cons h2 ha=>cases ha with
   | cons h3 ha=>
    cases ha
    obtain rfl:=uL h2 hx
    obtain rfl:=uL h3 hy
    have hz:(E.ty e).size=P.cellsOf e:=by
     rcases qdq hE e with q|q
     ·rw[q] at hsh
      have:qvs.size=0:=rfl
      omega
     ·rw[q];unfold qkj Program.cellsOf
      cases P.info? e<;>rfl
    exact qsj hD hs hb hd hmen h1 (by have:=of_decide_eq_true g1;unfold qh at this;omega) (of_decide_eq_true g2) (of_decide_eq_true g3) (of_decide_eq_true g4) (hsh.trans hz) hp
theorem qvS{args:Array Operand}{tys:Array TypeId}{o:Oper}{a:Act}(hop:o.op=.call { callee:=.builtin .append,args:=args,argTypes:=tys }) :
  ∃ty cs,execOp a.eval o=builtin .append tys ty cs ((args.toList.map a.eval).toArray):=by
 have hA:args.map a.eval=(args.toList.map a.eval).toArray:=by apply Array.ext';simp
 refine⟨o.type,args.map fun|.const _=>true|_=>false,?_⟩
 unfold execOp
 rw[hop,←hA]
 rfl
theorem qs8:∀(a:AV),a.men=[]→wK a=[]
 | .vec b,h=>by simp[AV.men] at h
 | .agg cs,h=>by
  simp only[AV.men] at h
  unfold wK
  have key:∀l:List AV,AV.menL l=[]→(l.filterMap fun|.vec b=>some b|_=>none)=[]:=by
   intro l
   induction l with
   | nil=>intro _;rfl
   | cons x l ih=>
    intro hx
    simp only[AV.menL,List.append_eq_nil_iff] at hx
    rw[List.filterMap_cons]
    cases x<;>first|exact ih hx.2|(simp[AV.men] at hx)
  exact key cs h
 | .undef,_|.yld,_|.skip,_|.blit _,_|.bool _,_|.ilit _ _,_|.int _ _,_|.str _,_|.nilp,_|.ptr _ _,_|.eptr _ _ _ _,_|.mptr _ _ _ _ _,_|.vptr _ _ _,_|.vsub _ _,_|.aptr _ _ _,_|.asub _ _ _ _ _,_|.bagg _ _ _ _,_|.nils,_|.imm _ _,_|.full _ _,_|.nilf,_|.fn _ _ _,_|.tuple _,_=>rfl
theorem qkT:∀(l:List AV),AV.menL l=[]→l.flatMap wK=[]
 | [],_=>rfl
 | a::l,h=>by
  simp only[AV.menL,List.append_eq_nil_iff] at h
  rw[List.flatMap_cons,qs8 a h.1,qkT l h.2];rfl
mutual
theorem qrv{h:List Blk}:∀(a:AV),a.men=[]→a.lend h=a
 | .vec b,hm=>by simp[AV.men] at hm
 | .agg cs,hm=>by simp only[AV.men] at hm;simp only[AV.lend,qar cs hm]
 | .tuple cs,hm=>by simp only[AV.men] at hm;simp only[AV.lend,qar cs hm]
 | .undef,_|.yld,_|.skip,_|.blit _,_|.bool _,_|.ilit _ _,_|.int _ _,_|.str _,_|.nilp,_|.ptr _ _,_|.eptr _ _ _ _,_|.mptr _ _ _ _ _,_|.vptr _ _ _,_|.vsub _ _,_|.aptr _ _ _,_|.asub _ _ _ _ _,_|.bagg _ _ _ _,_|.nils,_|.imm _ _,_|.full _ _,_|.nilf,_|.fn _ _ _,_=>rfl
theorem qar{h:List Blk}:∀(l:List AV),AV.menL l=[]→AV.lendL h l=l
 | [],_=>rfl
 | a::l,hm=>by
  simp only[AV.menL,List.append_eq_nil_iff] at hm
  simp only[AV.lendL,qrv a hm.1,qar l hm.2]
end
theorem qdP{op:Op}{f:FuncId}{xs:List Operand}(h:qc3 op=some (f,xs)):∃args tys,op=.call { callee:=.value (.func f),args:=args,argTypes:=tys }∧xs=args.toList:=by
 unfold qc3 at h
 split at h
 ·cases h;exact⟨_,_,rfl,rfl⟩
 ·cases h
theorem qq5{P:Program}{X:Ctx}{a:Act}{o:Oper}{f:FuncId}{args:Array Operand}{tys:Array TypeId}(hop:o.op=.call { callee:=.value (.func f),args:=args,argTypes:=tys })
  (he:∀args w,(callFunc f args).run P w=.ok (.enter f args) w) {next:Act→World→Prop} {Q:Exit→Act→World→Prop} {K:Value→World→Prop} (hc:Calls P f (args.toList.map a.eval).toArray X.w fun x w'=>∃v,x=.returned v∧K v w')
  (hq:∀v w',K v w'→next (a.put o.dst v) w'):o.wp P a X.w next Q:=by
 unfold Oper.wp
 have hrun:(execOp a.eval o).run P X.w=.ok (.enter f (args.toList.map a.eval).toArray) X.w:=by
  simp only[execOp,hop,resolve,Act.eval,Deferred.ofValue,Sem.run_bind,Sem.run_pure,Result.andThen_ok,invoke]
  have:(#[]:Array Value)++args.map a.eval++#[]=(args.toList.map a.eval).toArray:=by
   apply Array.ext';simp
  have h2:=he (args.toList.map a.eval).toArray X.w
  rw[←this] at h2
  rw[←this]
  exact h2
 rw[hrun]
 refine hc.mono fun x w' ⟨v,e1,e2⟩=>?_
 subst e1
 exact hq v w' e2
theorem qjW{E:Env}{P:Program}(hE:E.tok P)(hS:E.specs P){callS:List Blk→ki}{B:Base}{X:Ctx}{st:St}{a:Act}(hs:Sim E B X st a){o:Oper}{av:AV}{h':List Blk}{s:Nat}
  (h:(q2k E callS st.h (E.opd st.t) o.op s).run=some (av,h')) (hl:qmf E o.op=true) (h1:s∉q0j st.h) (h2:s∉AV.menL st.t) (h3:s∉q7b st.fs) (n1:st.h.length∉q0j st.h) (n2:st.h.length∉AV.menL st.t) (n3:st.h.length∉q7b st.fs)
  {next:Act→World→Prop} {Q:Exit→Act→World→Prop} (hq:∀X' v,Sim E B X' { st with h:=h' } a→Rep X' av v→next (a.put o.dst v) X'.w):o.wp P a X.w next Q:=by
 unfold q2k at h
 rw[hl] at h
 simp only at h
 cases hdd:qiM st.h[s]? with
 | false=>rw[hdd] at h;cases h
 | true=>
  rw[hdd] at h
  have hd:=qqh hdd
  simp only at h
  split at h
  ·
   rename_i t len parts hop
   obtain⟨r,k1,k2⟩:=bind_some h
   simp only[Tree.run,Option.some.injEq,Prod.mk.injEq] at k2
   obtain⟨rfl,rfl⟩:=k2
   obtain⟨v0,z⟩:=r
   have hvz:v0=.vec st.h.length∧∃e sh l,z=.vec e sh l:=by
    have k1:=k1
    rw[hop] at k1
    unfold q57 at k1
    simp only at k1
    split at k1
    ·split at k1
     ·split at k1
      ·split at k1
       ·split at k1
        ·cases k1;exact⟨rfl,_,_,_,rfl⟩
        ·cases k1
       ·cases k1
      ·cases k1
     ·cases k1
    ·cases k1
   obtain⟨rfl,e,sh,l,rfl⟩:=hvz
   refine qdT (qct hE hs (ql9 k1).1) fun X' v g4 g3 g5=>?_
   have s1:Sim E B X' { st with h:=st.h++[.vec e sh l] } a:=hs.ext' g5.2 g4 g5.1
   obtain⟨X2,e2,s2,r2⟩:=qqQ s1 g3 hd h1 h2 h3 n1 n2 n3
   rw[←e2]
   exact hq X2 v s2 r2
  ·
   rename_i t hop
   unfold qfA at h
   split at h
   case h_2=>cases h
   rename_i z hz
   split at h
   case h_2=>cases h
   simp only[Tree.run,Option.some.injEq,Prod.mk.injEq] at h
   obtain⟨rfl,rfl⟩:=h
   exact qdi hE hs hop hz hd h1 h2 h3 hq
  ·
   rename_i args tys hop
   obtain⟨ty,cs,hrun⟩:=qvS (a:=a) hop
   have hargs:=q0u hs args.toList
   unfold qjh at h
   generalize args.toList.map (E.opd st.t)=als at h hargs
   generalize args.toList.map a.eval=avs at hrun hargs
   split at h
   case h_2=>cases h
   rename_i t t' sa xa htys
   by_cases htt:t=t'
   ·subst htt
    rw[if_pos rfl] at h
    cases hargs with
    | cons hsa hargs=>cases hargs with
     | cons hxa hargs=>
     cases hargs
     rename_i vs vx
     have hrun':execOp a.eval o=(do pure (.value (←Builtin.append_ #[t,t] ty #[vs,vx])):Sem Next):=by
      rw[hrun]
      obtain⟨tys⟩:=tys
      simp only at htys
      subst htys
      rfl
     unfold qi9 at h
     cases htd:(E.ty t).d<;>rw[htd] at h<;>simp only at h<;>first|(cases h;done)|skip
     rename_i e es
     obtain⟨ht,rfl⟩:=yZ hE htd
     split at h
     case h_2=>cases h
     rename_i sh sh' m hsh hro
     by_cases hc:(sh.length=P.cellsOf e∧0<P.cellsOf e∧(E.ty e).zero.length=P.cellsOf e)∧Sh.beqL sh sh'=true
     ·rw[if_pos hc] at h
      obtain⟨⟨hc1,hc2,hc4⟩,hbq⟩:=hc
      obtain rfl:=Sh.beqL_eq _ _ hbq
      obtain⟨i,z,he⟩:=qq3 hE hc2 hc4
      split at h
      ·
       obtain⟨g1,g2⟩:=brR h
       simp only[Tree.run,Option.some.injEq,Prod.mk.injEq] at g2
       obtain⟨rfl,rfl⟩:=g2
       have hh:(qfM (qlS (E.ty e).bytes) X.h e sh .nils xa).run=some (.vec X.h.length,yI X.h xa++[.vec e sh m],none):=by
        unfold qfM
        rw[hs.h,hro]
        simp only
        rw[if_pos hbq]
        simp only[Tree.run,g1]
       have hg:=qbu (ty:=ty) hs.hs ht hc2 hc1 he hsa hxa hh
       rw[←hrun'] at hg
       refine qdT hg fun X' v g4 g3 g5=>?_
       have hfl:(yI st.h xa).length=st.h.length:=wv _ _
       have s1:Sim E B X' { st with h:=yI st.h xa++[.vec e sh m] } a:=hs.ext' g5.2 g4 (by rw[g5.1,hs.h])
       rw[hs.h,←hfl] at g3
       have hxs:s∉xa.men:=fun hm=>by
        cases xa<;>simp only[ww] at hro<;>first|(cases hro;done)|(simp[AV.men] at hm;done)|skip
        simp only[AV.men,List.mem_singleton] at hm
        subst hm
        rw[hd] at hro;cases hro
       obtain⟨X2,e2,s2,r2⟩:=qqQ s1 g3 (by rw[q4H hxs];exact hd) (qd9 h1) h2 h3 (by rw[hfl];exact qd9 n1) (by rw[hfl];exact n2) (by rw[hfl];exact n3)
       rw[←e2]
       exact hq X2 v s2 r2
      ·
       rename_i b
       split at h
       case h_2=>cases h
       rename_i e' sh'' l hbk
       by_cases hq2:(Sh.beqL sh sh''=true∧e=e')∧qoi b xa=true
       ·rw[if_pos hq2] at h
        obtain⟨⟨hbq2,rfl⟩,hnv⟩:=hq2
        obtain rfl:=Sh.beqL_eq _ _ hbq2
        obtain⟨g1,g2⟩:=brR h
        simp only[Tree.run,Option.some.injEq,Prod.mk.injEq] at g2
        obtain⟨rfl,rfl⟩:=g2
        have hbx:=qoE hro hnv
        have hxs:s∉xa.men:=fun hm=>by
         cases xa<;>simp only[ww] at hro<;>first|(cases hro;done)|(simp[AV.men] at hm;done)|skip
         simp only[AV.men,List.mem_singleton] at hm
         subst hm
         rw[hd] at hro;cases hro
        have hbs:b≠s:=fun he=>by rw[he,hd] at hbk;cases hbk
        have hb':X.h[b]?=some (.vec e sh l):=by rw[hs.h];exact hbk
        have hd':X.h[s]?=some .dead:=by rw[hs.h];exact hd
        obtain⟨a1,a2,a3⟩:=qeq hs.hs hb' hd' (by rw[hs.h];exact h1)
        have hbl:=qk hbk
        have hsl:=qk hd
        have ag:∀x,(X.alias b s (.vec e sh l)).h[x]?=if x=s then some (.vec e sh l) else if x=b then some .dead else st.h[x]?:=fun x=>by
         rw[qhr (by rw[hs.h];exact hbl) (by rw[hs.h];exact hsl),hs.h]
        have hxr:ww (X.alias b s (.vec e sh l)).h xa=some (sh,m):=by
         rw[qlE (h:=st.h) fun c hc=>by
          have z1:c≠s:=fun e=>hxs (e▸hc)
          have z2:c≠b:=fun e=>hbx (e▸hc)
          rw[ag,if_neg z1,if_neg z2]]
         exact hro
        have hxrep:Rep (X.alias b s (.vec e sh l)) xa vx:=by
         have:=hxa.ren a2.toMove0
         rwa [AV.ren_void xa hxs] at this
        have hfin:(yI (X.alias b s (.vec e sh l)).h xa).set s (.vec e sh (q2g l m))=((yI st.h xa).set b .dead).set s (.vec e sh (q2g l m)):=by
         apply List.ext_getElem?
         intro x
         by_cases x1:x=s
         ·subst x1
          rw[List.getElem?_set_self (by rw[wv];simp[Ctx.alias,hs.h];exact hsl),List.getElem?_set_self (by simp[wv];exact hsl)]
         ·rw[List.getElem?_set_ne (fun e=>x1 e.symm),List.getElem?_set_ne (fun e=>x1 e.symm)]
          by_cases x2:x=b
          ·subst x2
           rw[List.getElem?_set_self (by rw[wv];exact hbl),q4H hbx,ag,if_neg x1,if_pos rfl]
          ·rw[List.getElem?_set_ne (fun e=>x2 e.symm)]
           cases xa<;>first|(show (X.alias b s (.vec e sh l)).h[x]?=st.h[x]?;rw[ag,if_neg x1,if_neg x2];done)|skip
           rename_i b'
           have y1:b'≠s:=fun e=>hxs (by simp[AV.men,e])
           have y2:b'≠b:=fun e=>hbx (by simp[AV.men,e])
           have y3:=ag b'
           rw[if_neg y1,if_neg y2] at y3
           unfold yI zy
           simp only[y3]
           cases hk:st.h[b']? with
           | none=>simp only;rw[ag,if_neg x1,if_neg x2]
           | some k=>
            cases k<;>simp only<;>first|(rw[ag,if_neg x1,if_neg x2];done)|skip
            by_cases x3:x=b'
            ·subst x3
             rw[List.getElem?_set_self (by simp[Ctx.alias,hs.h];exact qk hk),List.getElem?_set_self (qk hk)]
            ·rw[List.getElem?_set_ne (fun e=>x3 e.symm),List.getElem?_set_ne (fun e=>x3 e.symm),ag,if_neg x1,if_neg x2]
        have hh:(qfM (qlS (E.ty e).bytes) (X.alias b s (.vec e sh l)).h e sh (.vec s) xa).run=some (.vec s,(yI (X.alias b s (.vec e sh l)).h xa).set s (.vec e sh (q2g l m)),some s):=by
         unfold qfM
         rw[hxr]
         simp only
         rw[if_pos hbq,ag,if_pos rfl]
         simp only
         rw[if_pos ⟨hbq,trivial⟩]
         unfold qqt
         cases xa<;>simp only[yI]<;>first|(simp only[Tree.run,g1];done)|skip
         rename_i b'
         rw[if_neg (fun e=>hxs (by simp[AV.men,←e]))]
         simp only[Tree.run,g1]
        have hg:=qbu (ty:=ty) a1 ht hc2 hc1 he (a3 _ hsa) hxrep hh
        rw[←hrun'] at hg
        have hg':qI P B (X.alias b s (.vec e sh l)) (execOp a.eval o) (.vec s,(yI (X.alias b s (.vec e sh l)).h xa).set s (.vec e sh (q2g l m)),some s):=hg
        have s0:=hs.moved a1 a2 h2 h3
        have hw:(X.alias b s (.vec e sh l)).w=X.w:=rfl
        rw[←hw]
        refine qdT hg' fun X' v g4 g3 g5=>?_
        obtain⟨g5,g6⟩:=g5
        simp only at g5 g6
        rw[hfin,qof (kh rfl (kh rfl (qd9 h1)))] at g5
        have s1:=s0.moved g4 g6 h2 h3
        have:({ ({ st with h:=(X.alias b s (.vec e sh l)).h }:St) with h:=X'.h }:St)={ st with h:=((yI st.h xa).set b .dead).set s (.vec e sh (q2g l m)) }:=by rw[g5]
        rw[this] at s1
        exact hq X' v s1 g3
       ·rw[if_neg hq2] at h;cases h
      ·cases h
     ·rw[if_neg hc] at h;cases h
   ·rw[if_neg htt] at h;cases h
  ·
   rename_i _ _ hno
   clear hno
   unfold qgI at h
   split at h
   case h_2=>cases h
   rename_i f xs hcf
   obtain⟨args,tys,hop,rfl⟩:=qdP hcf
   have hargs:=q0u hs args.toList
   split at h
   ·rename_i e hdf
    have hD:=qkR hS hdf
    rw[←hs.h] at h hd h1
    refine qq5 hop hD.1 (K:=fun v w'=>∃X',X'.w=w'∧Rep X' av v∧HSim B X'∧X'.h=h'∧Move X X' (q3I s)) ((qeU hE hD hs.hs hargs h hd h1).mono fun x w' ⟨v,X',e0,e1,e2,e3,e4,e5⟩=>⟨v,e0,X',e1,e2,e3,e4,e5⟩) fun v w' ⟨X',e1,e2,e3,e4,e5⟩=>?_
    subst e1
    have:=hs.moved e3 e5 h2 h3
    rw[e4] at this
    exact hq X' v this e2
   ·unfold qou at h
    split at h
    case h_2=>cases h
    rename_i G hf
    split at h
    case h_2=>cases h
    rename_i hme
    obtain⟨r,k1,k2⟩:=bind_some h
    split at k2
    case h_2=>cases k2
    rename_i e sh l
    simp only[Tree.run,Option.some.injEq,Prod.mk.injEq] at k2
    obtain⟨rfl,rfl⟩:=k2
    have hG:=hS.sp G (List.mem_of_find?_eq_some hf)
    have hfe:G.1=f:=by simpa using List.find?_some hf
    rw[hfe] at hG
    have hmen:AV.menL (args.toList.map (E.opd st.t))=[]:=by simpa using hme
    have hnv:(args.toList.map (E.opd st.t)).flatMap wK=[]:=qkT _ hmen
    have hln:AV.lendL st.h (args.toList.map (E.opd st.t))=args.toList.map (E.opd st.t):=qar _ hmen
    have hcs:(ub G.2 (args.toList.map (E.opd st.t)) st).run=some (.vec st.h.length,{ st with h:=st.h++[.vec e sh l] }):=by
     unfold ub
     have hpr:kO st.h (args.toList.map (E.opd st.t))=st.h:=by
      unfold kO
      simp only[hnv,qW,hln,hmen,q4y,q98]
     simp only[hpr,hln,hmen,qbC,q0U]
     rw[AV.renL_of_men _ _ hmen,Tree.run_bind,k1]
     simp only[Option.bind_some,vD,List.length_nil,List.drop_zero,List.map_cons,List.map_nil]
     rfl
    refine qq5 hop hG.1 (K:=fun v w'=>∃X',X'.w=w'∧Rep X' (.vec st.h.length) v∧Sim E B X' { st with h:=st.h++[.vec e sh l] } a) ((q2X hG hs hargs hcs).mono fun x w' ⟨v,X',e1,e2,e3,e4⟩=>⟨v,e1,X',e2,e3,e4⟩) fun v w' ⟨X',e1,e2,e3⟩=>?_
    subst e1
    obtain⟨X2,e4,s2,r2⟩:=qqQ e3 e2 hd h1 h2 h3 n1 n2 n3
    rw[←e4]
    exact hq X2 v s2 r2
def q9A(w:List Nat)(k h:List Blk):List Blk:=h.mapIdx fun b x=>if b∈w then k.getD b .dead else x
theorem qoP(w:List Nat)(k h:List Blk):(q9A w k h).length=h.length:=by simp[q9A]
theorem qaD{w:List Nat}{k h:List Blk}{b:Nat}(hb:b∉w):(q9A w k h)[b]?=h[b]?:=by
 unfold q9A
 rw[List.getElem?_mapIdx]
 cases h[b]? with
 | none=>rfl
 | some x=>simp[hb]
theorem q9L{w:List Nat}{k h:List Blk}{b:Nat}(hb:b∈w)(hk:k.length=h.length):(q9A w k h)[b]?=k[b]?:=by
 unfold q9A
 rw[List.getElem?_mapIdx]
 rcases Nat.lt_or_ge b h.length with hl|hl
 ·rw[List.getElem?_eq_getElem hl,List.getElem?_eq_getElem (hk▸hl)]
  simp[hb,List.getD_eq_getElem?_getD,List.getElem?_eq_getElem (hk▸hl)]
 ·rw[List.getElem?_eq_none hl,List.getElem?_eq_none (by omega)];rfl
theorem q22{w:List Nat}{k h k':List Blk}(hk:k.length=h.length)(h1:∀b,b∈w→k'[b]?=k[b]?)(h2:∀b,b∉w→k'[b]?=h[b]?):k'=q9A w k h:=by
 apply List.ext_getElem?
 intro b
 by_cases hb:b∈w
 ·rw[h1 b hb,q9L hb hk]
 ·rw[h2 b hb,qaD hb]
theorem qjs{E:Env}{callS:List Blk→ki}{h:List Blk}{f g:Operand→AV}{op:Op}{k:Nat}(hfg:∀x∈op.operands.toList,f x=g x):q2k E callS h f op k=q2k E callS h g op k:=by
 unfold q2k
 cases hl:qmf E op with
 | false=>simp only;rw[qcg hfg]
 | true=>
  simp only
  cases qiM h[k]? with
  | false=>rfl
  | true=>
   simp only
   split
   ·rw[qeL hfg]
   ·rfl
   ·rename_i args tys
    have:args.toList.map f=args.toList.map g:=List.map_congr_left fun y hy=>hfg y (by simpa[Op.operands,Call.operands] using hy)
    rw[this]
   ·unfold qgI
    cases hc:qc3 op with
    | none=>rfl
    | some q=>
     obtain⟨fn,xs⟩:=q
     obtain⟨args,tys,rfl,rfl⟩:=qdP hc
     have:args.toList.map f=args.toList.map g:=List.map_congr_left fun y hy=>hfg y (by simp[Op.operands,Call.operands];exact .inr (by simpa using hy))
     simp only[this]
theorem qnk{E:Env}{h h':List Blk}{ev:Operand→AV}{t:TypeId}{len:Nat}{ps:Array (Nat×Operand)}(hl:h'.length=h.length):q57 E h' ev (.buildSlice t len ps)=q57 E h ev (.buildSlice t len ps):=by
 unfold q57
 simp only
 split
 ·split
  ·split
   ·split
    ·rename_i hc
     rw[qbQ (h':=h) _ _ hc.2,hl]
    ·rfl
   ·rfl
  ·rfl
 ·rfl
theorem qqA{h h':List Blk}{x:AV}{c:Nat}(H:∀b,b∈x.men→h'[b]?=h[b]?)(hc:h'[c]?=h[c]?)(hl:h'.length=h.length):(yI h' x)[c]?=(yI h x)[c]?:=by
 cases x<;>first|exact hc|skip
 rename_i b
 have hb:=H b (by simp[AV.men])
 show (zy h' b)[c]?=(zy h b)[c]?
 unfold zy
 rw[hb]
 split
 ·rename_i e sh l hv
  by_cases hcb:c=b
  ·subst hcb
   rw[List.getElem?_set_self (by rw[hl];exact qk hv),List.getElem?_set_self (qk hv)]
  ·rw[List.getElem?_set_ne (fun e=>hcb e.symm),List.getElem?_set_ne (fun e=>hcb e.symm)];exact hc
 ·exact hc
theorem qeQ{h h':List Blk}{s c:Nat}{k:Blk}(hl:h'.length=h.length)(hc:c≠s→h'[c]?=h[c]?):(h'.set s k)[c]?=(h.set s k)[c]?:=by
 by_cases hcs:c=s
 ·subst hcs
  rcases Nat.lt_or_ge c h.length with hlt|hge
  ·rw[List.getElem?_set_self (by omega),List.getElem?_set_self hlt]
  ·rw[List.getElem?_eq_none (by simp;omega),List.getElem?_eq_none (by simp;omega)]
 ·rw[List.getElem?_set_ne (fun e=>hcs e.symm),List.getElem?_set_ne (fun e=>hcs e.symm)];exact hc hcs
theorem qkX{E:Env}{h h':List Blk}{t:TypeId}{s x:AV}{k:Nat}{u:AV}{r:List Blk}{R:List Nat}(hR:∀b,(b=k∨b∈s.men∨b∈x.men)→b∈R)(H:∀b,b∈R→h'[b]?=h[b]?)(hl:h'.length=h.length)
  (hr:(qi9 E h t s x k).run=some (u,r)):r.length=h.length∧(∀b,b∉R→r[b]?=h[b]?)∧∃r',(qi9 E h' t s x k).run=some (u,r')∧r'.length=h.length∧(∀b,b∉R→r'[b]?=h'[b]?)∧(∀b,b∈R→r'[b]?=r[b]?):=by
 have hk:∀b,b∉R→b≠k:=fun b hb e=>hb (hR b (.inl e))
 have hx:∀b,b∉R→b∉x.men:=fun b hb e=>hb (hR b (.inr (.inr e)))
 have hro:ww h' x=ww h x:=qlE fun b hb=>H b (hR b (.inr (.inr hb)))
 have hfa:∀c,c∈R→(yI h' x)[c]?=(yI h x)[c]?:=fun c hc=>qqA (fun b hb=>H b (hR b (.inr (.inr hb)))) (H c hc) hl
 unfold qi9 at hr ⊢
 cases htd:(E.ty t).d<;>rw[htd] at hr<;>simp only at hr ⊢<;>first|(cases hr;done)|skip
 rename_i e es
 rw[hro]
 split at hr
 case h_2=>cases hr
 rename_i sh sh' m hsh hrw
 split at hr
 case isFalse=>cases hr
 rename_i hc
 split at hr
 ·
  obtain⟨g1,g2⟩:=brR hr
  simp only[Tree.run,Option.some.injEq,Prod.mk.injEq] at g2
  obtain⟨rfl,rfl⟩:=g2
  refine⟨by simp[wv],fun b hb=>?_,(yI h' x).set k (.vec e sh m),?_,by simp[wv,hl],fun b hb=>?_,fun b hb=>?_⟩
  ·rw[List.getElem?_set_ne (fun e=>hk b hb e.symm),q4H (hx b hb)]
  ·simp only[if_pos hc,Tree.run,g1]
  ·rw[List.getElem?_set_ne (fun e=>hk b hb e.symm),q4H (hx b hb)]
  ·exact qeQ (by simp[wv,hl]) fun _=>hfa b hb
 ·rename_i b0
  split at hr
  case h_2=>cases hr
  rename_i e' sh'' l hbk
  split at hr
  case isFalse=>cases hr
  rename_i hq
  obtain⟨g1,g2⟩:=brR hr
  simp only[Tree.run,Option.some.injEq,Prod.mk.injEq] at g2
  obtain⟨rfl,rfl⟩:=g2
  have hb0:b0∈R:=hR b0 (.inr (.inl (by simp[AV.men])))
  have hs:∀b,b∉R→b≠b0:=fun b hb e=>hb (e▸hb0)
  refine⟨by simp[wv],fun b hb=>?_,((yI h' x).set b0 .dead).set k (.vec e sh (q2g l m)),?_,by simp[wv,hl],fun b hb=>?_,fun b hb=>?_⟩
  ·rw[List.getElem?_set_ne (fun e=>hk b hb e.symm),List.getElem?_set_ne (fun e=>hs b hb e.symm),q4H (hx b hb)]
  ·simp only[if_pos hc,H b0 hb0,hbk,if_pos hq,Tree.run,g1]
  ·rw[List.getElem?_set_ne (fun e=>hk b hb e.symm),List.getElem?_set_ne (fun e=>hs b hb e.symm),q4H (hx b hb)]
  ·exact qeQ (by simp[wv,hl]) fun _=>qeQ (by simp[wv,hl]) fun _=>hfa b hb
 ·cases hr
theorem qgb(l m:List AV):AV.menL (l++m)=AV.menL l++AV.menL m:=by
 induction l with
 | nil=>rfl
 | cons a l ih=>simp only[List.cons_append,AV.menL,ih,List.append_assoc]
theorem qlK{E:Env}{h h':List Blk}{e:TypeId}{args:List AV}{k:Nat}{u:AV}{r:List Blk}{R:List Nat}(hR:∀b,(b=k∨b∈AV.menL args)→b∈R)(H:∀b,b∈R→h'[b]?=h[b]?)(hl:h'.length=h.length)
  (hr:(qeE E h e args k).run=some (u,r)):r.length=h.length∧(∀b,b∉R→r[b]?=h[b]?)∧∃r',(qeE E h' e args k).run=some (u,r')∧(∀b,b∉R→r'[b]?=h'[b]?)∧(∀b,b∈R→r'[b]?=r[b]?):=by
 unfold qeE at hr ⊢
 split at hr
 case h_2=>cases hr
 rename_i b x y
 split at hr
 case h_2=>cases hr
 rename_i e' sh l i j hb hx hy
 split at hr
 case isFalse=>cases hr
 rename_i hcc
 obtain⟨g1,hr⟩:=brR hr
 obtain⟨g2,hr⟩:=brR hr
 obtain⟨g3,hr⟩:=brR hr
 obtain⟨g4,hr⟩:=brR hr
 simp only[Tree.run,Option.some.injEq,Prod.mk.injEq] at hr
 obtain⟨rfl,rfl⟩:=hr
 have hbm:b∈R:=hR b (.inr (by simp[AV.menL,AV.men]))
 have hkm:k∈R:=hR k (.inl rfl)
 have out:∀(g:List Blk) (c:Nat),c∉R→((g.set b .dead).set k (.vec e sh (q48 l i j)))[c]?=g[c]?:=fun g c hc'=>by
  have c1:k≠c:=fun e=>hc' (e▸hkm)
  have c2:b≠c:=fun e=>hc' (e▸hbm)
  rw[List.getElem?_set_ne c1,List.getElem?_set_ne c2]
 refine⟨by simp,out h,(h'.set b .dead).set k (.vec e sh (q48 l i j)),?_,out h',fun c hc'=>qeQ (by simp[hl]) fun _=>qeQ hl fun _=>H c hc'⟩
 simp only[H b hbm,hb,hx,hy,if_pos hcc,Tree.run,g1,g2,g3,g4]
theorem qdy{E:Env}{callS:List Blk→ki}(hmo:kG E callS){h h':List Blk}{ev:Operand→AV}{op:Op}{k:Nat}{u:AV}{r:List Blk}{R:List Nat}(hR:(q0n E ev op k u).r=some R)
  (H:∀b,b∈R→h'[b]?=h[b]?) (hl:h'.length=h.length) (hr:(q2k E callS h ev op k).run=some (u,r)) :
  r.length=h.length∧(∀b,b∉(q0n E ev op k u).w→r[b]?=h[b]?)∧(q2k E callS h' ev op k).run=some (u,q9A (q0n E ev op k u).w r h'):=by
 unfold q2k q0n at *
 cases hloc:qmf E op with
 | false=>
  rw[hloc] at hr hR
  simp only at hr hR ⊢
  obtain⟨v,k1,k2⟩:=bind_some hr
  simp only[Tree.run,Option.some.injEq,Prod.mk.injEq] at k2
  obtain⟨rfl,rfl⟩:=k2
  refine⟨rfl,fun _ _=>rfl,?_⟩
  rw[Tree.run_bind,qaa hmo hR H k1]
  simp only[Option.bind_some,Tree.run]
  rw[←q22 (k':=h') hl.symm (fun b hb=>by cases hb) (fun _ _=>rfl)]
 | true=>
  rw[hloc] at hr hR
  simp only[Option.some.injEq] at hr hR ⊢
  subst hR
  have hk:=H k List.mem_cons_self
  cases hdd:qiM h[k]? with
  | false=>rw[hdd] at hr;cases hr
  | true=>
   rw[hdd] at hr
   rw[hk,hdd]
   simp only at hr ⊢
   split at hr
   ·rename_i t len parts
    obtain⟨q,k1,k2⟩:=bind_some hr
    simp only[Tree.run,Option.some.injEq,Prod.mk.injEq] at k2
    obtain⟨rfl,rfl⟩:=k2
    refine⟨by simp,fun b hb=>?_,?_⟩
    ·simp only[List.mem_cons,not_or] at hb
     rw[List.getElem?_set_ne (fun e=>hb.1 e.symm)]
    ·rw[qnk hl,Tree.run_bind,k1]
     simp only[Option.bind_some,Tree.run]
     rw[←q22 (k':=h'.set k q.2) (by simp[hl]) (fun b hb=>qeQ hl fun _=>H b hb) (fun b hb=>by
      simp only[List.mem_cons,not_or] at hb
      rw[List.getElem?_set_ne (fun e=>hb.1 e.symm)])]
   ·rename_i t
    unfold qfA at hr ⊢
    split at hr
    case h_2=>cases hr
    split at hr
    case h_2=>cases hr
    simp only[Tree.run,Option.some.injEq,Prod.mk.injEq] at hr
    obtain⟨rfl,rfl⟩:=hr
    rename_i _ z hz _ hzm
    refine⟨by simp,fun b hb=>?_,?_⟩
    ·simp only[List.mem_cons,not_or] at hb
     rw[List.getElem?_set_ne (fun e=>hb.1 e.symm)]
    ·simp only[Tree.run]
     rw[←q22 (k':=h'.set k z) (by simp[hl]) (fun b hb=>qeQ hl fun _=>H b hb) (fun b hb=>by
      simp only[List.mem_cons,not_or] at hb
      rw[List.getElem?_set_ne (fun e=>hb.1 e.symm)])]
   ·rename_i args tys
    have hmen:qdb ev (.call { callee:=.builtin .append,args:=args,argTypes:=tys })=AV.menL (args.toList.map ev):=by
     unfold qdb vT
     simp[Op.operands,Call.operands]
    rw[hmen] at H ⊢
    unfold qjh at hr ⊢
    generalize args.toList.map ev=als at *
    split at hr
    case h_2=>cases hr
    rename_i t t' sa xa htys
    split at hr
    case isFalse=>cases hr
    rename_i htt
    have hR':∀b,(b=k∨b∈sa.men∨b∈xa.men)→b∈k::AV.menL [sa,xa]:=by
     intro b hb
     simp only[AV.menL,List.append_nil,List.mem_cons,List.mem_append]
     exact hb
    obtain⟨q1,q2,r',q3,q4,q5,q6⟩:=qkX hR' H hl hr
    refine⟨q1,q2,?_⟩
    simp only[if_pos htt]
    rw[q3,←q22 (k':=r') (by rw[q1,hl]) q6 q5]
   ·unfold qgI at hr ⊢
    cases hc:qc3 op with
    | none=>rw[hc] at hr;cases hr
    | some q=>
    obtain⟨fn,xs⟩:=q
    rw[hc] at hr
    obtain⟨args,tys,rfl,rfl⟩:=qdP hc
    have hmen:qdb ev (.call { callee:=.value (.func fn),args:=args,argTypes:=tys })=AV.menL (args.toList.map ev)∨AV.menL (args.toList.map ev) ⊆ qdb ev (.call { callee:=.value (.func fn),args:=args,argTypes:=tys }):=by
     right
     unfold qdb
     cases hco:vT ev (.call { callee:=.value (.func fn),args:=args,argTypes:=tys }) with
     | none=>
      simp only[Op.operands,Call.operands,Array.toList_append,List.map_append]
      intro b hb
      rw[qgb]
      exact List.mem_append_right _ hb
     | some q=>
      obtain⟨g,azz⟩:=q
      unfold vT at hco
      simp only at hco
      split at hco
      ·cases hco
       intro b hb
       simp only[qgb]
       exact List.mem_append_left _ (List.mem_append_right _ hb)
      ·cases hco
    have hsub:∀b,b∈AV.menL (args.toList.map ev)→b∈k::qdb ev (.call { callee:=.value (.func fn),args:=args,argTypes:=tys }):=by
     intro b hb
     rcases hmen with e|e
     ·rw[e];exact List.mem_cons_of_mem _ hb
     ·exact List.mem_cons_of_mem _ (e hb)
    generalize qdb ev (.call { callee:=.value (.func fn),args:=args,argTypes:=tys })=M at *
    simp only at hr ⊢
    split at hr
    ·rename_i e hde
     obtain⟨q1,q2,r',q3,q4,q5⟩:=qlK (R:=k::M) (fun b hb=>hb.elim (fun e=>e▸List.mem_cons_self) (hsub b)) H hl hr
     refine⟨q1,q2,?_⟩
     rw[q3,←q22 (k':=r') (by rw[q1,hl]) q5 q4]
    ·unfold qou at hr ⊢
     split at hr
     case h_2=>cases hr
     split at hr
     case h_2=>cases hr
     rename_i hme
     obtain⟨q,k1,k2⟩:=bind_some hr
     split at k2
     case h_2=>cases k2
     rename_i e sh l
     simp only[Tree.run,Option.some.injEq,Prod.mk.injEq] at k2
     obtain⟨rfl,rfl⟩:=k2
     refine⟨by simp,fun c hc'=>?_,?_⟩
     ·simp only[List.mem_cons,not_or] at hc'
      rw[List.getElem?_set_ne (fun e=>hc'.1 e.symm)]
     ·rw[Tree.run_bind,k1]
      simp only[Option.bind_some,Tree.run]
      rw[←q22 (k':=h'.set k (.vec e sh l)) (by simp[hl]) (fun c hc'=>qeQ hl fun _=>H c hc') (fun c hc'=>by
       simp only[List.mem_cons,not_or] at hc'
       rw[List.getElem?_set_ne (fun e=>hc'.1 e.symm)])]
theorem qn0{E:Env}{callS:List Blk→ki}{h:List Blk}{ev:Operand→AV}{op:Op}{k:Nat}{u:AV}{r:List Blk}(hr:(q2k E callS h ev op k).run=some (u,r)){c:Nat}(hc:c∉q0j h):c∉q0j r:=by
 unfold q2k at hr
 cases hloc:qmf E op with
 | false=>
  rw[hloc] at hr
  simp only at hr
  obtain⟨v,k1,k2⟩:=bind_some hr
  simp only[Tree.run,Option.some.injEq,Prod.mk.injEq] at k2
  rw[←k2.2];exact hc
 | true=>
  rw[hloc] at hr
  simp only at hr
  split at hr
  ·split at hr
   ·rename_i t len parts
    obtain⟨q,k1,k2⟩:=bind_some hr
    simp only[Tree.run,Option.some.injEq,Prod.mk.injEq] at k2
    rw[←k2.2]
    obtain⟨v0,z⟩:=q
    have hz:∃e sh l,z=.vec e sh l:=by
     unfold q57 at k1
     simp only at k1
     split at k1
     ·split at k1
      ·split at k1
       ·split at k1
        ·split at k1
         ·cases k1;exact⟨_,_,_,rfl⟩
         ·cases k1
        ·cases k1
       ·cases k1
      ·cases k1
     ·cases k1
    obtain⟨e,sh,l,rfl⟩:=hz
    exact kh rfl hc
   ·unfold qfA at hr
    split at hr
    case h_2=>cases hr
    split at hr
    case h_2=>cases hr
    rename_i z _ hzm
    simp only[Tree.run,Option.some.injEq,Prod.mk.injEq] at hr
    rw[←hr.2]
    exact kh (by simpa using hzm) hc
   ·rename_i args tys
    unfold qjh at hr
    split at hr
    case h_2=>cases hr
    split at hr
    case isFalse=>cases hr
    unfold qi9 at hr
    split at hr
    case h_2=>cases hr
    split at hr
    case h_2=>cases hr
    split at hr
    case isFalse=>cases hr
    split at hr
    ·obtain⟨g1,g2⟩:=brR hr
     simp only[Tree.run,Option.some.injEq,Prod.mk.injEq] at g2
     rw[←g2.2]
     exact kh rfl (qd9 hc)
    ·split at hr
     case h_2=>cases hr
     split at hr
     case isFalse=>cases hr
     obtain⟨g1,g2⟩:=brR hr
     simp only[Tree.run,Option.some.injEq,Prod.mk.injEq] at g2
     rw[←g2.2]
     exact kh rfl (kh rfl (qd9 hc))
    ·cases hr
   ·unfold qgI at hr
    split at hr
    case h_2=>cases hr
    split at hr
    ·unfold qeE at hr
     split at hr
     case h_2=>cases hr
     split at hr
     case h_2=>cases hr
     split at hr
     case isFalse=>cases hr
     obtain⟨_,hr⟩:=brR hr
     obtain⟨_,hr⟩:=brR hr
     obtain⟨_,hr⟩:=brR hr
     obtain⟨_,hr⟩:=brR hr
     simp only[Tree.run,Option.some.injEq,Prod.mk.injEq] at hr
     rw[←hr.2]
     exact kh rfl (kh rfl hc)
    ·unfold qou at hr
     split at hr
     case h_2=>cases hr
     split at hr
     case h_2=>cases hr
     obtain⟨q,k1,k2⟩:=bind_some hr
     split at k2
     case h_2=>cases k2
     simp only[Tree.run,Option.some.injEq,Prod.mk.injEq] at k2
     rw[←k2.2]
     exact kh rfl hc
  ·cases hr
theorem qlW{E:Env}{P:Program}(hE:E.tok P){f:FuncId}{e:TypeId}(hD:q6R P f e){B:Base}{X:Ctx}{st:St}{a:Act}(hs:Sim E B X st a){args:List AV}{vargs:List Value}(ha:RepL X args vargs){r:AV×St}
  (h:(qqV E e args st).run=some r):Calls P f vargs.toArray X.w fun x w'=>∃v X',x=.returned v∧X'.w=w'∧Rep X' r.1 v∧Sim E B X' r.2 a:=by
 unfold qqV at h
 obtain⟨r0,k1,k2⟩:=bind_some h
 simp only[Tree.run,Option.some.injEq] at k2
 subst k2
 have hw:=PushW.same X
 have hx:=Ctx.push_ext hs.hs .dead hw
 have hs1:=HSim.push hs.hs (k:=.dead) hw trivial
 have hh:(X.pushW .dead none X.w).h=st.h++[.dead]:=by show X.h++[.dead]=_;rw[hs.h]
 have s1:=hs.ext' hx hs1 hh
 have hlen:X.h.length=st.h.length:=by rw[hs.h]
 have hd:(X.pushW .dead none X.w).h[st.h.length]?=some .dead:=by rw[hh,List.getElem?_append_right (Nat.le_refl _)];simp
 have hmen:st.h.length∉q0j (X.pushW .dead none X.w).h:=by
  rw[hh,qfz]
  intro hm
  rcases List.mem_append.1 hm with hm|hm
  ·have:=hs.hs.inB st.h.length (by rw[hs.h];exact hm)
   omega
  ·simp[q0j,Blk.menB] at hm
 have ht:st.h.length∉AV.menL st.t:=fun hm=>by have:=hs.t.inB _ hm;omega
 have hf:st.h.length∉q7b st.fs:=fun hm=>by have:=hs.fs.inB _ hm;omega
 obtain⟨av,h'⟩:=r0
 rw[←hh] at k1
 refine(qeU hE hD hs1 (ha.ext hx) k1 hd hmen).mono fun x w' ⟨v,X',e0,e1,e2,e3,e4,e5⟩=>⟨v,X',e0,e1,e2,?_⟩
 have:=s1.moved e3 e5 ht hf
 rw[e4] at this
 exact this
end Go.Eng

namespace Go.Eng
inductive LocOK (E:Env) (callS:List Blk→ki) (all:Array Oper) (base:Nat) (i:Nat) (o:Oper) (T:List AV) (v:AV) (h h':List Blk) (d:Option LDesc):Prop
 | out (h1:vU all o T=some false) (h2:v=.skip) (h3:h'=h) (h4:d=none)
 | op (u:AV) (h1:vU all o T=some true) (h2:(q2k E callS h (E.opd T) o.op (base+i)).run=some (u,h')) (h3:v=qlV all i u) (h4:d=some (q0n E (E.opd T) o.op (base+i) u))
   (h5:(q0n E (E.opd T) o.op (base+i) u).r.isSome=true) (h6:∀b,b∈u.men→b<h.length)
theorem qrI{E:Env}{ev:Operand→AV}{op:Op}{k:Nat}{u:AV}:(q0n E ev op k u).v=u.men:=by
 unfold q0n;split<;>rfl
theorem qiO{E:Env}{callS:List Blk→ki}{all:Array Oper}{anc:List Nat}{base:Nat}:∀(l:List Oper) (k:Nat) (ds:List (Nat×LDesc)) (st st':St),
  (qnn E callS all anc base k l ds st).run=some st' →
  ∃(V:Nat→AV) (H:Nat→List Blk) (D:Nat→Option LDesc),H k=st.h∧st'={ st with t:=q1s V k l st.t,h:=H (k+l.length) } ∧
   (∀j o,l[j]?=some o→LocOK E callS all base (k+j) o (q1s V k (l.take j) st.t) (V (k+j)) (H (k+j)) (H (k+j+1)) (D (k+j))) ∧
   (∀j d,j<l.length→D (k+j)=some d→∀x,x∈ds→q9m anc base x (k+j) d=true) ∧
   (∀j j' d d',j<j'→j'<l.length→D (k+j)=some d→D (k+j')=some d'→q9m anc base (k+j,d) (k+j') d'=true)
 | [],k,ds,st,st',h=>by
  simp only[qnn,Tree.run,Option.some.injEq] at h
  subst h
  exact⟨fun _=>.undef,fun _=>st.h,fun _=>none,rfl,rfl,fun j o hj=>by simp at hj,fun j d hj=>by simp at hj,fun j j' _ _ _ hj=>by simp at hj⟩
 | o::rest,k,ds,st,st',h=>by
  have fin:∀(v:AV) (h':List Blk) (d:Option LDesc) (ds':List (Nat×LDesc)),LocOK E callS all base k o st.t v st.h h' d→(∀d0,d=some d0→∀x,x∈ds→q9m anc base x k d0=true)→(∀x,x∈ds→x∈ds')→(∀d0,d=some d0→(k,d0)∈ds') →
    (qnn E callS all anc base (k+1) rest ds' { st with t:=q90 st.t o.dst v,h:=h' }).run=some st' →
    ∃(V:Nat→AV) (H:Nat→List Blk) (D:Nat→Option LDesc),H k=st.h∧st'={ st with t:=q1s V k (o::rest) st.t,h:=H (k+(o::rest).length) } ∧
   (∀j o',(o::rest)[j]?=some o'→LocOK E callS all base (k+j) o' (q1s V k ((o::rest).take j) st.t) (V (k+j)) (H (k+j)) (H (k+j+1)) (D (k+j))) ∧
   (∀j d,j<(o::rest).length→D (k+j)=some d→∀x,x∈ds→q9m anc base x (k+j) d=true) ∧
   (∀j j' d d',j<j'→j'<(o::rest).length→D (k+j)=some d→D (k+j')=some d'→q9m anc base (k+j,d) (k+j') d'=true):=by
   intro v h' d ds' hmx hcr hds hd hr
   obtain⟨V,H,D,e1,e2,e3,e4,e5⟩:=qiO rest (k+1) ds' _ st' hr
   have hfold:∀(l:List Oper) (t:List AV),q1s (fun j=>if j=k then v else V j) (k+1) l t=q1s V (k+1) l t:=fun l t=>qbH l (k+1) t fun j hj=>if_neg (by omega)
   refine⟨fun j=>if j=k then v else V j,fun j=>if j=k then st.h else H j,fun j=>if j=k then d else D j,by simp,?_,?_,?_,?_⟩
   ·rw[e2]
    simp only[q1s,if_true,List.length_cons]
    rw[hfold,if_neg (by omega),show k+(rest.length+1)=k+1+rest.length by omega]
   ·intro j o' hj
    cases j with
    | zero=>
     simp only[List.getElem?_cons_zero,Option.some.injEq] at hj
     subst hj
     simp only[Nat.add_zero,if_true,List.take_zero,q1s]
     rw[if_neg (by omega),e1]
     exact hmx
    | succ j=>
     have:=e3 j o' (by simpa using hj)
     simp only[List.take_succ_cons,q1s,if_true]
     rw[hfold,show k+(j+1)=k+1+j by omega,if_neg (by omega),if_neg (by omega),if_neg (by omega),if_neg (by omega)]
     exact this
   ·intro j d0 hj hdj x hx
    cases j with
    | zero=>simp only[Nat.add_zero,if_true] at hdj ⊢;exact hcr d0 hdj x hx
    | succ j=>
     simp only at hdj
     rw[show k+(j+1)=k+1+j by omega,if_neg (by omega)] at hdj
     have:=e4 j d0 (by simpa using hj) hdj x (hds x hx)
     rw[show k+(j+1)=k+1+j by omega]
     exact this
   ·intro j j' d0 d0' hjj hj' hdj hdj'
    obtain⟨j'',rfl⟩:∃x,j'=x+1:=⟨j'-1,by omega⟩
    have hl:j''<rest.length:=by simpa using hj'
    simp only at hdj hdj'
    rw[show k+(j''+1)=k+1+j'' by omega,if_neg (by omega)] at hdj'
    rw[show k+(j''+1)=k+1+j'' by omega]
    cases j with
    | zero=>
     simp only[Nat.add_zero,if_true] at hdj ⊢
     exact e4 j'' d0' hl hdj' _ (hd d0 hdj)
    | succ j=>
     rw[show k+(j+1)=k+1+j by omega,if_neg (by omega)] at hdj
     rw[show k+(j+1)=k+1+j by omega]
     exact e5 j j'' d0 d0' (by omega) hl hdj hdj'
  simp only[qnn] at h
  cases hw:vU all o st.t with
  | none=>rw[hw] at h;cases h
  | some b=>
   rw[hw] at h
   cases b with
   | true=>
    simp only at h
    obtain⟨r,h1,h2⟩:=bind_some h
    split at h2
    ·rename_i hall
     simp only[Bool.and_eq_true,List.all_eq_true] at hall
     obtain⟨c1,c2,c3⟩:=hall
     obtain⟨s,h3,h4⟩:=bind_some h2
     obtain⟨u,h'⟩:=r
     obtain rfl:=ql1 (st:={ st with h:=h' }) h3
     exact fin _ h' (some (q0n E (E.opd st.t) o.op (base+k) u)) _ (.op u hw h1 rfl rfl c1 fun b hb=>Nat.blt_eq.mp (c2 b hb)) (fun d0 he x hx=>by cases he;exact c3 x hx) (fun x hx=>List.mem_append_left _ hx) (fun d0 he=>by cases he;exact List.mem_append_right _ List.mem_cons_self) h4
    ·cases h2
   | false=>
    simp only at h
    exact fin .skip st.h none ds (.out hw rfl rfl rfl) (fun d0 he=>by cases he) (fun x hx=>hx) (fun d0 he=>by cases he) h
section
variable (W:Nat→List Nat) (H:Nat→List Blk) (h0:List Blk)
def hLp(L:Nat→Bool):Nat→List Blk
 | 0=>h0
 | m+1=>if L m=true then q9A (W m) (H (m+1)) (hLp L m) else hLp L m
variable {W H h0}
theorem q5t(L:Nat→Bool):∀m,(hLp W H h0 L m).length=h0.length
 | 0=>rfl
 | m+1=>by simp only[hLp];split<;>simp[qoP,q5t L m]
theorem qml{L:Nat→Bool}{b lo:Nat}:∀m,lo≤m→(∀j,lo≤j→j<m→L j=true→b∉W j)→(hLp W H h0 L m)[b]?=(hLp W H h0 L lo)[b]?
  | 0, h, _ => by have : lo = 0 := by omega
                  rw[this]
  | m+1,h,hj=>by
    rcases Nat.eq_or_lt_of_le h with rfl|h
    · rfl
    · rw[←qml m (by omega) fun j h1 h2=>hj j h1 (by omega)]
      simp only[hLp]
      split
      · rename_i hl
        exact qaD (hj m (by omega) (by omega) hl)
      · rfl
theorem qk0{L L':Nat→Bool}{b:Nat}(hH:∀m,(H m).length=h0.length):∀m,(∀j,j<m→b∈W j→L j=L' j)→(hLp W H h0 L m)[b]?=(hLp W H h0 L' m)[b]?
 | 0,_=>rfl
 | m+1,hj=>by
  have ih:=qk0 (L:=L) (L':=L') hH m fun j h1=>hj j (by omega)
  by_cases hb:b∈W m
  ·have:=hj m (by omega) hb
   simp only[hLp]
   rw[this]
   split
   ·rw[q9L hb (by rw[q5t,hH]),q9L hb (by rw[q5t,hH])]
   ·exact ih
  ·have out:∀L:Nat→Bool,(hLp W H h0 L (m+1))[b]?=(hLp W H h0 L m)[b]?:=fun L=>by
    simp only[hLp]
    split
    ·exact qaD hb
    ·rfl
   rw[out,out,ih]
theorem qfC{L L':Nat→Bool}:∀m,(∀j,j<m→L j=L' j)→hLp W H h0 L m=hLp W H h0 L' m
 | 0,_=>rfl
 | m+1,h=>by
  simp only[hLp]
  rw[h m (Nat.lt_succ_self m),qfC m fun j hj=>h j (by omega)]
theorem qr8(hk:∀i,(H (i+1)).length=(H i).length∧∀b,b∉W i→(H (i+1))[b]?=(H i)[b]?)(h1:H 0=h0):∀m,hLp W H h0 (fun _=>true) m=H m
 | 0=>h1.symm
 | m+1=>by
  simp only[hLp,if_true]
  rw[qr8 hk h1 m]
  exact(q22 (hk m).1 (fun _ _=>rfl) (hk m).2).symm
theorem qqX{L:Nat→Bool}{i m:Nat}(hi:i<m)(hL:L i=false)(hH:∀m,(H m).length=h0.length)(hu:∀j,i<j→j<m→L j=true→∀b,b∈W i→b∉W j) :
  hLp W H h0 (fun j=>if j=i then true else L j) m=q9A (W i) (H (i+1)) (hLp W H h0 L m):=by
 refine q22 (by rw[hH,q5t]) (fun b hb=>?_) (fun b hb=>?_)
 ·rw[qml (lo:=i+1) m (by omega) fun j h1 h2 h3=>hu j (by omega) h2 (by rwa [if_neg (by omega)] at h3) b hb]
  simp only[hLp,if_true]
  exact q9L hb (by rw[q5t,hH])
 ·refine qk0 hH m fun j _ hbj=>if_neg fun e=>?_
  subst e;exact hb hbj
theorem qux{h:List Blk}{c:Nat}(hb:∀(b:Nat) (k:Blk),h[b]?=some k→c∉k.menB):c∉q0j h:=by
 induction h with
 | nil=>intro h;cases h
 | cons k h ih=>
  simp only[q0j,List.mem_append,not_or]
  exact⟨hb 0 k rfl,ih fun b k' hk=>hb (b+1) k' (by simpa using hk)⟩
theorem qm7{L:Nat→Bool}{c:Nat}(hH:∀m,(H m).length=h0.length)(h1:c∉q0j h0)(h2:∀m,c∉q0j (H m)):∀m,c∉q0j (hLp W H h0 L m)
 | 0=>h1
 | m+1=>by
  have ih:=qm7 (L:=L) hH h1 h2 m
  simp only[hLp]
  split
  ·refine qux fun b k hk=>?_
   by_cases hb:b∈W m
   ·rw[q9L hb (by rw[q5t,hH])] at hk;exact qdE (h2 _) hk
   ·rw[qaD hb] at hk;exact qdE ih hk
  ·exact ih
end
theorem qiw{w R:List Nat}(h:qsr w (some R)=true):∀b,b∈w→b∉R:=by
 intro b hb
 cases w with
 | nil=>cases hb
 | cons a w=>
  simp only[qsr,List.all_eq_true,Bool.not_eq_true',List.contains_eq_mem,decide_eq_false_iff_not] at h
  exact h b hb
def wOf(D:Nat→Option LDesc)(j:Nat):List Nat:=match D j with
 | some d=>d.w
 | none=>[]
theorem qvh{E:Env}{ev:Operand→AV}{op:Op}{k:Nat}{u:AV}{R:List Nat}(hR:(q0n E ev op k u).r=some R):∀b,b∈(q0n E ev op k u).w→b∈R:=by
 unfold q0n at *
 split at hR
 ·simp only[Option.some.injEq] at hR;subst hR;exact fun b hb=>hb
 ·intro b hb;cases hb
section
variable {E:Env} {P:Program} {callS:List Blk→ki} {B:Base} {all:Array Oper} {V:Nat→AV} {T0:List AV} {H:Nat→List Blk} {D:Nat→Option LDesc} {fs:List (List AV)} {pd:Option Ex} {Q:Exit→Act→World→Prop} {n0 m base:Nat}
theorem qpX(hE:E.tok P)(hS:E.specs P)(hc:q6C E P callS)(hmo:kG E callS)(hd:DrawOk all)(hms:m≤all.size)
  (hV:∀i o,all[i]?=some o→i<m→LocOK E callS all base i o (TLp (qF all) V T0 (fun _=>true) i) (V i) (H i) (H (i+1)) (D i))
  (hX:∀i j d d',i<j→j<m→D i=some d→D j=some d'→q9m (q00 all.toList) base (i,d) j d'=true)
  (hcon:∀i,m≤i→H i=H m) (_:∀i,m≤i→D i=none)
  (hlen:(H 0).length=base+m) (hT0:∀c,base≤c→c∉AV.menL T0) (hfs:∀c,base≤c→c∉q7b fs) (hH0:∀c,base≤c→c∉q0j (H 0))
  (hq:all.size≤m→∀X a,Sim E B X { t:=TLp (qF all) V T0 (fun _=>true) all.size,fs:=fs,pend:=pd,h:=H m } a→Q .normal a X.w)
  (hlast:∀i fuel listed X a,i<all.size→m≤i→listed.size=all.size→i∈Region.ready .any all listed→q7g all (fun j=>listed.getD j false)→(∀j,m≤j→j<all.size→listed.getD j false=false)→(∀j,j<m→listed.getD j false=true) →
   Sim E B X { t:=TLp (qF all) V T0 (fun j=>listed.getD j false) all.size,fs:=fs,pend:=pd,h:=H m } a →
   unl listed all.size≤fuel+1→wpOpIn (ux B.ro) n0 P all Q i (wpAnyIn (ux B.ro) n0 P .any all Q fuel (listed.setIfInBounds i true)) a X.w)
  (hsuf:∀i j,m≤i→i<all.size→j<i→((q00 all.toList).getD i 0).testBit j=true) :
  ∀(fuel:Nat) (listed:Array Bool) (X:Ctx) (a:Act),listed.size=all.size→q7g all (fun j=>listed.getD j false)→(∀i,m≤i→i<all.size→listed.getD i false=false) →
   unl listed all.size≤fuel→Sim E B X { t:=TLp (qF all) V T0 (fun j=>listed.getD j false) all.size,fs:=fs,pend:=pd,h:=hLp (wOf D) H (H 0) (fun j=>listed.getD j false) m } a→wpAnyIn (ux B.ro) n0 P .any all Q fuel listed a X.w:=by
 intro fuel
 have step:∀i,(H (i+1)).length=(H i).length∧(∀b,b∉wOf D i→(H (i+1))[b]?=(H i)[b]?)∧∀c,c∉q0j (H i)→c∉q0j (H (i+1)):=by
  intro i
  rcases Nat.lt_or_ge i m with him|him
  ·have hi:i<all.size:=by omega
   cases hV i _ (Array.getElem?_eq_getElem hi) him with
   | out h1 h2 h3 h4=>rw[h3];exact⟨rfl,fun _ _=>rfl,fun _ h=>h⟩
   | op u h1 h2 h3 h4 h5 h6=>
    obtain⟨R,hR⟩:=Option.isSome_iff_exists.1 h5
    obtain⟨q1,q2,_⟩:=qdy (h':=H i) hmo hR (fun _ _=>rfl) rfl h2
    refine⟨q1,?_,fun c hc=>qn0 h2 hc⟩
    unfold wOf;rw[h4];exact q2
  ·rw[hcon i him,hcon (i+1) (by omega)];exact⟨rfl,fun _ _=>rfl,fun _ h=>h⟩
 have hlenA:∀i,(H i).length=(H 0).length:=by
  intro i
  induction i with
  | zero=>rfl
  | succ i ih=>rw[(step i).1,ih]
 have hmenA:∀i c,base≤c→c∉q0j (H i):=by
  intro i c hbc
  induction i with
  | zero=>exact hH0 c hbc
  | succ i ih=>exact(step i).2.2 c ih
 have hall:∀i,hLp (wOf D) H (H 0) (fun _=>true) i=H i:=qr8 (fun i=>⟨(step i).1,(step i).2.1⟩) rfl
 have toEnd:∀(listed:Array Bool),(∀j,j<m→listed.getD j false=true)→hLp (wOf D) H (H 0) (fun j=>listed.getD j false) m=H m:=by
  intro listed h
  rw[←hall m]
  exact qfC m h
 have fin:∀(listed:Array Bool) (X:Ctx) (a:Act),listed.size=all.size→(∀i,m≤i→i<all.size→listed.getD i false=false)→Region.ready .any all listed=[] →
   Sim E B X { t:=TLp (qF all) V T0 (fun j=>listed.getD j false) all.size,fs:=fs,pend:=pd,h:=hLp (wOf D) H (H 0) (fun j=>listed.getD j false) m } a→Q .normal a X.w:=by
  intro listed X a hsz hm hr hs
  have hal:=qgw hd hsz hr
  rcases Nat.lt_or_ge m all.size with hlt|hge
  ·have:=hm m (Nat.le_refl _) hlt
   rw[hal m hlt] at this;cases this
  ·rw[toEnd listed fun j hj=>hal j (by omega)] at hs
   rw[stL (L':=fun _=>true) all.size fun j hj=>hal j hj] at hs
   exact hq hge X a hs
 induction fuel with
 | zero=>
  intro listed X a hsz hcl hm hu hs
  have hr:Region.ready .any all listed=[]:=by
   apply List.eq_nil_iff_forall_not_mem.2
   intro j hj
   rw[mem_ready] at hj
   obtain⟨h1,o,h2,_⟩:=hj
   have hj':=(Array.getElem?_eq_some_iff.1 h2).1
   have:=qfw (listed:=listed) (Nat.le_zero.1 hu) j hj'
   have hj2:j<listed.size:=by omega
   simp[Array.getD_eq_getD_getElem?,hj2] at this h1
   rw[this] at h1;cases h1
  exact⟨hr,fin listed X a hsz hm hr hs⟩
 | succ fuel ih=>
  intro listed X a hsz hcl hm hu hs
  refine⟨fun hr=>fin listed X a hsz hm hr hs,fun i hi=>?_⟩
  have hri:=hi
  rw[mem_ready] at hi
  obtain⟨h1,o,ho,hedge⟩:=hi
  have hin:=(Array.getElem?_eq_some_iff.1 ho).1
  have hil:i<listed.size:=by omega
  have hLi:listed.getD i false=false:=by simpa[Array.getD_eq_getD_getElem?,hil] using h1
  have hedge':∀e,e∈o.after.toList→Region.binds .any e=true→listed.getD e.on false=true:=fun e he hb=>hedge e (by simpa using he) hb
  have hcl':=q7k hsz ho hcl hedge'
  have before:∀k,k≠i→qhW (q00 all.toList) i k=true→listed.getD k false=true:=by
   intro k hki hk
   have:=qbi hd hcl' i k (by show (listed.setIfInBounds i true).getD i false=true;rw[wn hil,if_pos rfl]) hk
   have h':(listed.setIfInBounds i true).getD k false=true:=this
   rwa [wn hil,if_neg hki] at h'
  have behind:∀k,qhW (q00 all.toList) k i=true→listed.getD k false=false:=by
   intro k hk
   cases hl:listed.getD k false with
   | false=>rfl
   | true=>
    have:=qbi hd hcl k i hl hk
    have h':listed.getD i false=true:=this
    rw[hLi] at h';cases h'
  rcases Nat.lt_or_ge i m with him|him
  ·have hv:=hV i o ho him
   have hsame:∀t,t∈qlN all o→(TLp (qF all) V T0 (fun j=>listed.getD j false) all.size)[t]?=(TLp (qF all) V T0 (fun _=>true) i)[t]?:=fun t ht=>
    qqz hd hcl ho (Nat.le_of_lt hin) hLi hedge' ht
   have hopd:∀x,x∈o.op.operands.toList→E.opd (TLp (qF all) V T0 (fun j=>listed.getD j false) all.size) x=E.opd (TLp (qF all) V T0 (fun _=>true) i) x:=fun x hx=>by
    cases x with
    | tmp t=>
     have:=hsame t (List.mem_append_left _ (List.mem_filterMap.2 ⟨.tmp t,hx,rfl⟩))
     simp only[Env.opd,List.getD_eq_getElem?_getD]
     rw[this]
    | const v=>rfl
    | global g=>rfl
    | func f=>rfl
   have hwant:vU all o (TLp (qF all) V T0 (fun j=>listed.getD j false) all.size)=vU all o (TLp (qF all) V T0 (fun _=>true) i):=by
    unfold vU
    cases hg:o.guard with
    | none=>rfl
    | some p=>
     obtain⟨j,want⟩:=p
     simp only
     cases hj:(all[j]?).bind (·.dst) with
     | none=>rfl
     | some d=>
      simp only
      rw[hsame d (by simp[qlN,hg,hj])]
   have hun:unl (listed.setIfInBounds i true) all.size≤fuel:=by
    have:=(qjn hil hLi all.size).2 hin;omega
   have hdi:qF all i=o.dst:=by simp[qF,ho]
   have hnext:∀(X':Ctx) (u:Value),Sim E B X' { t:=TLp (qF all) V T0 (fun j=>listed.getD j false) all.size,fs:=fs,pend:=pd,h:=hLp (wOf D) H (H 0) (fun j=>(listed.setIfInBounds i true).getD j false) m } a→Rep X' (V i) u →
     wpAnyIn (ux B.ro) n0 P .any all Q fuel (listed.setIfInBounds i true) (a.put o.dst u) X'.w:=by
    intro X' u hs' hu'
    refine ih _ X' _ (by simp[hsz]) hcl' ?_ hun ?_
    ·intro k hk1 hk2
     rw[wn hil,if_neg (by omega)]
     exact hm k hk1 hk2
    ·have hput:=hs'.put hu' o.dst
     have hT:TLp (qF all) V T0 (fun j=>(listed.setIfInBounds i true).getD j false) all.size=q90 (TLp (qF all) V T0 (fun j=>listed.getD j false) all.size) o.dst (V i):=by
      rw[←hdi,←qrB hin hLi]
      ·exact stL all.size fun j _=>wn hil
      ·intro k hk hki t ht he
       cases hk':all[k]? with
       | none=>simp[qF,hk'] at he
       | some ok=>
        simp only[qF,hk',Option.bind_some] at he
        rw[hdi] at ht
        exact(hd.dst i k o ok ho hk' hki t he).1 ht
     rw[hT]
     exact hput
   have hLset:hLp (wOf D) H (H 0) (fun j=>(listed.setIfInBounds i true).getD j false) m=hLp (wOf D) H (H 0) (fun j=>if j=i then true else listed.getD j false) m:=qfC m fun j _=>wn hil
   unfold wpOpIn
   rw[ho]
   simp only
   cases hv with
   | out w1 w2 w3 w4=>
    rw[u6 hs.t (hwant.trans w1)]
    simp only[Bool.false_eq_true,if_false]
    refine⟨fun _ _=>trivial,hnext X _ ?_ (by rw[w2];exact .skip)⟩
    rw[hLset,qqX him hLi hlenA (fun j _ _ _ b hb=>by unfold wOf at hb;rw[w4] at hb;cases hb)]
    have:wOf D i=[]:=by unfold wOf;rw[w4]
    rw[this,←q22 (k':=hLp (wOf D) H (H 0) (fun j=>listed.getD j false) m) (by rw[hlenA,q5t]) (fun b hb=>by cases hb) (fun _ _=>rfl)]
    exact hs
   | op u w1 w2 w3 w4 w5 w6=>
    rw[u6 hs.t (hwant.trans w1)]
    simp only[if_true]
    obtain⟨R,hR⟩:=Option.isSome_iff_exists.1 w5
    have hwi:wOf D i=(q0n E (E.opd (TLp (qF all) V T0 (fun _=>true) i)) o.op (base+i) u).w:=by unfold wOf;rw[w4]
    have wr:∀j b,b∈R→b∈wOf D j→j<m→j≠i→(j<i→qhW (q00 all.toList) i j=true)∧(i<j→qhW (q00 all.toList) j i=true):=by
     intro j b hb hbj hjm hji
     cases hDj:D j with
     | none=>unfold wOf at hbj;rw[hDj] at hbj;cases hbj
     | some dj=>
      have hbj':b∈dj.w:=by unfold wOf at hbj;rw[hDj] at hbj;exact hbj
      refine⟨fun hlt=>?_,fun hlt=>?_⟩
      ·have:=hX j i dj _ hlt him hDj w4
       unfold q9m at this
       simp only[Bool.and_eq_true,Bool.or_eq_true] at this
       rcases this.2 with h3|h3
       ·exact h3
       ·rw[hR] at h3;exact absurd hb (qiw h3.2.1 b hbj')
      ·have:=hX i j _ dj hlt hjm w4 hDj
       unfold q9m at this
       simp only[Bool.and_eq_true,Bool.or_eq_true] at this
       rcases this.2 with h3|h3
       ·exact h3
       ·rw[hR] at h3;exact absurd hb (qiw h3.2.2 b hbj')
    have hat:∀b,b∈R→(hLp (wOf D) H (H 0) (fun j=>listed.getD j false) m)[b]?=(H i)[b]?:=by
     intro b hb
     rw[←hall i,qml (lo:=i) m (by omega) fun j h3 h4 h5 h6=>?_]
     ·refine qk0 hlenA i fun j h3 h4=>?_
      exact before j (by omega) ((wr j b hb h4 (by omega) (by omega)).1 h3)
     ·have hji:j≠i:=fun e=>by rw[e,hLi] at h5;cases h5
      have:=behind j ((wr j b hb h6 h4 hji).2 (by omega))
      rw[this] at h5;cases h5
    have hln:(hLp (wOf D) H (H 0) (fun j=>listed.getD j false) m).length=(H i).length:=by rw[q5t];exact(hlenA i).symm
    obtain⟨_,_,hrun⟩:=qdy hmo hR hat hln w2
    have hnew:hLp (wOf D) H (H 0) (fun j=>(listed.setIfInBounds i true).getD j false) m=q9A (wOf D i) (H (i+1)) (hLp (wOf D) H (H 0) (fun j=>listed.getD j false) m):=by
     rw[hLset,qqX him hLi hlenA fun j h3 h4 h5 b hb hbj=>?_]
     have:=behind j ((wr j b (qvh hR b (hwi▸hb)) hbj h4 (by omega)).2 h3)
     rw[this] at h5;cases h5
    rw[←hwi,←hnew,←qjs hopd] at hrun
    have hTs:base+i∉AV.menL (TLp (qF all) V T0 (fun j=>listed.getD j false) all.size):=qjd (hT0 _ (by omega)) _ fun j hj hLj=>by
     have hjm:j<m:=by
      rcases Nat.lt_or_ge j m with h|h
      ·exact h
      ·have:=hm j h hj
       rw[show listed.getD j false=true from hLj] at this;cases this
     have hji:j≠i:=fun e=>by
      have h3:listed.getD j false=true:=hLj
      rw[e,hLi] at h3;cases h3
     cases hV j _ (Array.getElem?_eq_getElem hj) hjm with
     | out _ q2 _ _=>rw[q2];simp[AV.men]
     | op uj _ _ q3 q4 _ _=>
      rw[q3]
      apply qgy
      rw[←qrI (E:=E) (ev:=E.opd (TLp (qF all) V T0 (fun _=>true) j)) (op:=all[j].op) (k:=base+j)]
      rcases Nat.lt_or_ge j i with h3|h3
      ·have:=hX j i _ _ h3 him q4 w4
       unfold q9m at this
       simp only[Bool.and_eq_true,Bool.not_eq_true',List.contains_eq_mem,decide_eq_false_iff_not] at this
       exact this.1
      ·have:=hX i j _ _ (by omega) hjm w4 q4
       unfold q9m at this
       simp only[Bool.and_eq_true,Bool.or_eq_true,Bool.not_eq_true',List.contains_eq_mem,decide_eq_false_iff_not] at this
       rcases this.2 with h4|h4
       ·have:=behind j h4
        rw[show listed.getD j false=true from hLj] at this;cases this
       ·exact h4.1
    have hTn:(hLp (wOf D) H (H 0) (fun j=>listed.getD j false) m).length∉AV.menL (TLp (qF all) V T0 (fun j=>listed.getD j false) all.size):=by
     rw[q5t,hlen]
     refine qjd (hT0 _ (by omega)) _ fun j hj hLj=>?_
     have hjm:j<m:=by
      rcases Nat.lt_or_ge j m with h|h
      ·exact h
      ·have:=hm j h hj
       rw[show listed.getD j false=true from hLj] at this;cases this
     cases hV j _ (Array.getElem?_eq_getElem hj) hjm with
     | out _ q2 _ _=>rw[q2];simp[AV.men]
     | op uj _ _ q3 q4 _ q6=>
      rw[q3]
      apply qgy
      intro hmm
      have:=q6 _ hmm
      rw[hlenA,hlen] at this;omega
    cases hloc:qmf E o.op with
    | true=>
     refine qbB B.ro n0 (qjW hE hS hs hrun hloc (qm7 hlenA (hH0 _ (by omega)) (fun j=>hmenA j _ (by omega)) m) hTs (hfs _ (by omega)) ?_ hTn ?_ fun X' v hs' hv'=>hnext X' v hs' (by rw[w3];exact qcj hv')) (fun c hcc=>by rw[hcc] at hloc;cases hloc)
     ·rw[q5t,hlen];exact qm7 hlenA (hH0 _ (by omega)) (fun j=>hmenA j _ (by omega)) m
     ·rw[q5t,hlen];exact hfs _ (by omega)
    | false=>
     unfold q2k at hrun
     rw[hloc] at hrun
     simp only at hrun
     obtain⟨av,k1,k2⟩:=bind_some hrun
     simp only[Tree.run,Option.some.injEq,Prod.mk.injEq] at k2
     obtain⟨rfl,k2⟩:=k2
     refine qbB B.ro n0 (qcZ hE hc hs k1 fun X' v hs' hv'=>hnext X' v (by rw[←k2];exact hs') (by rw[w3];exact qcj hv')) (fun c hcc=>by rw[hcc] at k1;simp[q2J,q5m,Tree.run] at k1)
  ·have hallb:∀j,j<m→listed.getD j false=true:=fun j hj=>before j (by omega) (hsuf i j him hin (by omega))
   rw[toEnd listed hallb] at hs
   exact hlast i fuel listed X a hin him hsz hri hcl hm hallb hs hu
end
theorem qiR{E:Env}{P:Program}(hm:P.follows .mixedOrders=true)(hE:E.tok P)(hS:E.specs P){callH:q1Q}{B:Base}(hcH:CallOK E P callH B){callS:List Blk→ki}(hc:q6C E P callS)(hmo:kG E callS){id:Nat}{all:Array Oper}{X:Ctx}{st st':St}{a:Act}
  (hs:Sim E B X st a) (h:(qmI E callH callS all st).run=some st') {Q:Exit→Act→World→Prop} {n0:Nat} (hq:∀X' a',Sim E B X' st' a'→Q .normal a' X'.w):(Code.region id all true).wpIn (ux B.ro) n0 P Q a X.w:=by
 apply wpIn_region_any hm
 have hs1:=hs.drawn (X.w.drawn+1)
 generalize hX1:({ X with w:={ X.w with drawn:=X.w.drawn+1 } }:Ctx)=X1 at hs1
 have hw:({ X.w with drawn:=X.w.drawn+1 }:World)=X1.w:=by rw[←hX1]
 rw[hw]
 obtain⟨T0,fs,hb,pd⟩:=st
 unfold qmI at h
 by_cases hdb:qkw all=false
 ·rw[if_pos hdb] at h;cases h
 ·rw[if_neg hdb] at h
  have hd:=qo4 (by simpa using hdb:qkw all=true)
  have hcl0:q7g all fun j=>(Array.replicate all.size false).getD j false:=by
   intro i o _ hL
   have hL':(Array.replicate all.size false).getD i false=true:=hL
   rw[q7F] at hL';cases hL'
  have hdst:qF all=fun i=>(all.toList[i]?).bind (·.dst):=by funext i;simp[qF]
  have hsl:=qnS all
  simp only at h
  split at h
  case h_2=>cases h
  rename_i hzc
  simp only[List.all_eq_true,List.mem_append] at hzc
  have lt:∀b,(b∈AV.menL T0∨b∈q7b fs)∨b∈q0j hb→b<hb.length:=fun b hb'=>Nat.blt_eq.mp (hzc b hb')
  obtain⟨r,h1,h2⟩:=bind_some h
  obtain⟨V,H0,D0,e0,e1,e2,_,e5⟩:=qiO _ 0 [] _ r h1
  simp only[Nat.zero_add] at e1 e2 e5
  have htlen:(all.toList.take (zh all)).length=zh all:=by simp;omega
  obtain⟨H,hH1,hH2⟩:∃H:Nat→List Blk,(∀i,i≤zh all→H i=H0 i)∧∀i,zh all≤i→H i=H (zh all):=
   ⟨fun i=>if i≤zh all then H0 i else H0 (zh all),fun i hi=>if_pos hi,fun i hi=>by
    simp only[Nat.le_refl,if_true]
    split
    ·rw[show i=zh all by omega]
    ·rfl⟩
  obtain⟨D,hD1,hD2⟩:∃D:Nat→Option LDesc,(∀i,i<zh all→D i=D0 i)∧∀i,zh all≤i→D i=none:=
   ⟨fun i=>if i<zh all then D0 i else none,fun i hi=>if_pos hi,fun i hi=>if_neg (by omega)⟩
  have htk:∀i,i<zh all→(all.toList.take (zh all))[i]?=all[i]?:=by
   intro i hi
   rw[List.getElem?_take,if_pos hi];simp
  have hTm:∀i,i≤zh all→TLp (qF all) V T0 (fun _=>true) i=q1s V 0 ((all.toList.take (zh all)).take i) T0:=by
   intro i hi
   rw[hdst,qod i (by simp;omega),List.take_take,Nat.min_eq_left hi]
  have hVA:∀i o,all[i]?=some o→i<zh all→LocOK E callS all hb.length i o (TLp (qF all) V T0 (fun _=>true) i) (V i) (H i) (H (i+1)) (D i):=by
   intro i o ho hi
   rw[hTm i (by omega),hH1 i (by omega),hH1 (i+1) (by omega),hD1 i hi]
   exact e2 i o (by rw[htk i hi];exact ho)
  have hs0:∀(X':Ctx) (a':Act),Sim E B X' { t:=TLp (qF all) V T0 (fun _=>true) (zh all),fs:=fs,pend:=pd,h:=H (zh all) } a'→Sim E B X' r a':=by
   intro X' a' hs'
   have:r={ t:=TLp (qF all) V T0 (fun _=>true) (zh all),fs:=fs,pend:=pd,h:=H (zh all) }:=by
    rw[hTm _ (Nat.le_refl _),e1,List.take_of_length_le (i:=zh all) (l:=all.toList.take (zh all)) (by simp;omega),htlen,hH1 _ (Nat.le_refl _)]
   rw[this];exact hs'
  have hH00:H 0=hb++List.replicate (zh all) .dead:=by rw[hH1 0 (Nat.zero_le _)];exact e0
  obtain⟨X2,hX2,hs2⟩:=Sim.padN (zh all) hs1
  rw[←hX2]
  have start:Sim E B X2 { t:=TLp (qF all) V T0 (fun j=>(Array.replicate all.size false).getD j false) all.size,fs:=fs,pend:=pd,h:=hLp (wOf D) H (H 0) (fun j=>(Array.replicate all.size false).getD j false) (zh all) } a:=by
   have q1:TLp (qF all) V T0 (fun j=>(Array.replicate all.size false).getD j false) all.size=T0:=by
    have:∀n,TLp (qF all) V T0 (fun j=>(Array.replicate all.size false).getD j false) n=T0:=by
     intro n
     induction n with
     | zero=>rfl
     | succ n ih=>simp only[TLp];rw[if_neg (by rw[q7F];simp),ih]
    exact this _
   have q2:∀n,hLp (wOf D) H (H 0) (fun j=>(Array.replicate all.size false).getD j false) n=H 0:=by
    intro n
    induction n with
    | zero=>rfl
    | succ n ih=>simp only[hLp];rw[if_neg (by rw[q7F];simp),ih]
   rw[q1,q2,hH00];exact hs2
  refine qpX (m:=zh all) (V:=V) (T0:=T0) (H:=H) (D:=D) (fs:=fs) (base:=hb.length) hE hS hc hmo hd hsl hVA (fun i j d d' hij hj q1 q2=>?_) hH2 hD2 (by rw[hH00];simp) (fun c hc hm'=>?_) (fun c hc hm'=>?_) (fun c hc hm'=>?_) ?_ ?_ (fun i j h1 h2 h3=>q7i all h1 h2 h3) all.size _ X2 a (by simp) hcl0 (fun i _ _=>q7F i) (qqS _ _) start
  ·rw[hD1 i (by omega)] at q1
   rw[hD1 j hj] at q2
   exact e5 i j d d' hij (by rw[htlen];exact hj) q1 q2
  ·have:=lt c (.inl (.inl hm'));omega
  ·have:=lt c (.inl (.inr hm'));omega
  ·rw[hH00,qfz] at hm'
   rcases List.mem_append.1 hm' with hm'|hm'
   ·have:=lt c (.inr hm');omega
   ·exact qiJ (fun z hz=>by rw[List.mem_replicate] at hz;rw[hz.2];rfl) hm'
  ·intro hge X' a' hs'
   have hsz:zh all=all.size:=by omega
   rw[show TLp (qF all) V T0 (fun _=>true) all.size=TLp (qF all) V T0 (fun _=>true) (zh all) by rw[hsz]] at hs'
   have h3:=hs0 X' a' hs'
   rw[List.drop_eq_nil_of_le (by simp;omega)] at h2
   simp only[q9d,Tree.run,Option.some.injEq] at h2
   rw[h2] at h3
   exact hq X' a' h3
  ·intro i fuel listed X' a' hin him hsz hri hcl hlm hallm hs' hun
   have hri':=hri
   rw[mem_ready] at hri'
   obtain⟨g1,o,ho,gedge⟩:=hri'
   have hil:i<listed.size:=by omega
   have hLi:listed.getD i false=false:=by simpa[Array.getD_eq_getD_getElem?,hil] using g1
   have hedge':∀e,e∈o.after.toList→Region.binds .any e=true→listed.getD e.on false=true:=fun e he hb=>gedge e (by simpa using he) hb
   have hcl':=q7k hsz ho hcl hedge'
   have hallb:∀j,j<i→listed.getD j false=true:=by
    intro j hj
    have hb':=q7i all him hin hj
    have:=qbi hd hcl' i j (by show (listed.setIfInBounds i true).getD i false=true;rw[wn hil,if_pos rfl]) hb'
    have h':(listed.setIfInBounds i true).getD j false=true:=this
    rw[wn hil,if_neg (by omega)] at h'
    exact h'
   have him2:i=zh all:=by
    rcases Nat.eq_or_lt_of_le him with h3|h3
    ·exact h3.symm
    ·have h4:=hallb _ h3
     rw[hlm _ (Nat.le_refl _) (by omega)] at h4;cases h4
   have hcut:∀n,zh all≤n→n≤all.size→TLp (qF all) V T0 (fun j=>listed.getD j false) n=TLp (qF all) V T0 (fun _=>true) (zh all):=by
    intro n
    induction n with
    | zero=>
     intro h3 _
     have h0:zh all=0:=by omega
     rw[h0];rfl
    | succ n ihn=>
     intro h3 h4
     rcases Nat.eq_or_lt_of_le h3 with h5|h5
     ·rw[←h5]
      exact stL (zh all) fun j hj=>hallb j (by omega)
     ·simp only[TLp]
      rw[if_neg (by rw[hlm n (by omega) (by omega)];simp)]
      exact ihn (by omega) (by omega)
   rw[hcut _ hsl (Nat.le_refl _)] at hs'
   have h3:=hs0 X' a' hs'
   subst him2
   exact(qln hE hcH hd hq _ (zh all) rfl (Nat.le_refl _) (fuel+1) listed X' a' _ hsz (fun j hj _=>hallb j hj) (fun j hj=>by
    rcases Nat.lt_or_ge j all.size with h5|h5
    ·exact hlm j hj h5
    ·simp[Array.getD_eq_getD_getElem?,show listed.size≤j by omega]) hun h3 h2).2 _ hri
theorem qkG{E:Env}{P:Program}(hm:P.follows .mixedOrders=true)(hE:E.tok P)(hS:E.specs P){callH:q1Q}{B:Base}(hcH:CallOK E P callH B){callS:List Blk→ki}(hc:q6C E P callS)(hmo:kG E callS){id:Nat}{all:Array Oper}{X:Ctx}{st st':St}{a:Act}
  (hs:Sim E B X st a) (h:(qpU E callH callS all st).run=some st') {Q:Exit→Act→World→Prop} {n0:Nat} (hq:∀X' a',Sim E B X' st' a'→Q .normal a' X'.w):(Code.region id all true).wpIn (ux B.ro) n0 P Q a X.w:=by
 unfold qpU at h
 split at h
 ·exact qiR hm hE hS hcH hc hmo hs h hq
 ·exact qjA hm hE hS hcH hc hmo hs h hq
end Go.Eng

namespace Go.Eng
theorem HSim.base{B B':Base}{X:Ctx}(h:HSim B X)(h0:B'.w0=B.w0)(h1:B'.imps=B.imps)(h2:B'.M0=B.M0):HSim B' X:=by
 obtain⟨w0,imps,M0,fs,ro,y,pin⟩:=B
 obtain⟨w0',imps',M0',fs',ro',y',pin'⟩:=B'
 simp only at h0 h1 h2
 subst h0 h1 h2
 exact⟨h.blk,h.inj,h.notM,h.ltM,h.M0,h.newM,h.os,h.tape,h.output,h.size,h.frame,h.imps,h.impc,h.fresh,h.kept⟩
def qcx(o:Obj):Prop:=∀c T fr,o≠.cells c T fr
def q6k(n:Nat)(o:Obj)(l:List (Nat×Obj)):List (Nat×Obj):=l.map fun p=>if p.1=n then (n,o) else p
theorem uh{p:Nat×Obj}{n:Nat}{o:Obj}{l:List (Nat×Obj)}(h:p∈l)(hne:p.1≠n):p∈q6k n o l:=
 List.mem_map.2 ⟨p,h,if_neg hne⟩
theorem q9k{n:Nat}{o o':Obj}{l:List (Nat×Obj)}(h:(n,o)∈l):(n,o')∈q6k n o' l:=
 List.mem_map.2 ⟨(n,o),h,if_pos rfl⟩
theorem qbW{p:Nat×Obj}{n:Nat}{o:Obj}{l:List (Nat×Obj)}(h:p∈q6k n o l):p=(n,o)∨(p∈l∧p.1≠n):=by
 obtain⟨q,h1,h2⟩:=List.mem_map.1 h
 by_cases hq:q.1=n
 ·rw[if_pos hq] at h2;exact .inl h2.symm
 ·rw[if_neg hq] at h2;subst h2;exact .inr ⟨h1,hq⟩
structure SameCells (w w':World):Prop where
 cells:∀(n:Nat) c T fr,w.heap[n]?=some (.cells c T fr)→w'.heap[n]?=some (.cells c T fr)
 cell:∀a:Addr,a.block<w.heap.size→w'.cell? a=w.cell? a
theorem SameCells.blk{X X':Ctx}(hw:SameCells X.w X'.w)(hm:Move0 X X' some){b:Nat}{k:Blk}(hσ:X'.σ b=X.σ b)(h:vM X b k):vM X' b k:=by
 cases k with
 | cells cs=>
  obtain⟨n,c,T,e1,e2,e3⟩:=h
  exact⟨n,c,T,by rw[hσ];exact e1,hw.cells _ _ _ _ e2,e3.ext0 hm⟩
 | big cs k N l=>
  obtain⟨n,c,T,vs,e1,e2,e3,e4,e5⟩:=h
  exact⟨n,c,T,vs,by rw[hσ];exact e1,hw.cells _ _ _ _ e2,e3.ext0 hm,e4,e5⟩
 | vec e sh l=>
  rcases h with⟨e1,e2⟩|⟨n,c,e1,e2,e3⟩
  ·exact .inl ⟨by rw[hσ];exact e1,e2⟩
  ·exact .inr ⟨n,c,by rw[hσ];exact e1,hw.cells _ _ _ _ e2,e3.mono hm.M hm.w⟩
 | frz e sh l=>
  rcases h with⟨e1,e2⟩|⟨n,c,e1,e2,e3,e4⟩
  ·exact .inl ⟨by rw[hσ];exact e1,e2⟩
  ·exact .inr ⟨n,c,by rw[hσ];exact e1,hw.cells _ _ _ _ e2,e3.mono hm.M hm.w,hm.M n e4⟩
 | dead=>trivial
theorem ql3{B:Base}{X:Ctx}(hs:HSim B X){w':World}{kept':List (Nat×Obj)}(hw:SameCells X.w w')(hsz:X.w.heap.size≤w'.heap.size)(ho:w'.os=X.w.os)(ht:w'.tape=X.w.tape)(hp:w'.output=X.w.output)
  (hf:∀n,n<B.w0.heap.size→w'.heap[n]?=X.w.heap[n]?) (hk:∀p,p∈kept'→w'.heap[p.1]?=some p.2∧qcx p.2∧B.w0.heap.size≤p.1) :
  HSim B { X with w:=w',kept:=kept' }∧Move0 X { X with w:=w',kept:=kept' } some:=by
 have hm:Move0 X { X with w:=w',kept:=kept' } some:=
  ⟨fun _ h=>h,fun a ha=>hw.cell a (hs.ltM _ ha),fun b b' hb h=>by
   cases h;exact⟨hb,rfl,fun _ _ h=>h,fun _ _ _ n _ c T fr h=>⟨c,T,fr,hw.cells n c T fr h,rfl⟩⟩,rfl⟩
 refine⟨⟨fun b k hb=>SameCells.blk hw hm rfl (hs.blk b k hb),hs.inj,hs.notM,fun n hn=>Nat.lt_of_lt_of_le (hs.ltM n hn) hsz,hs.M0,hs.newM,ho.trans hs.os,ht.trans hs.tape,hp.trans hs.output,
  Nat.le_trans hs.size hsz,fun n hn hi=>(hf n hn).trans (hs.frame n hn hi),hs.imps,hs.impc,hs.fresh,hk⟩,hm⟩
theorem qj8{w:World}{n:Nat}{o o':Obj}(h:w.heap[n]?=some o)(ho:qcx o)(ho':qcx o'):SameCells w (w.putObj n o'):=by
 have hn:=(Array.getElem?_eq_some_iff.1 h).1
 refine⟨fun m c T fr hm=>?_,fun a _=>?_⟩
 ·by_cases e:m=n
  ·subst e;rw[h] at hm;exact absurd (Option.some.inj hm) (ho _ _ _)
  ·rw[World.putObj_heap_other e];exact hm
 ·by_cases e:a.block=n
  ·unfold World.cell?
   rw[e,h,World.putObj_heap_same hn]
   cases o'<;>cases o<;>first|rfl|exact absurd rfl (ho _ _ _)|exact absurd rfl (ho' _ _ _)
  ·exact World.cell?_of_block (World.putObj_heap_other e)
theorem q6b{B:Base}{X:Ctx}(hs:HSim B X){n:Nat}{o o':Obj}(hk:(n,o)∈X.kept)(ho':qcx o') :
  HSim B { X with w:=X.w.putObj n o',kept:=q6k n o' X.kept }∧Move0 X { X with w:=X.w.putObj n o',kept:=q6k n o' X.kept } some:=by
 obtain⟨h1,h2,h3⟩:=hs.kept _ hk
 simp only at h1 h2 h3
 have hn:=(Array.getElem?_eq_some_iff.1 h1).1
 refine ql3 hs (qj8 h1 h2 ho') (by simp) rfl rfl rfl (fun m hm=>World.putObj_heap_other (by omega)) fun p hp=>?_
 rcases qbW hp with rfl|⟨hp,hne⟩
 ·exact⟨World.putObj_heap_same hn,ho',h3⟩
 ·obtain⟨g1,g2,g3⟩:=hs.kept p hp
  exact⟨by rw[World.putObj_heap_other hne];exact g1,g2,g3⟩
theorem qco{B:Base}{X:Ctx}(hs:HSim B X){o:Obj}(ho:qcx o) :
  HSim B { X with w:=X.w.alloc o,kept:=(X.w.heap.size,o)::X.kept }∧Move0 X { X with w:=X.w.alloc o,kept:=(X.w.heap.size,o)::X.kept } some:=by
 refine ql3 hs ⟨fun m c T fr hm=>?_,fun a ha=>World.cell?_of_block (zw _ _ ha)⟩ (by simp) rfl rfl rfl (fun m hm=>zw _ _ (Nat.lt_of_lt_of_le hm hs.size)) fun p hp=>?_
 ·rw[zw _ _ (Array.getElem?_eq_some_iff.1 hm).1];exact hm
 ·rcases List.mem_cons.1 hp with rfl|hp
  ·exact⟨zu _ _,ho,hs.size⟩
  ·obtain⟨g1,g2,g3⟩:=hs.kept p hp
   exact⟨by rw[zw _ _ (Array.getElem?_eq_some_iff.1 g1).1];exact g1,g2,g3⟩
theorem qn7{B:Base}{X:Ctx}(hs:HSim B X){p:Nat×Obj}(h:p∈X.kept):p.1<X.w.heap.size:=(Array.getElem?_eq_some_iff.1 (hs.kept p h).1).1
mutual
theorem Rep.setY'{X:Ctx}(l:Nat):∀{av:AV} {v:Value},Rep X av v→av.noY=true→Rep { X with y:=l } av v
 | _,_,.undef v,_=>.undef v
 | _,_,.skip,_=>.skip
 | _,_,.yld,h=>by cases h
 | _,_,.blit b,_=>.blit b
 | _,_,.bool b,_=>.bool b
 | _,_,.ilit k n,_=>.ilit k n
 | _,_,.int k n,_=>.int k n
 | _,_,.str s,_=>.str s
 | _,_,.nilp,_=>.nilp
 | _,_,.ptr b off n hb hσ,_=>.ptr b off n hb hσ
 | _,_,.eptr sh l i off a hsp h0 h1 hr,_=>.eptr sh l i off a hsp h0 h1 hr
 | _,_,.mnil sh l i off,_=>.mnil sh l i off
 | _,_,.mptr sh l i off a hsp h0 h1 hr,_=>.mptr sh l i off a hsp h0 h1 hr
 | _,_,.vptr b i off n k hb hσ h,_=>.vptr b i off n k hb hσ h
 | _,_,.vsub b i n k m c hb hσ h,_=>.vsub b i n k m c hb hσ h
 | _,_,.aptr b o i n hb hσ h0,_=>.aptr b o i n hb hσ h0
 | _,_,.asub b o N i m n k c hb hσ h0 h1 h2 h3,_=>.asub b o N i m n k c hb hσ h0 h1 h2 h3
 | _,_,.nils,_=>.nils
 | _,_,.imm sh l v h,_=>.imm sh l v h
 | _,_,.full sh l p n h,_=>.full sh l p n h
 | _,_,.vec b p nn cc hb h,_=>.vec b p nn cc hb h
 | _,_,.nilf,_=>.nilf
 | _,_,.fn g first caps vf vc h1 h2,h=>by
  simp only[AV.noY,Bool.and_eq_true] at h
  exact .fn g _ _ vf vc (RepL.setY' l h1 h.1) (RepL.setY' l h2 h.2)
 | _,_,.agg cs vs h1,h=>.agg _ vs (RepL.setY' l h1 (by simpa only [AV.noY] using h))
 | _,_,.tuple cs vs h1,h=>.tuple _ vs (RepL.setY' l h1 (by simpa only [AV.noY] using h))
 | _,_,.bagg cs k n r vs h1 hl,h=>.bagg _ k n r vs (RepL.setY' l h1 (by simpa only [AV.noY] using h)) hl
theorem RepL.setY'{X:Ctx}(l:Nat):∀{av:List AV} {v:List Value},RepL X av v→AV.noYL av=true→RepL { X with y:=l } av v
 | _,_,.nil,_=>.nil
 | _,_,.cons h1 t,h=>by
  simp only[AV.noYL,Bool.and_eq_true] at h
  exact .cons (Rep.setY' l h1 h.1) (RepL.setY' l t h.2)
end
theorem Rep.setY{X:Ctx}(l:Nat){av:AV}{v:Value}(h:av.noY=true)(hr:Rep X av v):Rep { X with y:=l } av v:=hr.setY' l h
theorem RepL.setY{X:Ctx}(l:Nat){av:List AV}{v:List Value}(h:AV.noYL av=true)(hr:RepL X av v):RepL { X with y:=l } av v:=hr.setY' l h
theorem HSim.setY{B:Base}{X:Ctx}(h:HSim B X)(l:Nat)(hy:X.h.all Blk.noY=true):HSim B { X with y:=l }:=by
 refine⟨fun b k hb=>?_,h.inj,h.notM,h.ltM,h.M0,h.newM,h.os,h.tape,h.output,h.size,h.frame,h.imps,h.impc,h.fresh,h.kept⟩
 have h1:=h.blk b k hb
 cases k with
 | cells cs=>
  obtain⟨n,c,T,e1,e2,e3⟩:=h1
  have:(Blk.cells cs).noY=true:=List.all_eq_true.1 hy _ (List.mem_of_getElem? hb)
  exact⟨n,c,T,e1,e2,e3.setY l this⟩
 | big cs k N r=>
  obtain⟨n,c,T,vs,e1,e2,e3,e4,e5⟩:=h1
  have:(Blk.big cs k N r).noY=true:=List.all_eq_true.1 hy _ (List.mem_of_getElem? hb)
  exact⟨n,c,T,vs,e1,e2,e3.setY l this,e4,e5⟩
 | vec e sh l=>exact h1
 | frz e sh l=>exact h1
 | dead=>trivial
theorem qlB{gl:List (Nat×AV)}{X:Ctx}(h:q7y gl X)(l:Nat):q7y gl { X with y:=l }:=by
 intro x hx
 obtain⟨⟨sh,r,i,off,he⟩,hr⟩:=h x hx
 refine⟨⟨sh,r,i,off,he⟩,hr.move (fun _ h=>h) (fun _ _=>rfl) (Rep.setY l (by rw[he];rfl) hr.1)⟩
theorem q9U{gl:List (Nat×AV)}{X X':Ctx}(hm:Move0 X X' some)(h:q7y gl X):q7y gl X':=fun x hx=>⟨(h x hx).1,(h x hx).2.move hm.M hm.w ((h x hx).2.1.ext0 hm)⟩
theorem Sim.moveB{E:Env}{B B':Base}{X X':Ctx}{st:St}{a:Act}(hs:Sim E B X st a)(h1:HSim B' X')(h2:Move0 X X' some)(h3:X'.h=X.h)(hfs:B'.fs=B.fs)(hy:B'.y=B.y)(hi:B'.imps=B.imps)
  {ds:List Deferred} (h4:qmb X'.kept (B'.pin st.pend) ds) (h5:∀p,p∈B'.pin st.pend→p∈X'.kept):Sim E B' X' st { a with defers:=ds }:=
 ⟨h1,h3.trans hs.h,hs.t.ext0 h2,hfs▸hs.fs.ext0 h2,q9U h2 hs.glob,h4,hi▸hs.ni,(h2.y.trans hs.y).trans hy.symm,h5⟩
def Ex.out:Ex→Exit
 | .normal=>.normal
 | .exit i=>.exit i
 | .ret=>.ret
def qms(E:Env)(B:Base)(r:Ex×St):Exit→Act→World→Prop:=fun e a w=>e=r.1.out∧∃X',X'.w=w∧Sim E B X' r.2 a
def Ex.code:Ex→Code
 | .normal=>.skip
 | .exit i=>.exit i
 | .ret=>.ret
def q2h(fid:FuncId)(ct:Array Value)(ps:Array Tmp)(a b:Code)(D:Nat)(e:Option Ex):Loop:=
 { state:=if e.isNone then .ready else .done,pending:=e.map Ex.code,fn:=fid,tmps:=ct,params:=ps,assign:=a,body:=b,defers:=D }
def qN:Code→List Code
 | .seq a b=>.seq a b::(qN a++qN b)
 | .cond _ a b=>qN a++qN b
 | .block _ c=>qN c
 | .scope c=>qN c
 | .loop c=>.loop c::qN c
 | .rangeFunc x ps a b=>.rangeFunc x ps a b::(qN a++qN b)
 | _=>[]
def qnd(P:Program)(yc:FuncId×Nat)(B:Base):Prop:=
 ∃(fn:Func) (c:Code) (x:Operand) (ps:Array Tmp) (a b:Code),P.funcs[yc.1]?=some fn∧fn.body=some c∧(qN c)[yc.2]?=some (.rangeFunc x ps a b) ∧
  ∃(ct:Array Value) (rest:List (List Value)) (D fid:Nat) (more:List (Nat×Obj)),B.fs=ct.toList::rest∧(∀e,B.pin e=(B.y,.loop (q2h fid ct ps a b D e))::more)∧(∀p,p∈more→p.1≠B.y)∧B.ro=none
def qQ(P:Program)(it:List (FuncId×FuncId×Nat))(f:FuncId)(B:Base):Prop:=
 (B.ro.isSome=true→2≤B.fs.length)∧match qaj it f with
  | none=>True
  | some yc=>qnd P yc B
structure SimF (E:Env) (B:Base) (X:Ctx) (st:St):Prop where
 hs:HSim B X
 h:X.h=st.h
 fs:RepLL X (st.t::st.fs) B.fs
 glob:q7y E.glob X
 ni:B.imps.length≤E.nimp
 y:X.y=B.y
 pin:∀p,p∈B.pin st.pend→p∈X.kept
def YOK(E:Env)(P:Program)(y:qpp)(B:Base):Prop:=
 ∀(args:List AV) (st:St) (r:AV×St) (X:Ctx) (a:Act) (vargs:List Value),Sim E B X st a→RepL X args vargs→(y args st).run=some r →
  ∃(l:Nat) (f:FuncId) (tmps:Array Value) (assign body:Code),(Instr.yield X.y vargs.toArray).run P X.w=.ok (.round l f tmps assign body) X.w ∧
  ∀n,RoundIn (ux B.ro) n P l f tmps assign body X.w fun e w'=>∃v X',e=.returned v∧X'.w=w'∧Rep X' r.1 v∧Sim E B X' r.2 a
def qbS(E:Env)(P:Program)(rangeH:q79):Prop:=
 ∀(g:FuncId) (y:qpp) (args:List AV) (st:St) (r:AV×St) (B:Base) (X:Ctx) (vargs:List Value),SimF E B X st→qQ P E.iter g B→(∀B',qQ P E.iter g B'→YOK E P y B')→B.ro=none →
  RepL X args vargs→(rangeH g y args st).run=some r →
  (∀w,(callFunc g vargs.toArray).run P w=.ok (.enter g vargs.toArray) w) ∧
  Calls P g vargs.toArray X.w fun e w'=>∃v X',e=.returned v∧X'.w=w'∧Rep X' r.1 v∧SimF E B X' r.2
theorem qik{X:Ctx}:∀(ps:List Tmp) {ct:List AV} {tmps:Array Value} {args:List AV} {vargs:List Value},RepL X ct tmps.toList→RepL X args vargs →
  RepL X (qgp ct ps args) ((ps.zip vargs).foldl (fun (tmps:Array Value) (p:Tmp×Value)=>tmps.setIfInBounds p.1 p.2) tmps).toList
 | [],_,_,args,_,h,_=>by cases args<;>simpa[qgp] using h
 | p::ps,ct,tmps,_,_,h,.nil=>by simpa[qgp] using h
 | p::ps,ct,tmps,_,_,h,.cons h1 h2=>by
  simp only[qgp,List.zip_cons_cons,List.foldl_cons]
  exact qik ps (by rw[Array.toList_setIfInBounds];exact RepL.set h1 h p) h2
theorem qnX{E:Env}{P:Program}{f:FuncId}{k:Nat}{fn:Func}{cb:Code}(hf:P.funcs[f]?=some fn)(hb:fn.body=some cb){x:Operand}{ps:Array Tmp}{a b:Code}(hk:(qN cb)[k]?=some (.rangeFunc x ps a b))
  {evA evB:St→Tree (Ex×St)} (hni:q3c E.iter f=true)
  (hA:∀(B:Base) (X:Ctx) (st:St) (act:Act) (r:Ex×St),qQ P E.iter f B→Sim E B X st act→(evA st).run=some r→∀n,a.wpIn (ux B.ro) n P (qms E B r) act X.w)
  (hB:∀(B:Base) (X:Ctx) (st:St) (act:Act) (r:Ex×St),qQ P E.iter f B→Sim E B X st act→(evB st).run=some r→∀n,b.wpIn (ux B.ro) n P (qms E B r) act X.w)
  {B:Base} (hI:qnd P (f,k) B):YOK E P (qlG evA evB ps.toList) B:=by
 intro args st r X act vargs hs hargs hr
 obtain⟨fn',c',x',ps',a',b',q1,q2,q3,ct,rest,D,fid,more,q4,q5,q6,q7⟩:=hI
 simp only at q1 q3
 rw[hf] at q1;cases q1
 rw[hb] at q2;cases q2
 rw[hk] at q3;cases q3
 unfold qlG at hr
 cases hp:st.pend with
 | some e=>rw[hp] at hr;cases hr
 | none=>
 rw[hp] at hr
 cases hfs:st.fs with
 | nil=>rw[hfs] at hr;cases hr
 | cons ctA fsA=>
 rw[hfs] at hr
 simp only at hr
 cases hlen:Nat.beq args.length ps.toList.length with
 | false=>rw[hlen] at hr;cases hr
 | true=>
 rw[hlen] at hr
 simp only at hr
 have hlen':=Nat.eq_of_beq_eq_true hlen
 obtain⟨rA,h1,h2⟩:=bind_some hr
 obtain⟨xA,sA⟩:=rA
 cases xA with
 | exit i=>cases h2
 | ret=>cases h2
 | normal=>
 simp only at h2
 obtain⟨rB,h3,h4⟩:=bind_some h2
 have hpin:=hs.pin
 have hdf:=hs.df
 rw[hp,q5] at hpin hdf
 have hrec:(B.y,.loop (q2h fid ct ps a b D none))∈X.kept:=hpin _ List.mem_cons_self
 have hheap:=(hs.hs.kept _ hrec).1
 simp only at hheap
 have hfsR:=hs.fs
 rw[hfs,q4] at hfsR
 have hct:RepL X ctA ct.toList:=by cases hfsR with|cons g1 g2=>exact g1
 refine⟨B.y,fid,((ps.zip vargs.toArray).foldl (fun (tmps:Array Value) (p:Tmp×Value)=>tmps.setIfInBounds p.1 p.2) ct),a,b,?_,fun n=>?_⟩
 ·rw[hs.y]
  exact run_yield (r:=q2h fid ct ps a b D none) hheap (by simp only[q2h,List.size_toArray];rw[←hargs.length,hlen',Array.length_toList])
 rw[q7]
 apply roundIn_of_wpIn (F:=ux none) trivial
 let BR:Base:={ B with ro:=some B.y,fs:=act.tmps.toList::B.fs,pin:=fun _=>X.kept }
 have hbR:∀pin,qQ P E.iter f { BR with pin:=pin }:=by
  intro pin
  refine⟨fun _=>?_,?_⟩
  ·show 2≤(act.tmps.toList::B.fs).length
   rw[q4];simp
  ·unfold q3c at hni
   split at hni
   ·cases hni
   ·rename_i hn;rw[hn];trivial
 have hsR:Sim E BR X { t:=qgp ctA ps.toList args,fs:=st.t::ctA::fsA,h:=st.h,pend:=none } { tmps:=((ps.zip vargs.toArray).foldl (fun (tmps:Array Value) (p:Tmp×Value)=>tmps.setIfInBounds p.1 p.2) ct),defers:=[] }:=by
  refine⟨hs.hs.base rfl rfl rfl,hs.h,?_,?_,hs.glob,qmb.nil,hs.ni,hs.y,fun p hp=>hp⟩
  ·have:=qik ps.toList hct hargs
   rw[←Array.foldl_toList,Array.toList_zip]
   exact this
  ·show RepLL X _ (act.tmps.toList::B.fs)
   rw[←hfs]
   exact .cons hs.t hs.fs
 refine wpIn_mono (hA BR X _ _ _ (hbR _) hsR h1 n) fun e a1 w1 ⟨he,X1,hw1,hs1⟩=>?_
 subst he hw1
 have hrec1:(B.y,.loop (q2h fid ct ps a b D none))∈X1.kept:=hs1.pin _ hrec
 obtain⟨g1,g2⟩:=q6b hs1.hs (o':=.loop { q2h fid ct ps a b D none with state:=.busy }) hrec1 (fun _ _ _ h=>by cases h)
 refine⟨_,run_beginRound (r:=q2h fid ct ps a b D none) (hs1.hs.kept _ hrec1).1 rfl,?_⟩
 let pinB:List (Nat×Obj):=q6k B.y (.loop { q2h fid ct ps a b D none with state:=.busy }) X.kept
 obtain⟨Ds1,d1,d2,d3⟩:=hs1.df
 have hsB:Sim E { BR with pin:=fun _=>pinB } { X1 with w:=X1.w.putObj B.y (.loop { q2h fid ct ps a b D none with state:=.busy }),kept:=q6k B.y (.loop { q2h fid ct ps a b D none with state:=.busy }) X1.kept } sA a1:=by
  refine hs1.moveB (B':={ BR with pin:=fun _=>pinB }) (ds:=a1.defers) (g1.base rfl rfl rfl) g2 rfl rfl rfl rfl ⟨Ds1,d1,d2,fun D' hD'=>⟨uh (d3 D' hD').1 (fun e=>(d3 D' hD').2 _ hrec e.symm),fun p hp=>?_⟩⟩ fun p hp=>?_
  ·rcases qbW hp with hp|⟨hp,_⟩
   ·rw[hp];exact fun e=>(d3 D' hD').2 _ hrec e
   ·exact(d3 D' hD').2 _ hp
  ·rcases qbW hp with rfl|⟨hp,hne⟩
   ·exact q9k hrec1
   ·exact uh (hs1.pin _ hp) hne
 refine wpIn_mono (hB _ _ _ _ _ (hbR _) hsB h3 n) fun e2 a2 w2 ⟨he2,X2,hw2,hs2⟩=>?_
 subst he2 hw2
 obtain⟨xB,sB⟩:=rB
 have hrec2:(B.y,.loop { q2h fid ct ps a b D none with state:=.busy })∈X2.kept:=hs2.pin _ (q9k hrec)
 have hlie2:=(hs2.hs.kept _ hrec2).1
 simp only at hlie2
 simp only at h4
 cases hfs2:sB.fs with
 | nil=>rw[hfs2] at h4;cases h4
 | cons itA fs'=>
 rw[hfs2] at h4
 simp only at h4
 have fin:∀(e:Option Ex) (_:r=(.blit e.isNone,{ t:=itA,fs:=fs',h:=sB.h,pend:=e })) (_:e=none∨∃x,e=some x),
   ∃v w',(Instr.endRound B.y (e.map Ex.code)).run P X2.w=.ok v w'∧∃v' X',Ending.returned v=.returned v'∧X'.w=w'∧Rep X' r.1 v'∧Sim E B X' r.2 act:=by
  intro e hre _
  have hend:=run_endRound (P:=P) (r:={ q2h fid ct ps a b D none with state:=.busy }) (e.map Ex.code) hlie2
  have hobj:({ ({ q2h fid ct ps a b D none with state:=.busy }:Loop) with state:=if (e.map Ex.code).isNone then .ready else .done,pending:=e.map Ex.code }:Loop)=q2h fid ct ps a b D e:=by
   cases e<;>rfl
  rw[hobj] at hend
  obtain⟨k1,k2⟩:=q6b hs2.hs (o':=.loop (q2h fid ct ps a b D e)) hrec2 (fun _ _ _ h=>by cases h)
  refine⟨_,_,hend,_,{ X2 with w:=X2.w.putObj B.y (.loop (q2h fid ct ps a b D e)),kept:=q6k B.y (.loop (q2h fid ct ps a b D e)) X2.kept },rfl,rfl,?_,?_⟩
  ·rw[hre]
   have:(e.map Ex.code).isNone=e.isNone:=by cases e<;>rfl
   rw[this];exact .blit _
  ·have hfs3:=hs2.fs
   rw[hfs2] at hfs3
   have hfs4:=hfs3.ext0 k2
   have hold:∀p,p∈X.kept→p.1≠B.y→p∈q6k B.y (.loop (q2h fid ct ps a b D e)) X2.kept:=fun p hp hne=>
    uh (hs2.pin p (uh hp hne)) hne
   rw[hre]
   refine⟨k1.base rfl rfl rfl,hs2.h,?_,?_,q9U k2 hs2.glob,?_,hs.ni,hs2.y,?_⟩
   ·cases hfs4 with|cons z1 z2=>exact z1
   ·cases hfs4 with|cons z1 z2=>exact z2
   ·obtain⟨Ds,m1,m2,m3⟩:=hdf
    refine⟨Ds,m1,m2,fun D' hD'=>⟨hold _ (m3 D' hD').1 (fun e'=>(m3 D' hD').2 _ List.mem_cons_self e'.symm),fun p hp=>?_⟩⟩
    rw[q5] at hp
    rcases List.mem_cons.1 hp with rfl|hp
    ·exact(m3 D' hD').2 (B.y,.loop (q2h fid ct ps a b D none)) List.mem_cons_self
    ·exact(m3 D' hD').2 p (List.mem_cons_of_mem _ hp)
   ·intro p hp
    rw[q5] at hp
    rcases List.mem_cons.1 hp with rfl|hp
    ·exact q9k hrec2
    ·exact hold p (hpin p (List.mem_cons_of_mem _ hp)) (q6 p hp)
 cases xB with
 | normal=>
  simp only[Tree.run,Option.some.injEq] at h4
  exact fin none h4.symm (.inl rfl)
 | ret=>
  simp only[Tree.run,Option.some.injEq] at h4
  exact fin (some .ret) h4.symm (.inr ⟨_,rfl⟩)
 | exit i=>
  simp only[Tree.run,Option.some.injEq] at h4
  exact fin (some (.exit i)) h4.symm (.inr ⟨_,rfl⟩)
theorem qkt{E:Env}{P:Program}{B:Base}{fn:Func}{st:St}{R:Ending→World→Prop}{n:Nat}:∀(Ds:List Nat) {X:Ctx} {a:Act},Sim E B X st a→a.defers=Ds.map qbg →
  (∀X',Sim E B X' st { a with defers:=[] }→∃v,(results fn a.tmps).run P X'.w=.ok v X'.w∧R (.returned v) X'.w)→LeavesInM (ux none) n P fn a.tmps R (Ds.map qbg) .returning X.w
 | [],X,a,hs,hd,h=>by
  have:({ a with defers:=[] }:Act)=a:=by obtain⟨t,d⟩:=a;simp only[List.map_nil] at hd;rw[hd]
  rw[this] at h
  exact h X hs
 | D::Ds,X,a,hs,hd,h=>by
  obtain⟨Ds',d1,d2,d3⟩:=hs.df
  have hDs:Ds'=D::Ds:=by
   rw[hd] at d1
   have inj:∀(l m:List Nat),l.map qbg=m.map qbg→m=l:=by
    intro l
    induction l with
    | nil=>intro m hm;cases m with
     | nil=>rfl
     | cons _ _=>cases hm
    | cons x l ih=>intro m hm;cases m with
     | nil=>cases hm
     | cons y m=>
      simp only[List.map_cons,List.cons.injEq,qbg,Deferred.mk.injEq,Target.collected.injEq,and_true] at hm
      rw[ih m hm.2,hm.1]
   exact inj _ _ d1
  subst hDs
  obtain⟨m1,m2⟩:=d3 D List.mem_cons_self
  have hlie:=(hs.hs.kept _ m1).1
  simp only at hlie
  obtain⟨g1,g2⟩:=q6b hs.hs (o':=.deferred none) m1 (fun _ _ _ h=>by cases h)
  have hnd:=List.nodup_cons.1 d2
  have hs':=hs.moveB (B':=B) (ds:=Ds.map qbg) g1 g2 rfl rfl rfl rfl ⟨Ds,rfl,hnd.2,fun D' hD'=>⟨uh (d3 D' (List.mem_cons_of_mem _ hD')).1 (fun e=>hnd.1 (e▸hD')),(d3 D' (List.mem_cons_of_mem _ hD')).2⟩⟩
   (fun p hp=>uh (hs.pin p hp) (m2 p hp))
  refine⟨by simp,.inl ⟨D,_,rfl,run_takeDeferred hlie,?_⟩⟩
  exact qkt Ds (a:={ a with defers:=Ds.map qbg }) hs' rfl h
end Go.Eng

