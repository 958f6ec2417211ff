/- Texts of the proof, merged: what the code computes, and plain laws. No statement stands here. -/
import Derived.Orders
import Derived.RangeFuncRecord
import Derived.KernelRfl
import Derived.Test.YtehgceikghodkaaGreatDoorM1
namespace Go.Eng
structure Entry (B:Base) (X:Ctx):Prop where
 w0:B.w0=X.w
 imps:B.imps=(List.range X.h.length).map X.σ
 M0:∀n,X.M n→B.M0 n
def qhW(P:Program)(f:FuncId):Prop:=∀(args:Array Value) (w:World),(callFunc f args).run P w=.ok (.enter f args) w
def zh(P:Program)(gl:List (Nat×AV))(f:FuncId)(G:q0c):Prop:=
 qhW P f∧∀(B:Base) (X:Ctx) (args:List AV) (vargs:List Value) (r:AV×List Blk),HSim B X→Entry B X→qaA gl X→RepL X args vargs→(G args X.h).run=some r →
  Calls P f vargs.toArray X.w fun e w'=>∃v X',e=.returned v∧X'.w=w'∧Rep X' r.1 v∧X'.h=r.2∧HSim B X'∧X'.y=X.y
mutual
theorem qsO{B:Base}{X:Ctx}(hs:HSim B X):∀{av:AV} {v:Value},Rep X av v→Rep X (av.lend X.h) v
 | .vec b,v,h=>by
  unfold AV.lend
  split
  ·rename_i e sh l hb;exact .imm _ _ _ (qew hs hb h)
  ·exact .undef v
 | .agg cs,_,.agg _ vs h=>.agg _ vs (qbh hs h)
 | .tuple cs,_,.tuple _ vs h=>.tuple _ vs (qbh hs h)
 | .undef,_,h|.skip,_,h|.yld,_,h|.blit _,_,h|.bool _,_,h|.ilit _ _,_,h|.int _ _,_,h|.str _,_,h|.nilp,_,h|.ptr _ _,_,h|.eptr _ _ _ _,_,h|.mptr _ _ _ _ _,_,h|.vptr _ _ _,_,h|.vsub _ _,_,h|.aptr _ _ _,_,h|.asub _ _ _ _ _,_,h|.bagg _ _ _ _,_,h
 | .nils,_,h|.imm _ _,_,h|.full _ _,_,h|.nilf,_,h|.fn _ _ _,_,h=>h
theorem qbh{B:Base}{X:Ctx}(hs:HSim B X):∀{azz:List AV} {vs:List Value},RepL X azz vs→RepL X (AV.lendL X.h azz) vs
 | _,_,.nil=>.nil
 | _,_,.cons h t=>.cons (qsO hs h) (qbh hs t)
end
def Wk(X:Ctx)(k k':Blk):Prop:=k'=.dead∨k'=k∨(∃cs cs',k=.cells cs∧k'=.cells cs'∧∀vs,RepL X cs vs→RepL X cs' vs)∨∃cs cs' kk n l,k=.big cs kk n l∧k'=.big cs' kk n l∧∀vs,RepL X cs vs→RepL X cs' vs
theorem qb1{B:Base}{X:Ctx}(hs:HSim B X){h':List Blk}(hl:h'.length=X.h.length)(hw:∀(b:Nat) (k':Blk),h'[b]?=some k'→∃k0,X.h[b]?=some k0∧Wk X k0 k')
  (hc:∀b:Nat,b<B.imps.length→∀k':Blk,h'[b]?=some k'→k'.solid=true):HSim B { X with h:=h' }∧Ext X { X with h:=h' }:=by
 have hvec:∀b sh m,({ X with h:=h' }:Ctx).isVec b sh m→X.isVec b sh m:=by
  intro b sh m ⟨e,l,h1,h2⟩
  refine⟨e,l,?_,h2⟩
  rcases h1 with h1|h1
  ·obtain⟨k0,h3,h4⟩:=hw b _ h1
   rcases h4 with h4|h4|⟨_,_,_,h4,_⟩|⟨_,_,_,_,_,_,h4,_⟩
   ·cases h4
   ·exact .inl (h4▸h3)
   ·cases h4
   ·cases h4
  ·obtain⟨k0,h3,h4⟩:=hw b _ h1
   rcases h4 with h4|h4|⟨_,_,_,h4,_⟩|⟨_,_,_,_,_,_,h4,_⟩
   ·cases h4
   ·exact .inr (h4▸h3)
   ·cases h4
   ·cases h4
 have hx:Ext X { X with h:=h' }:=by
  refine Move.of (fun _ h=>h) (fun _ _=>rfl) (fun b b' hb hf=>?_)
  cases hf
  exact⟨by show b<h'.length;omega,rfl,hvec b,fun sh m _ k hk c T fr hc=>⟨c,T,fr,hc,rfl⟩⟩
 have hown:∀b m,({ X with h:=h' }:Ctx).own b m→X.own b m:=by
  intro b m ⟨h1,k,h2,h3⟩
  obtain⟨k0,h4,h5⟩:=hw b k h2
  refine⟨h1,k0,h4,?_⟩
  rcases h5 with h5|h5|⟨_,_,h5,_,_⟩|⟨_,_,_,_,_,h5,_,_⟩
  ·subst h5;cases h3
  ·exact h5▸h3
  ·subst h5;rfl
  ·subst h5;rfl
 refine⟨⟨?_,fun b b' m h h'=>hs.inj b b' m (hown _ _ h) (hown _ _ h'),fun b m h=>hs.notM b m (hown _ _ h),hs.ltM,hs.M0,hs.newM,hs.os,hs.tape,hs.output,hs.size,hs.frame,hs.imps,?_,fun b m h=>hs.fresh b m (hown _ _ h),hs.kept⟩,hx⟩
 ·intro b k hk
  obtain⟨k0,h1,h2⟩:=hw b k hk
  have h3:=hs.blk b k0 h1
  rcases h2 with h2|h2|⟨cs,cs',h2,h4,h5⟩|⟨cs,cs',kk,N,l,h2,h4,h5⟩
  ·subst h2;trivial
  ·subst h2;exact yl.ext hx rfl (fun _ _=>rfl) h3
  ·subst h2 h4
   obtain⟨m,c,T,e1,e2,e3⟩:=h3
   exact⟨m,c,T,e1,e2,(h5 _ e3).ext hx⟩
  ·subst h2 h4
   obtain⟨m,c,T,vs,e1,e2,e3,e4,e5⟩:=h3
   exact⟨m,c,T,vs,e1,e2,(h5 _ e3).ext hx,e4,e5⟩
 ·intro b hb
  have hlt:b<h'.length:=by have:=hs.hlen;omega
  exact⟨_,List.getElem?_eq_getElem hlt,hc b hb _ (List.getElem?_eq_getElem hlt)⟩
theorem Frozen.trans{B:Base}{X Y Z:Ctx}{h h':List Blk}(f:Frozen B X Y h)(g:Frozen B Y Z h'):Frozen B X Z h':=
 ⟨g.h,g.w.trans f.w,g.σ.trans f.σ,g.hs,Move.trans f.ext g.ext⟩
theorem qgj{B:Base}:∀(l:List Nat) {X:Ctx} (_:HSim B X),∃X',Frozen B X X' (qfq X.h l)
 | [],X,hs=>⟨X,rfl,rfl,rfl,hs,Ext.refl X⟩
 | b::l,X,hs=>by
  simp only[qfq]
  split
  ·rename_i cs hb
   obtain⟨d1,d2⟩:=qb1 hs (h':=X.h.set b (.cells (AV.lendL X.h cs))) (by simp) (fun b' k' hk=>by
    by_cases hbb:b'=b
    ·subst hbb
     rw[List.getElem?_set_self (qw hb)] at hk
     exact⟨.cells cs,hb,.inr (.inr (.inl ⟨cs,_,rfl,(Option.some.inj hk).symm,fun vs hv=>qbh hs hv⟩))⟩
    ·rw[List.getElem?_set_ne (Ne.symm hbb)] at hk
     exact⟨k',hk,.inr (.inl rfl)⟩) (fun b' hb' k' hk=>by
    by_cases hbb:b'=b
    ·subst hbb
     rw[List.getElem?_set_self (qw hb)] at hk
     rw[←Option.some.inj hk];rfl
    ·rw[List.getElem?_set_ne (Ne.symm hbb)] at hk
     obtain⟨cs',h1,h2⟩:=hs.impc b' hb'
     rw[h1] at hk
     rw[←Option.some.inj hk];exact h2)
   obtain⟨X2,f⟩:=qgj l d1
   have f0:Frozen B X { X with h:=X.h.set b (.cells (AV.lendL X.h cs)) } (X.h.set b (.cells (AV.lendL X.h cs))):=⟨rfl,rfl,rfl,d1,d2⟩
   exact⟨X2,f0.trans f⟩
  ·exact qgj l hs
theorem qoj{B:Base}(args:List AV){X:Ctx}(hs:HSim B X):∃X',Frozen B X X' (q4q X.h args):=by
 unfold q4q
 obtain⟨X1,f1⟩:=q5Z (args.flatMap jx) hs
 simp only
 rw[←f1.h]
 obtain⟨X2,f2⟩:=q5Z (q9B X1.h (AV.menL (AV.lendL X1.h args))) f1.hs
 rw[←f2.h]
 obtain⟨X3,f3⟩:=qgj (AV.menL (AV.lendL X1.h args)) f2.hs
 exact⟨X3,(f1.trans f2).trans f3⟩
mutual
theorem AV.ren_of_men(f:Nat→Option Nat):∀av:AV,av.men=[]→av.ren f=av
 | .undef,_|.skip,_|.yld,_|.blit _,_|.bool _,_|.ilit _ _,_|.int _ _,_|.str _,_|.nilp,_|.eptr _ _ _ _,_|.mptr _ _ _ _ _,_|.nils,_|.imm _ _,_|.full _ _,_|.nilf,_=>rfl
 | .ptr _ _,h=>by simp[AV.men] at h
 | .vptr _ _ _,h=>by simp[AV.men] at h
 | .vsub _ _,h=>by simp[AV.men] at h
 | .aptr _ _ _,h=>by simp[AV.men] at h
 | .asub _ _ _ _ _,h=>by simp[AV.men] at h
 | .bagg cs k n l,h=>by simp only[AV.men] at h;simp only[AV.ren,AV.renL_of_men f cs h]
 | .vec _,h=>by simp[AV.men] at h
 | .fn g a b,h=>by
  simp only[AV.men,List.append_eq_nil_iff] at h
  simp only[AV.ren,AV.renL_of_men f a h.1,AV.renL_of_men f b h.2]
 | .agg cs,h=>by simp only[AV.men] at h;simp only[AV.ren,AV.renL_of_men f cs h]
 | .tuple cs,h=>by simp only[AV.men] at h;simp only[AV.ren,AV.renL_of_men f cs h]
theorem AV.renL_of_men(f:Nat→Option Nat):∀l:List AV,AV.menL l=[]→AV.renL f l=l
 | [],_=>rfl
 | a::l,h=>by
  simp only[AV.menL,List.append_eq_nil_iff] at h
  simp only[AV.renL,AV.ren_of_men f a h.1,AV.renL_of_men f l h.2]
end
theorem RepL.noMen{X X':Ctx}{azz:List AV}{vs:List Value}(h:RepL X azz vs)(hm:AV.menL azz=[])(hM:∀n,X.M n→X'.M n)(hw:∀a:Addr,X.M a.block→X'.w.cell? a=X.w.cell? a)(hy:X'.y=X.y:=by rfl):RepL X' azz vs:=by
 have:=h.ren (X':=X') (f:=fun _=>none) ⟨hM,hw,(fun _ _ _ h=>by cases h),hy⟩
 rwa [AV.renL_of_men _ _ hm] at this
theorem Rep.noMen{X X':Ctx}{a:AV}{v:Value}(h:Rep X a v)(hm:a.men=[])(hM:∀n,X.M n→X'.M n)(hw:∀a:Addr,X.M a.block→X'.w.cell? a=X.w.cell? a)(hy:X'.y=X.y:=by rfl):Rep X' a v:=by
 have:=h.ren (X':=X') (f:=fun _=>none) ⟨hM,hw,(fun _ _ _ h=>by cases h),hy⟩
 rwa [AV.ren_of_men _ _ hm] at this
theorem qgn:∀l:List Nat,(qhm l).Nodup
 | []=>List.nodup_nil
 | a::l=>by
  simp only[qhm]
  split
  ·exact qgn l
  ·rename_i h
   exact List.nodup_cons.2 ⟨by simpa using h,qgn l⟩
theorem qtD{l:List Nat}{b k:Nat}(h:qun l b=some k):l[k]?=some b:=by
 simp only[qun] at h
 split at h
 ·rename_i hlt
  cases h
  rw[List.getElem?_eq_getElem hlt]
  have:=List.findIdx_getElem (p:=(·==b)) (w:=hlt)
  simpa using this
 ·cases h
theorem qht:∀{fp:List Nat} {h:List Blk} {hin:List Blk},q4b h fp=some hin→hin.length=fp.length ∧
  ∀(k:Nat) (b:Nat),fp[k]?=some b→∃cs,h[b]?=some cs∧hin[k]?=some cs∧cs.plain=true
 | [],h,hin,e=>by simp[q4b] at e;subst e;exact⟨rfl,fun k b hk=>by simp at hk⟩
 | b::l,h,hin,e=>by
  simp only[q4b] at e
  split at e
  ·rename_i cs r h1 h2
   split at e
   ·rename_i hm
    cases e
    obtain⟨g1,g2⟩:=qht h2
    refine⟨by simp[g1],fun k b' hk=>?_⟩
    cases k with
    | zero=>simp at hk;subst hk;exact⟨cs,h1,by simp,hm⟩
    | succ k=>
     obtain⟨cs',q1,q2,q3⟩:=g2 k b' (by simpa using hk)
     exact⟨cs',q1,by simpa using q2,q3⟩
   ·cases e
  ·cases e
theorem qjE:∀{fp:List Nat} {h hout h2:List Blk},jE h fp hout=some h2→fp.Nodup→(∀b∈fp,b<h.length)→h2.length=h.length∧fp.length≤hout.length ∧
  (∀b,b∉fp→h2[b]?=h[b]?)∧∀(k:Nat) (b:Nat),fp[k]?=some b→∃cs,hout[k]?=some cs∧h2[b]?=some cs∧cs.plain=true
 | [],h,hout,h2,e,_,_=>by
  simp[jE] at e;subst e
  exact⟨rfl,by simp,fun _ _=>rfl,fun k b hk=>by simp at hk⟩
 | b::l,h,hout,h2,e,hn,hl=>by
  cases hout with
  | nil=>simp[jE] at e
  | cons cs r=>
    simp only[jE] at e
    by_cases hm:cs.plain=true
    ·rw[if_pos hm] at e
     cases hp:jE h l r with
     | none=>rw[hp] at e;cases e
     | some h'=>
      rw[hp] at e
      simp only[Option.map_some,Option.some.injEq] at e
      subst e
      obtain⟨hn1,hn2⟩:=List.nodup_cons.1 hn
      obtain⟨g1,g2,g3,g4⟩:=qjE hp hn2 (fun x hx=>hl x (List.mem_cons_of_mem _ hx))
      have hb:=hl b List.mem_cons_self
      refine⟨by simp[g1],by simp;omega,fun x hx=>?_,fun k b' hk=>?_⟩
      ·have:x≠b:=fun e=>hx (e▸List.mem_cons_self)
       rw[List.getElem?_set_ne (Ne.symm this)]
       exact g3 x fun h=>hx (List.mem_cons_of_mem _ h)
      ·cases k with
       | zero=>simp at hk;subst hk;exact⟨cs,by simp,by rw[List.getElem?_set_self (by omega)],hm⟩
       | succ k=>
        have hk':l[k]?=some b':=by simpa using hk
        obtain⟨cs',q1,q2,q3⟩:=g4 k b' hk'
        have:b'≠b:=fun e=>hn1 (e▸List.mem_of_getElem? hk')
        exact⟨cs',by simpa using q1,by rw[List.getElem?_set_ne (Ne.symm this)];exact q2,q3⟩
    ·rw[if_neg hm] at e;cases e
theorem qu5{X:Ctx}{b:Nat}{k:Blk}(hp:k.plain=true)(h:yl X b k):∃n,X.σ b=some n:=by
 cases k with
 | cells cs=>obtain⟨n,_,_,e,_⟩:=h;exact⟨n,e⟩
 | big cs k N l=>obtain⟨n,_,_,_,e,_⟩:=h;exact⟨n,e⟩
 | _=>cases hp
theorem qnn{X X':Ctx}{b b':Nat}{k:Blk}(hp:k.plain=true)(h:yl X b k)(hσ:X'.σ b'=X.σ b)(hw:∀n,X.σ b=some n→X'.w.heap[n]?=X.w.heap[n]?)
  (hM:∀n,X.M n→X'.M n) (hc:∀a:Addr,X.M a.block→X'.w.cell? a=X.w.cell? a) (hy:X'.y=X.y):yl X' b' k:=by
 cases k with
 | cells cs=>
  obtain⟨n,c,T,e1,e2,e3⟩:=h
  exact⟨n,c,T,by rw[hσ];exact e1,by rw[hw n e1];exact e2,e3.noMen (by simpa[Blk.plain] using hp) hM hc hy⟩
 | big cs k N l=>
  obtain⟨n,c,T,vs,e1,e2,e3,e4,e5⟩:=h
  exact⟨n,c,T,vs,by rw[hσ];exact e1,by rw[hw n e1];exact e2,e3.noMen (by simpa[Blk.plain] using hp) hM hc hy,e4,e5⟩
 | _=>cases hp
theorem qfY{k:Blk}(hp:k.plain=true):k.solid=true∧k.mut=true∧(∀e sh l,k≠.vec e sh l∧k≠.frz e sh l):=by
 cases k<;>first|(cases hp;done)|exact⟨rfl,rfl,fun _ _ _=>⟨(nomatch ·),(nomatch ·)⟩⟩
theorem qa4{E:Env}{P:Program}{f:FuncId}{G:q0c}(hG:zh P E.glob f G){args:List AV}{st:St}{r:AV×St}{B:Base}{X:Ctx}{a:Act}{vargs:List Value}
  (hsim:Sim E B X st a) (hargs:RepL X args vargs) (h:(q1L G args st).run=some r) :
  Calls P f vargs.toArray X.w fun e w'=>∃v X',e=.returned v∧X'.w=w'∧Rep X' r.1 v∧Sim E B X' r.2 a:=by
 unfold q1L at h
 obtain⟨X1,fz⟩:=qoj args hsim.hs
 rw[←hsim.h] at h
 rw[←fz.h] at h
 simp only at h
 have hs1:=fz.hs
 generalize hfp:qhm (AV.menL (AV.lendL X1.h args))=fp at h
 have hnd:fp.Nodup:=hfp▸qgn _
 cases htk:q4b X1.h fp with
 | none=>rw[htk] at h;cases h
 | some hin=>
  rw[htk] at h
  obtain⟨r0,h1,h2⟩:=bind_some h
  cases hput:jE X1.h fp r0.2 with
  | none=>rw[hput] at h2;cases h2
  | some hh2=>
   rw[hput] at h2;cases h2
   obtain⟨k1,k2⟩:=qht htk
   have hfpl:∀b∈fp,b<X1.h.length:=by
    intro b hb
    obtain⟨k,hk⟩:=List.getElem?_of_mem hb
    obtain⟨cs,q1,_⟩:=k2 k b hk
    exact qw q1
   obtain⟨p1,p2,p3,p4⟩:=qjE hput hnd hfpl
   have hcell:∀(k b:Nat),fp[k]?=some b→∃cs n,X1.h[b]?=some cs∧hin[k]?=some cs∧cs.plain=true∧X1.σ b=some n∧X1.own b n:=by
    intro k b hk
    obtain⟨cs,q1,q2,q3⟩:=k2 k b hk
    obtain⟨n,e1⟩:=qu5 q3 (hs1.blk b _ q1)
    exact⟨cs,n,q1,q2,q3,e1,e1,_,q1,(qfY q3).2.1⟩
   let X0:Ctx:={ σ:=fun k=>(fp[k]?).bind X1.σ,h:=hin,w:=X1.w,M:=X1.M,y:=X1.y }
   let B0:Base:={ w0:=X1.w,imps:=(List.range hin.length).map X0.σ,M0:=X1.M,fs:=[] }
   have hget0:∀(k:Nat) (blk:Blk),X0.h[k]?=some blk→∃(b:Nat) (cs:Blk) (n:Nat),fp[k]?=some b∧blk=cs∧X1.h[b]?=some cs∧cs.plain=true∧X1.σ b=some n∧X1.own b n:=by
    intro k blk hk
    have hlt:k<fp.length:=by rw[←k1];exact qw hk
    have hfk:fp[k]?=some fp[k]:=List.getElem?_eq_getElem hlt
    obtain⟨cs,n,q1,q2,q3,q4,q5⟩:=hcell k _ hfk
    have:blk=cs:=by
     have hk':hin[k]?=some blk:=hk
     rw[q2] at hk';exact(Option.some.inj hk').symm
    exact⟨fp[k],cs,n,hfk,this,q1,q3,q4,q5⟩
   have hσ0:∀(k b:Nat),fp[k]?=some b→X0.σ k=X1.σ b:=by intro k b hk;show (fp[k]?).bind X1.σ=_;rw[hk];rfl
   have hown0:∀(k n:Nat),X0.own k n→∃b:Nat,fp[k]?=some b∧X1.own b n:=by
    intro k n ⟨e1,blk,e2,e3⟩
    obtain⟨b,cs,n',q1,q2,q3,q4,q5,q6⟩:=hget0 k blk e2
    rw[hσ0 k b q1,q5] at e1;cases e1
    exact⟨b,q1,q6⟩
   have hs0:HSim B0 X0:=by
    constructor
    ·intro k blk hk
     obtain⟨b,cs,n,q1,q2,q3,q4,q5,q6⟩:=hget0 k blk hk
     subst q2
     exact qnn q4 (hs1.blk b _ q3) (hσ0 k b q1) (fun _ _=>rfl) (fun _ h=>h) (fun _ _=>rfl) rfl
    ·intro k k' n hk hk'
     obtain⟨b,q1,q2⟩:=hown0 k n hk
     obtain⟨b',q3,q4⟩:=hown0 k' n hk'
     have:=hs1.inj b b' n q2 q4
     subst this
     have hlt:=qw q1
     exact(List.getElem?_inj hlt hnd).1 (q1.trans q3.symm)
    ·intro k n hk
     obtain⟨b,_,q2⟩:=hown0 k n hk
     exact hs1.notM b n q2
    ·exact hs1.ltM
    ·exact fun n hn=>hn
    ·exact fun n hn=>.inl hn
    ·rfl
    ·rfl
    ·rfl
    ·exact Nat.le_refl _
    ·intro _ _ _;rfl
    ·intro k hk
     have hk':k<hin.length:=by simpa[B0] using hk
     simp[B0,hk']
    ·intro k hk
     have hk':k<hin.length:=by simpa[B0] using hk
     obtain⟨b,cs,n,q1,q2,q3,q4,q5,q6⟩:=hget0 k _ (List.getElem?_eq_getElem hk')
     exact⟨cs,by rw[←q2];exact List.getElem?_eq_getElem hk',(qfY q4).1⟩
    ·intro k n hk hk2
     obtain⟨b,q1,_⟩:=hown0 k n hk
     have:k<hin.length:=by rw[k1];exact qw q1
     simp[B0] at hk2;omega
    ·intro p hp;cases hp
   have hent:Entry B0 X0:=⟨rfl,rfl,fun _ h=>h⟩
   have hgl:qaA E.glob X0:=by
    intro x hx
    obtain⟨⟨sh,l,i,off,he⟩,hr⟩:=hsim.glob x hx
    refine⟨⟨sh,l,i,off,he⟩,hr.move fz.ext.M fz.ext.w ?_⟩
    have h3:=hr.1.ext fz.ext
    rw[he] at h3 ⊢
    exact h3.noMen rfl (fun _ h=>h) (fun _ _=>rfl)
   have hmove:Move0 X1 X0 (qun fp):=by
    refine⟨fun _ h=>h,fun _ _=>rfl,fun b k hb hk=>?_,rfl⟩
    have hfk:=qtD hk
    have hnv:∀sh m,¬X0.isVec k sh m:=by
     intro sh m ⟨e,l,q1,_⟩
     rcases q1 with q1|q1<;>obtain⟨_,_,_,_,q2,_,q4,_⟩:=hget0 k _ q1<;>subst q2<;>cases q4
    exact⟨by show k<hin.length;rw[k1];exact qw hfk,hσ0 k b hfk,fun sh m hv=>absurd hv (hnv sh m),fun sh m hv=>absurd hv (hnv sh m)⟩
   have hrep0:RepL X0 (AV.renL (qun fp) (AV.lendL X1.h args)) vargs:=(qbh hs1 (hargs.ext fz.ext)).ren hmove
   have hcalls:=hG.2 B0 X0 _ vargs r0 hs0 hent hgl hrep0 h1
   have hw1:X0.w=X.w:=fz.w
   rw[hw1] at hcalls
   refine hcalls.mono fun e w' ⟨v,X0',e1,e2,e3,e4,e5,e6⟩=>?_
   have hB0:B0.imps.length=fp.length:=by simp[B0,k1]
   have hσ0':∀(k b:Nat),fp[k]?=some b→X0'.σ k=X1.σ b:=by
    intro k b hk
    have hlt:=qw hk
    have:=e5.imps k (by rw[hB0];exact hlt)
    rw[this,←hσ0 k b hk]
    have hk':k<hin.length:=by omega
    simp[B0,hk']
   let X':Ctx:={ σ:=fun b=>if b<X1.h.length then X1.σ b else X0'.σ (fp.length+(b-X1.h.length)),h:=hh2++(r0.2.drop fp.length).map (Blk.ren (qkT fp X1.h.length)),w:=X0'.w,M:=X0'.M,kept:=X1.kept,y:=X1.y }
   have hM01:∀n,X1.M n→X0'.M n:=fun n hn=>e5.M0 n hn
   have himp:∀n,some n∈B0.imps→∃(k b:Nat),fp[k]?=some b∧X1.own b n:=by
    intro n hn
    obtain⟨k,hk,hk2⟩:=List.mem_map.1 hn
    have hk':k<fp.length:=by rw[←k1];simpa using hk
    have hfk:fp[k]?=some fp[k]:=List.getElem?_eq_getElem hk'
    obtain⟨cs,n',q1,q2,q3,q4,q5⟩:=hcell k _ hfk
    rw[hσ0 k _ hfk,q4] at hk2;cases hk2
    exact⟨k,_,hfk,q5⟩
   have hkeep:∀n,n<X1.w.heap.size→(∀(k b:Nat),fp[k]?=some b→¬X1.own b n)→X0'.w.heap[n]?=X1.w.heap[n]?:=by
    intro n hn hno
    refine e5.frame n hn fun hm=>?_
    obtain⟨k,b,q1,q2⟩:=himp n hm
    exact hno k b q1 q2
   have hh2l:hh2.length=X1.h.length:=p1
   have hget':∀(b:Nat) (blk:Blk),X'.h[b]?=some blk →
     (b<X1.h.length∧b∉fp∧X1.h[b]?=some blk)∨(b<X1.h.length∧∃(k:Nat) (cs:Blk),fp[k]?=some b∧blk=cs∧X0'.h[k]?=some cs∧cs.plain=true) ∨
     (X1.h.length≤b∧∃k0,X0'.h[fp.length+(b-X1.h.length)]?=some k0∧blk=k0.ren (qkT fp X1.h.length)):=by
    intro b blk hb
    have hb':(hh2++(r0.2.drop fp.length).map (Blk.ren (qkT fp X1.h.length)))[b]?=some blk:=hb
    rcases Nat.lt_or_ge b X1.h.length with hlt|hge
    ·rw[List.getElem?_append_left (by omega)] at hb'
     by_cases hbf:b∈fp
     ·obtain⟨k,hk⟩:=List.getElem?_of_mem hbf
      obtain⟨cs,q1,q2,q3⟩:=p4 k b hk
      rw[q2] at hb';cases hb'
      exact .inr (.inl ⟨hlt,k,blk,hk,rfl,by rw[e4];exact q1,q3⟩)
     ·rw[p3 b hbf] at hb'
      exact .inl ⟨hlt,hbf,hb'⟩
    ·rw[List.getElem?_append_right (by omega),List.getElem?_map,List.getElem?_drop] at hb'
     refine .inr (.inr ⟨hge,?_⟩)
     rw[hh2l] at hb'
     cases hq:r0.2[fp.length+(b-X1.h.length)]? with
     | none=>rw[hq] at hb';cases hb'
     | some k0=>
      rw[hq] at hb'
      simp only[Option.map_some,Option.some.injEq] at hb'
      exact⟨k0,by rw[e4];exact hq,hb'.symm⟩
   have hσlt:∀b,b<X1.h.length→X'.σ b=X1.σ b:=fun b hb=>by show (if b<X1.h.length then _ else _)=_;rw[if_pos hb]
   have hσge:∀b,X1.h.length≤b→X'.σ b=X0'.σ (fp.length+(b-X1.h.length)):=fun b hb=>by show (if b<X1.h.length then _ else _)=_;rw[if_neg (by omega)]
   have hnotin:∀b n,b∉fp→X1.own b n→∀(k b':Nat),fp[k]?=some b'→¬X1.own b' n:=by
    intro b n hb ho k b' hk ho'
    exact hb (hs1.inj b b' n ho ho'▸List.mem_of_getElem? hk)
   have hMnot:∀n,X1.M n→∀(k b':Nat),fp[k]?=some b'→¬X1.own b' n:=fun n hn k b' _ ho=>hs1.notM b' n ho hn
   have hsz:=e5.size
   have hback:Move0 X0' X' (qkT fp X1.h.length):=by
    refine⟨fun _ h=>h,fun _ _=>rfl,fun k b hk hf=>?_,e6.symm⟩
    simp only[qkT] at hf
    by_cases hlt:k<fp.length
    ·rw[if_pos hlt] at hf
     have hbl:=hfpl b (List.mem_of_getElem? hf)
     have hnv:∀sh m,¬X'.isVec b sh m:=by
      intro sh m ⟨e,l,q1,_⟩
      rcases q1 with q1|q1<;>rcases hget' b _ q1 with⟨_,h3,_⟩|⟨_,_,_,_,h3,_,h3p⟩|⟨h3,_⟩ <;>
       first|omega|exact absurd (List.mem_of_getElem? hf) h3|(subst h3;cases h3p)
     exact⟨by show b<List.length (_++_);simp;omega,by rw[hσlt b hbl,hσ0' k b hf],fun sh m hv=>absurd hv (hnv sh m),fun sh m hv=>absurd hv (hnv sh m)⟩
    ·rw[if_neg hlt] at hf;cases hf
     have hk2:k<r0.2.length:=by rw[←e4];exact hk
     have hidx:fp.length+(X1.h.length+(k-fp.length)-X1.h.length)=k:=by omega
     refine⟨?_,?_,fun sh m ⟨e,l,q1,q2⟩=>?_,fun sh m _ n hn c T fr hc=>⟨c,T,fr,hc,rfl⟩⟩
     ·show _<List.length (_++_);simp;omega
     ·rw[hσge _ (by omega),hidx]
     ·rcases q1 with q1|q1<;>rcases hget' _ _ q1 with⟨h3,_⟩|⟨h3,_⟩|⟨_,k0,h3,h4⟩<;>first|omega|skip
      ·rw[hidx] at h3
       rcases qij (.inl h4) with rfl|rfl
       ·exact⟨e,l,.inl h3,q2⟩
       ·exact⟨e,l,.inr h3,q2⟩
      ·rw[hidx] at h3
       rcases qij (.inr h4) with rfl|rfl
       ·exact⟨e,l,.inl h3,q2⟩
       ·exact⟨e,l,.inr h3,q2⟩
   have hext:Ext X1 X':=by
    refine Move.of hM01 (fun ad had=>World.cell?_of_block (hkeep _ (hs1.ltM _ had) (hMnot _ had))) (fun b b' hb hf=>?_)
    cases hf
    have hvec:∀sh m,X'.isVec b sh m→b∉fp∧X1.isVec b sh m:=by
     intro sh m ⟨e,l,q1,q2⟩
     rcases q1 with q1|q1<;>rcases hget' b _ q1 with⟨_,h3,h4⟩|⟨_,_,_,_,h3,_,h3p⟩|⟨h3,_⟩<;>first|omega|(subst h3;cases h3p;done)|skip
     ·exact⟨h3,e,l,.inl h4,q2⟩
     ·exact⟨h3,e,l,.inr h4,q2⟩
    refine⟨by show _<List.length (_++_);simp;omega,hσlt b hb,fun sh m hv=>(hvec sh m hv).2,fun sh m hv n hn c T fr hc=>⟨c,T,fr,?_,rfl⟩⟩
    obtain⟨h3,e,l,h4,_⟩:=hvec sh m hv
    refine(hkeep n (Array.getElem?_eq_some_iff.1 hc).1 ?_).trans hc
    rcases h4 with h4|h4
    ·exact hnotin b n h3 ⟨hn,_,h4,rfl⟩
    ·rcases hs1.blk b _ h4 with⟨h5,_⟩|⟨n',c',h5,_,_,h6⟩
     ·rw[hn] at h5;cases h5
     ·rw[hn] at h5;cases h5;exact hMnot n h6
   have hown':∀(b n:Nat),X'.own b n→(b<X1.h.length∧X1.own b n)∨(X1.h.length≤b∧X0'.own (fp.length+(b-X1.h.length)) n):=by
    intro b n ⟨q1,blk,q2,q3⟩
    rcases hget' b blk q2 with⟨h3,_,h4⟩|⟨h3,k,cs,h4,h5,_,_⟩|⟨h3,k0,h4,h5⟩
    ·exact .inl ⟨h3,by rw[←hσlt b h3];exact q1,blk,h4,q3⟩
    ·obtain⟨cs',n',w1,_,_,w4,w5⟩:=hcell k b h4
     rw[hσlt b h3,w4] at q1;cases q1
     exact .inl ⟨h3,w5⟩
    ·subst h5
     exact .inr ⟨h3,by rw[←hσge b h3];exact q1,k0,h4,by rwa [Blk.mut_ren] at q3⟩
   have hnewge:∀k n,fp.length≤k→X0'.own k n→X1.w.heap.size≤n:=fun k n hk ho=>e5.fresh k n ho (by rw[hB0];exact hk)
   have hs':HSim B X':=by
    constructor
    ·intro b blk hb
     rcases hget' b blk hb with⟨h3,h4,h5⟩|⟨h3,k,cs,h4,h5,h6,h7⟩|⟨h3,k0,h4,h5⟩
     ·by_cases hd:blk=.dead
      ·subst hd;trivial
      ·refine yl.ext hext (hσlt b h3) (fun n hn=>hkeep n (hs1.lt h5 hd hn) ?_) (hs1.blk b blk h5)
       by_cases hm1:blk.mut=true
       ·exact hnotin b n h4 ⟨hn,blk,h5,hm1⟩
       ·cases blk with
        | cells=>exact absurd rfl hm1
        | big=>exact absurd rfl hm1
        | vec=>exact absurd rfl hm1
        | dead=>exact absurd rfl hd
        | frz e sh l=>
         rcases hs1.blk b _ h5 with⟨h6,_⟩|⟨n',c',h6,_,_,h7⟩
         ·rw[hn] at h6;cases h6
         ·rw[hn] at h6;cases h6;exact hMnot n h7
     ·subst h5
      exact qnn h7 (e5.blk k _ h6) (by rw[hσlt b h3,←hσ0' k b h4]) (fun _ _=>rfl) (fun _ h=>h) (fun _ _=>rfl) e6.symm
     ·subst h5
      exact yl.move hback (hσge b h3) (fun _ _=>rfl) (e5.blk _ k0 h4)
    ·intro b b' n h3 h4
     rcases hown' b n h3 with⟨w1,w2⟩|⟨w1,w2⟩<;>rcases hown' b' n h4 with⟨w3,w4⟩|⟨w3,w4⟩
     ·exact hs1.inj b b' n w2 w4
     ·have:=hnewge _ n (by omega) w4
      have:=Ctx.own.lt hs1 w2
      omega
     ·have:=hnewge _ n (by omega) w2
      have:=Ctx.own.lt hs1 w4
      omega
     ·have:=e5.inj _ _ n w2 w4;omega
    ·intro b n h3 h4
     rcases hown' b n h3 with⟨w1,w2⟩|⟨w1,w2⟩
     ·rcases e5.newM n h4 with h5|h5
      ·exact hs1.notM b n w2 h5
      ·have h6:X1.w.heap.size≤n:=h5
       have:=Ctx.own.lt hs1 w2
       omega
     ·exact e5.notM _ n w2 h4
    ·exact e5.ltM
    ·exact fun n hn=>hM01 n (hs1.M0 n hn)
    ·intro n hn
     rcases e5.newM n hn with h5|h5
     ·exact hs1.newM n h5
     ·have h6:X1.w.heap.size≤n:=h5
      have:=hs1.size
      exact .inr (by omega)
    ·exact e5.os.trans hs1.os
    ·exact e5.tape.trans hs1.tape
    ·exact e5.output.trans hs1.output
    ·have h6:X1.w.heap.size≤X0'.w.heap.size:=hsz
     have:=hs1.size
     show B.w0.heap.size≤X0'.w.heap.size
     omega
    ·intro n hn hni
     have h6:=hs1.size
     have:X0'.w.heap[n]?=X1.w.heap[n]?:=by
      refine hkeep n (by omega) fun k b hk ho=>?_
      rcases Nat.lt_or_ge b B.imps.length with hlt|hge
      ·have h7:=hs1.imps b hlt
       rw[ho.1,List.getElem?_eq_getElem hlt] at h7
       simp at h7
       exact hni (h7▸List.getElem_mem hlt)
      ·have:=hs1.fresh b n ho hge;omega
     exact this.trans (hs1.frame n hn hni)
    ·intro b hb
     have:=hs1.hlen
     rw[hσlt b (by omega)];exact hs1.imps b hb
    ·intro b hb
     have:=hs1.hlen
     obtain⟨cs,h3,h3s⟩:=hs1.impc b hb
     by_cases hbf:b∈fp
     ·obtain⟨k,hk⟩:=List.getElem?_of_mem hbf
      obtain⟨cs',q1,q2,q3⟩:=p4 k b hk
      exact⟨cs',by show (_++_)[b]?=_;rw[List.getElem?_append_left (by omega)];exact q2,(qfY q3).1⟩
     ·exact⟨cs,by show (_++_)[b]?=_;rw[List.getElem?_append_left (by omega),p3 b hbf];exact h3,h3s⟩
    ·intro b n h3 h4
     rcases hown' b n h3 with⟨w1,w2⟩|⟨w1,w2⟩
     ·exact hs1.fresh b n w2 h4
     ·have:=hnewge _ n (by omega) w2
      have:=hs1.size
      omega
    ·intro p hp
     obtain⟨q1,q2,q3⟩:=hs1.kept p hp
     refine⟨(hkeep p.1 (Array.getElem?_eq_some_iff.1 q1).1 fun k b _ ho=>?_).trans q1,q2,q3⟩
     obtain⟨c,T,fr,hc⟩:=ho.cells hs1
     rw[hc] at q1
     exact q2 _ _ _ (Option.some.inj q1).symm
   exact⟨v,X',e1,e2,e3.ren hback,(hsim.ext fz.ext hs1).ext hext hs'⟩
end Go.Eng

namespace Go.Eng
def u9(h:List Blk):Tree Res→Prop
 | .leaf r=>r.2=(h,none)
 | .br _ t e=>u9 h t∧u9 h e
 | .fail=>True
theorem u9.run{h:List Blk}{t:Tree Res}{r:Res}(ht:u9 h t)(hr:t.run=some r):r.2=(h,none):=by
 induction t with
 | leaf x=>cases hr;exact ht
 | br b t e iht ihe=>cases b<;>simp only[Tree.run] at hr<;>first|exact iht ht.1 hr|exact ihe ht.2 hr
 | fail=>cases hr
theorem qhP(h:List Blk)(k:IntKind)(f:Int→Int→Int)(l:Bool)(x y:Int):u9 h (q4R h k f l x y):=by unfold q4R;split<;>rfl
theorem qru(h:List Blk)(f:Int→Int→Bool)(l:Bool)(x y:Int):u9 h (qti h f l x y):=by unfold qti;split<;>rfl
theorem qt0(E:Env)(h:List Blk)(t:TypeId)(p:AV):u9 h (qcx E h t p):=by
 unfold qcx
 dsimp only
 repeat' (first|exact rfl|exact trivial|split)
theorem qrD(E:Env)(h:List Blk)(t:TypeId)(ps:List (Nat×AV)):u9 h (qe7 E h t ps):=by
 unfold qe7
 repeat' (first|exact rfl|exact trivial|split)
theorem qr6(E:Env)(h:List Blk)(t:TypeId)(p:AV):u9 h (q9W E h t p):=by
 unfold q9W qvW
 repeat' (first|exact qt0 _ _ _ _|exact rfl|exact trivial|exact⟨rfl,trivial⟩|split)
theorem qq6(E:Env)(h:List Blk)(t:TypeId)(ps:List (Nat×AV)):u9 h (q9F E h t ps):=by
 unfold q9F
 repeat' (first|exact qrD _ _ _ _|exact rfl|exact trivial|split)
theorem qm9(E:Env)(h:List Blk)(s:TypeId)(x:AV)(f:Nat):u9 h (q1w E h s x f):=by
 unfold q1w
 repeat' (first|exact rfl|exact trivial|split)
theorem qnP(E:Env)(h:List Blk)(t:TypeId)(cs:List AV)(o:Nat):u9 h (qfa E h t cs o):=by
 unfold qfa
 repeat' (first|exact rfl|exact trivial|split)
theorem qrr(E:Env)(h:List Blk)(s:TypeId)(x:AV)(f:Nat):u9 h (qdP E h s x f):=by
 unfold qdP
 repeat' (first|exact rfl|exact trivial|exact qnP _ _ _ _ _|split)
theorem qgO(h:List Blk)(i:Int)(f:Nat→AV):∀n,u9 h (qe5 h i f n)
 | 0=>trivial
 | n+1=>⟨rfl,qgO h i f n⟩
theorem qll(E:Env)(h:List Blk)(t:TypeId)(x i:AV):u9 h (yi E h t x i):=by
 unfold yi
 repeat' (first|exact qgO _ _ _ _|exact rfl|exact trivial|exact⟨rfl,trivial⟩|split)
theorem qk2(E:Env)(h:List Blk)(t:TypeId)(x i:AV):u9 h (kS E h t x i):=by
 unfold kS
 repeat' (first|exact qll _ _ _ _ _|exact rfl|exact trivial|exact⟨rfl,trivial⟩|split)
theorem qr0(E:Env)(h:List Blk)(t:TypeId)(x i:AV):u9 h (qdS E h t x i):=by
 unfold qdS
 repeat' (first|exact rfl|exact trivial|exact⟨rfl,trivial⟩|exact qnP _ _ _ _ _|split)
theorem quT(d:TD)(h:List Blk)(op:BinOp)(x y:AV):u9 h (qpo d h op x y):=by
 unfold qpo
 repeat' (first|exact rfl|exact trivial|exact qhP _ _ _ _ _ _|exact qru _ _ _ _ _|exact⟨rfl,trivial⟩|exact⟨qhP _ _ _ _ _ _,trivial⟩|split)
theorem qrx(E:Env)(h:List Blk)(op:BinOp)(t:TypeId)(x y:AV):u9 h (qg9 E h op t x y):=by
 unfold qg9
 split
 ·unfold qkN
  repeat' (first|exact rfl|exact trivial|split)
 ·exact quT _ _ _ _ _
theorem qwt(h:List Blk)(op:UnOp)(x:AV):u9 h (qxW h op x):=by
 unfold qxW
 repeat' (first|exact rfl|exact trivial|split)
theorem qtM(E:Env)(h:List Blk)(s d:TypeId)(x:AV):u9 h (qjs E h s d x):=by
 unfold qjs
 repeat' (first|exact rfl|exact trivial|split)
theorem qqW(E:Env)(h:List Blk)(s d:TypeId)(x:AV):u9 h (qdE E h s d x):=by
 unfold qdE
 split
 ·split
  ·unfold qmg
   repeat' (first|exact rfl|exact trivial|split)
  ·trivial
 ·exact qtM _ _ _ _ _
theorem qvK(E:Env)(h:List Blk)(ts:List TypeId)(azz:List AV):u9 h (qm2 E h ts azz):=by
 unfold qm2
 split
 ·unfold quF
  repeat' (first|exact rfl|exact trivial|split)
 ·trivial
theorem qsv(f:Int→Int→Int)(h:List Blk)(azz:List AV):u9 h (qof f h azz):=by
 unfold qof
 repeat' (first|exact rfl|exact trivial|split)
theorem qrP{E:Env}{t:TypeId}(ht:(E.ty t).d=.str)(h:List Blk)(x:AV)(lo hi mx:Option AV):u9 h (qav E h t x lo hi mx):=by
 unfold qav
 rw[ht]
 cases mx with
 | some _=>trivial
 | none=>
  cases x<;>first|trivial|skip
  simp only
  split
  ·exact⟨⟨rfl,trivial⟩,trivial⟩
  ·trivial
theorem qpO{E:Env}{t:TypeId}(ht:(E.ty t).d=.str)(h:List Blk)(x:AV)(lo hi mx:Option AV):u9 h (yt E h t x lo hi mx):=by
 unfold yt
 rw[ht]
 exact qrP ht _ _ _ _ _
theorem qpr{E:Env}{t:TypeId}{n:Nat}{e:TypeId}{es:Nat}(ht:(E.ty t).d=.array n e es)(h:List Blk)(x:AV)(lo hi mx:Option AV):u9 h (yt E h t x lo hi mx):=by
 unfold yt
 rw[ht]
 simp only
 unfold qwu
 repeat' (first|exact rfl|exact trivial|exact⟨⟨rfl,trivial⟩,trivial⟩|split)
theorem qq5{E:Env}{t:TypeId}{e:TypeId}{es:Nat}(ht:(E.ty t).d=.slice e es)(h:List Blk)(x:AV)(lo hi:Option AV){mx:Option AV}(hm:mx.isSome=true):u9 h (yt E h t x lo hi mx):=by
 unfold yt
 rw[ht]
 simp only
 unfold qav
 cases mx with
 | none=>cases hm
 | some m=>
  simp only
  rw[ht]
  repeat' (first|exact rfl|exact trivial|exact⟨⟨⟨rfl,trivial⟩,trivial⟩,trivial⟩|split)
theorem qny{E:Env}{h:List Blk}{ev:Operand→AV}{op:Op}(hs:qac E op=true){r:Res}(hr:(qjy E h ev op).run=some r):r.2=(h,none):=by
 have key:u9 h (qjy E h ev op):=by
  unfold qjy
  cases op<;>simp only[qac] at hs<;>try (cases hs)
  case move=>rfl
  case assign=>rfl
  case pick=>simp only;split<;>first|rfl|exact⟨rfl,rfl⟩|trivial
  case build=>exact qq6 _ _ _ _
  case load=>exact qr6 _ _ _ _
  case nilCheck=>simp only;repeat' (first|exact rfl|exact⟨rfl,trivial⟩|exact trivial|split)
  case binOp=>exact qrx _ _ _ _ _ _
  case unOp=>exact qwt _ _ _
  case convert=>exact qqW _ _ _ _ _
  case makeFunc fn _ _=>cases fn<;>first|rfl|trivial
  case slice t x lo hi mx=>
   split at hs
   ·rename_i ht;exact qpO ht _ _ _ _ _
   ·rename_i ht;exact qpr ht _ _ _ _ _
   ·rename_i ht;exact qq5 ht _ _ _ _ (by simpa using hs)
   ·cases hs
  case fieldAddr=>exact qm9 _ _ _ _ _
  case field=>exact qrr _ _ _ _ _
  case indexAddr=>exact qk2 _ _ _ _ _
  case index=>exact qr0 _ _ _ _ _
  case extract=>simp only;repeat' (first|exact rfl|exact trivial|split)
  case call c=>
   obtain⟨callee,args,tys⟩:=c
   cases callee with
   | builtin b=>
    cases b<;>simp only at hs<;>try (cases hs)
    ·exact qvK _ _ _ _
    ·exact qsv _ _ _
    ·exact qsv _ _ _
   | value x=>simp only at hs;cases hs
   | invoke x n=>simp only at hs;cases hs
 exact key.run hr
end Go.Eng

namespace Go.Eng
theorem qo1{E:Env}{callS:q8U}{h:List Blk}{f g:Operand→AV}{op:Op}(hfg:∀x∈op.operands.toList,f x=g x):q8K E callS h f op=q8K E callS h g op:=by
 have hmap:∀(l:List Operand),(∀x∈l,x∈op.operands.toList)→l.map f=l.map g:=fun l hl=>List.map_congr_left fun x hx=>hfg x (hl x hx)
 have hop:qac E op=true→qjy E h f op=qjy E h g op:=by
  intro hst
  unfold qjy
  cases op<;>simp only[qac] at hst<;>try (cases hst)
  case move x=>simp only;rw[hfg x (by simp[Op.operands])]
  case assign x=>simp only;rw[hfg x (by simp[Op.operands])]
  case pick c a b=>simp only;rw[hfg c (by simp[Op.operands]),hfg a (by simp[Op.operands]),hfg b (by simp[Op.operands])]
  case build t ps=>
   simp only
   have:(ps.toList.map fun p=>(p.1,f p.2))=ps.toList.map fun p=>(p.1,g p.2):=List.map_congr_left fun p hp=>by
    rw[hfg p.2 (by simp only[Op.operands];exact List.mem_map_of_mem hp)]
   rw[this]
  case load t a=>simp only;rw[hfg a (by simp[Op.operands])]
  case nilCheck a=>simp only;rw[hfg a (by simp[Op.operands])]
  case binOp o t x y ty=>simp only;rw[hfg x (by simp[Op.operands]),hfg y (by simp[Op.operands])]
  case unOp o t x=>simp only;rw[hfg x (by simp[Op.operands])]
  case convert s d x=>simp only;rw[hfg x (by simp[Op.operands])]
  case makeFunc fn a b=>
   cases fn<;>simp only
   rw[hmap a.toList (fun x hx=>by simp only[Op.operands,Array.toList_append];exact List.mem_append_left _ hx),hmap b.toList (fun x hx=>by simp only[Op.operands,Array.toList_append];exact List.mem_append_right _ hx)]
  case slice t x lo hi mx=>
   simp only
   have hlo:∀y,lo=some y→f y=g y:=fun y hy=>hfg y (by subst hy;simp[Op.operands])
   have hhi:∀y,hi=some y→f y=g y:=fun y hy=>hfg y (by subst hy;simp[Op.operands])
   have hmx:∀y,mx=some y→f y=g y:=fun y hy=>hfg y (by subst hy;simp[Op.operands])
   have e1:lo.map f=lo.map g:=by
    cases lo with
    | none=>rfl
    | some y=>exact congrArg some (hlo y rfl)
   have e2:hi.map f=hi.map g:=by
    cases hi with
    | none=>rfl
    | some y=>exact congrArg some (hhi y rfl)
   have e3:mx.map f=mx.map g:=by
    cases mx with
    | none=>rfl
    | some y=>exact congrArg some (hmx y rfl)
   rw[e1,e2,e3,hfg x (by simp[Op.operands])]
  case fieldAddr s x i=>simp only;rw[hfg x (by simp[Op.operands])]
  case field s x i=>simp only;rw[hfg x (by simp[Op.operands])]
  case indexAddr t x i=>simp only;rw[hfg x (by simp[Op.operands]),hfg i (by simp[Op.operands])]
  case index t x i=>simp only;rw[hfg x (by simp[Op.operands]),hfg i (by simp[Op.operands])]
  case extract x i=>simp only;rw[hfg x (by simp[Op.operands])]
  case call c=>
   obtain⟨callee,args,tys⟩:=c
   cases callee with
   | builtin b=>
    simp only
    rw[hmap args.toList (fun x hx=>by simpa[Op.operands,Call.operands] using hx)]
   | value x=>simp only at hst;cases hst
   | invoke x n=>simp only at hst;cases hst
 unfold q8K
 split
 ·rename_i x args tys
  rw[hfg x (by simp[Op.operands,Call.operands]),hmap args.toList (fun y hy=>by simp only[Op.operands,Call.operands,Array.toList_append];exact List.mem_append_right _ hy)]
 ·split
  ·rename_i hst;rw[hop hst]
  ·rfl
def qfO(E:Env)(P:Program)(callS:List Blk→q8U):Prop:=
 ∀(f:FuncId) (args:List AV) (st:St) (v:AV) (B:Base) (X:Ctx) (a:Act) (vargs:List Value),Sim E B X st a→RepL X args vargs→(callS st.h f args).run=some v →
  (∀w,(callFunc f vargs.toArray).run P w=.ok (.enter f vargs.toArray) w) ∧
  Calls P f vargs.toArray X.w fun e w'=>∃u X',e=.returned u∧X'.w=w'∧Rep X' v u∧Sim E B X' st a
def Blk.isFrzB:Blk→Bool
 | .frz _ _ _=>true
 | _=>false
def q8k(E:Env)(callS:List Blk→q8U):Prop:=∀(h h':List Blk) (f:FuncId) (args:List AV),(qfd E f).isSome=true→(∀b,b∈AV.menL args→h'[b]?=h[b]?)→callS h' f args=callS h f args
def Env.specs(E:Env)(P:Program):Prop:=∀x,x∈E.spec→zh P E.glob x.1 x.2
theorem qfk:∀(l:List Nat) (h:List Blk),l.all (qoe h)=true→zn h l=h
 | [],_,_=>rfl
 | b::l,h,hl=>by
  simp only[List.all_cons,Bool.and_eq_true] at hl
  have:vG h b=h:=by
   unfold vG
   have:=hl.1
   unfold qoe at this
   split at this
   ·rename_i hb;rw[hb]
   ·cases this
  simp only[zn,this]
  exact qfk l h hl.2
theorem qpf{E:Env}{P:Program}(hS:E.specs P):qfO E P (q7M E):=by
 intro f args st v B X a vargs hsim hargs h
 unfold q7M at h
 cases hf:E.spec.find? fun x=>x.1==f with
 | none=>rw[hf] at h;cases h
 | some G=>
  rw[hf] at h
  have hG:=hS G (List.mem_of_find?_eq_some hf)
  have hfe:G.1=f:=by simpa using List.find?_some hf
  simp only at h
  split at h
  ·rename_i hc
   obtain⟨r,h1,h2⟩:=bind_some h
   have hr2:r.2=[]∧(r.1.men)=[]∧v=r.1:=by
    split at h2
    ·rename_i he
     split at h2
     ·rename_i hm;cases h2;exact⟨he,by simpa using hm,rfl⟩
     ·cases h2
    ·cases h2
   obtain⟨q1,q2,rfl⟩:=hr2
   have hfz:zn st.h (args.flatMap jx)=st.h:=qfk _ _ hc.1
   have hmen:AV.menL (AV.lendL st.h args)=[]:=by simpa using hc.2
   have hcs:(q1L G.2 args st).run=some (r.1,st):=by
    unfold q1L
    have hpr:q4q st.h args=st.h:=by
     unfold q4q
     simp only[hfz,hmen,q9B,zn,qfq]
    simp only[hpr,hmen,qhm,q4b]
    rw[AV.renL_of_men _ _ hmen,Tree.run_bind,h1]
    simp only[Option.bind_some,jE,q1,List.length_nil,List.drop_nil,List.map_nil,List.append_nil]
    rw[AV.ren_of_men _ _ q2]
    rfl
   rw[hfe] at hG
   refine⟨hG.1 _,?_⟩
   exact qa4 hG hsim hargs hcs
  ·cases h
theorem qnT{E:Env}{P:Program}(hE:E.tok P){callS:List Blk→q8U}(hc:qfO E P callS){B:Base}{X:Ctx}{st:St}{a:Act}(hs:Sim E B X st a){o:Oper}{av:AV}
  (h:(q8K E (callS st.h) st.h (E.opd st.t) o.op).run=some av) {next:Act→World→Prop} {Q:Exit→Act→World→Prop}
  (hq:∀X' v,Sim E B X' st a→Rep X' av v→next (a.put o.dst v) X'.w):o.wp P a X.w next Q:=by
 unfold q8K at h
 split at h
 ·rename_i x args tys hop
  cases hx:E.opd st.t x with
  | fn f first caps=>
   rw[hx] at h
   have hv:=q6k hs x
   rw[hx] at hv
   generalize hev:a.eval x=vx at hv
   cases hv with
   | fn _ _ _ vf vc q1 q2=>
    have hargs:=q62 hs args.toList
    have hall:RepL X (first++args.toList.map (E.opd st.t)++caps) (vf++args.toList.map a.eval++vc):=(q1.append hargs).append q2
    obtain⟨g1,g2⟩:=hc f _ st av B X a _ hs hall h
    unfold Oper.wp
    have hrun:(execOp a.eval o).run P X.w=.ok (.enter f (vf++args.toList.map a.eval++vc).toArray) X.w:=by
     simp only[execOp,hop,resolve,hev,Deferred.ofValue,Sem.run_bind,Sem.run_pure,Result.andThen_ok,invoke]
     have:vf.toArray++args.map a.eval++vc.toArray=(vf++args.toList.map a.eval++vc).toArray:=by
      apply Array.ext';simp
     rw[this]
     exact g1 X.w
    rw[hrun]
    refine g2.mono fun e w' ⟨v,X',e1,e2,e3,e4⟩=>?_
    subst e1 e2
    exact hq X' _ e4 e3
  | _=>rw[hx] at h;cases h
 ·split at h
  ·rename_i hst
   obtain⟨r,h1,h2⟩:=bind_some h
   cases h2
   have hr2:=qny hst h1
   obtain⟨nx,v,X',g1,g2,g3,g4,g5⟩:=qkR hE hs h1
   have hrn:r.2.2=none:=by rw[hr2]
   rw[hrn] at g5
   have hXh:X'.h=st.h:=by rw[g5.1,hr2]
   have hs':Sim E B X' st a:=by
    have:=hs.ext g5.2 g4
    rw[hXh] at this
    exact this
   unfold Oper.wp
   rw[g1]
   rcases g2 with rfl|⟨rfl,rfl⟩
   ·exact hq X' _ hs' g3
   ·exact hq X' _ hs' g3
  ·cases h
theorem Sim.drawn{E:Env}{B:Base}{X:Ctx}{st:St}{a:Act}(hs:Sim E B X st a)(n:Nat):Sim E B { X with w:={ X.w with drawn:=n } } st a:=by
 have hx:Ext X { X with w:={ X.w with drawn:=n } }:=
  Move.of (fun _ h=>h) (fun _ _=>rfl) (fun b b' hb h=>by cases h;exact⟨hb,rfl,fun _ _ h=>h,fun _ _ _ _ _ c T fr h=>⟨c,T,fr,h,rfl⟩⟩)
 have h0:=hs.hs
 have hs':HSim B { X with w:={ X.w with drawn:=n } }:=
  ⟨fun b k hk=>yl.ext hx rfl (fun _ _=>rfl) (h0.blk b k hk),h0.inj,h0.notM,h0.ltM,h0.M0,h0.newM,h0.os,h0.tape,h0.output,h0.size,h0.frame,h0.imps,h0.impc,h0.fresh,h0.kept⟩
 have:=hs.ext hx hs'
 have e:({ st with h:=X.h }:St)=st:=by rw[hs.h]
 exact e▸this
end Go.Eng

namespace Go.Eng
def qs3(all:Array Oper)(k:Nat)(v:AV):AV:=if qrm all k then (match v with|.bool b=>.blit b|v=>v) else v
theorem qpj{X:Ctx}{all:Array Oper}{k:Nat}{v:AV}{u:Value}(h:Rep X v u):Rep X (qs3 all k v) u:=by
 unfold qs3
 split
 ·cases h with
  | bool b=>exact .blit b
  | undef=>exact .undef _
  | skip=>exact .skip
  | yld=>exact .yld
  | blit b=>exact .blit b
  | ilit k n=>exact .ilit k n
  | int k n=>exact .int k n
  | str s=>exact .str s
  | nilp=>exact .nilp
  | ptr b off n h1 h2=>exact .ptr b off n h1 h2
  | eptr sh l i off a h1 h2 h3 h4=>exact .eptr sh l i off a h1 h2 h3 h4
  | mnil sh l i off=>exact .mnil sh l i off
  | mptr sh l i off a h1 h2 h3 h4=>exact .mptr sh l i off a h1 h2 h3 h4
  | vptr b i off n k h1 h2 h3=>exact .vptr b i off n k h1 h2 h3
  | vsub b i n k m c h1 h2 h3=>exact .vsub b i n k m c h1 h2 h3
  | aptr b o i n h1 h2 h3=>exact .aptr b o i n h1 h2 h3
  | asub b o N i m n k c h1 h2 h3 h4 h5 h6=>exact .asub b o N i m n k c h1 h2 h3 h4 h5 h6
  | nils=>exact .nils
  | imm sh l _ h=>exact .imm sh l _ h
  | full sh l p n h=>exact .full sh l p n h
  | vec b p n c h1 h2=>exact .vec b p n c h1 h2
  | nilf=>exact .nilf
  | fn f a b c d h1 h2=>exact .fn f a b c d h1 h2
  | agg cs vs h=>exact .agg cs vs h
  | tuple cs vs h=>exact .tuple cs vs h
  | bagg cs k n l vs h hl=>exact .bagg cs k n l vs h hl
 ·exact h
theorem qvT{all:Array Oper}{k:Nat}{o:Oper}{st st':St}{v:AV}(h:(qmG all k o { st with t:=qeN st.t o.dst v }).run=some st') :
  st'={ st with t:=qeN st.t o.dst (qs3 all k v) }:=by
 unfold qmG at h
 unfold qs3
 by_cases hg:qrm all k=true
 ·rw[if_pos hg] at h ⊢
  cases hd:o.dst with
  | none=>rw[hd] at h;cases h;rfl
  | some d=>
   rw[hd] at h
   simp only[qeN] at h ⊢
   rcases Nat.lt_or_ge d st.t.length with hlt|hge
   ·rw[List.getElem?_set_self hlt] at h
    cases v<;>simp only at h<;>try (cases h;rfl)
    rename_i b
    cases b<;>(cases h;simp[List.set_set])
   ·rw[List.set_eq_of_length_le hge] at h
    rw[List.getElem?_eq_none hge] at h
    cases h
    rw[List.set_eq_of_length_le hge]
 ·rw[if_neg hg] at h ⊢
  cases h;rfl
def qaT(V:Nat→AV):Nat→List Oper→List AV→List AV
 | _,[],t=>t
 | k,o::rest,t=>qaT V (k+1) rest (qeN t o.dst (V k))
theorem ql2{V W:Nat→AV}:∀(l:List Oper) (k:Nat) (t:List AV),(∀j,k≤j→V j=W j)→qaT V k l t=qaT W k l t
 | [],_,_,_=>rfl
 | o::l,k,t,h=>by
  simp only[qaT]
  rw[h k (Nat.le_refl _)]
  exact ql2 l (k+1) _ fun j hj=>h j (by omega)
section
variable (dst:Nat→Option Tmp) (V:Nat→AV) (T0:List AV)
def TLp(L:Nat→Bool):Nat→List AV
 | 0=>T0
 | m+1=>if L m then qeN (TLp L m) (dst m) (V m) else TLp L m
variable {dst V T0}
theorem qrO(t:List AV)(d:Option Tmp)(v:AV):(qeN t d v).length=t.length:=by cases d<;>simp[qeN]
theorem qb8(L:Nat→Bool):∀m,(TLp dst V T0 L m).length=T0.length
 | 0=>rfl
 | m+1=>by simp only[TLp];split<;>simp[qrO,qb8 L m]
theorem q7F{L:Nat→Bool}{t:Tmp}:∀m,(∀j,j<m→L j=true→dst j≠some t)→(TLp dst V T0 L m)[t]?=T0[t]?
 | 0,_=>rfl
 | m+1,h=>by
  simp only[TLp]
  split
  ·rename_i hl
   have:=h m (Nat.lt_succ_self m) hl
   cases hd:dst m with
   | none=>exact q7F m fun j hj=>h j (by omega)
   | some d=>
    rw[hd] at this
    simp only[qeN]
    rw[List.getElem?_set_ne (fun e=>this (by rw[e]))]
    exact q7F m fun j hj=>h j (by omega)
  ·exact q7F m fun j hj=>h j (by omega)
theorem qes{L:Nat→Bool}{t:Tmp}{j:Nat}(hj:L j=true)(hd:dst j=some t):∀m,j<m→(∀k,k<m→k≠j→dst k≠some t) →
  (TLp dst V T0 L m)[t]?=if t<T0.length then some (V j) else none
 | 0,h,_=>by omega
 | m+1,h,hu=>by
  by_cases hm:j=m
  ·subst hm
   simp only[TLp,hj,if_true,hd,qeN]
   rw[List.getElem?_set]
   simp[qb8]
  ·simp only[TLp]
   split
   ·have:=hu m (Nat.lt_succ_self m) (fun e=>hm e.symm)
    cases hdm:dst m with
    | none=>exact qes hj hd m (by omega) fun k hk=>hu k (by omega)
    | some d=>
     rw[hdm] at this
     simp only[qeN]
     rw[List.getElem?_set_ne (fun e=>this (by rw[e]))]
     exact qes hj hd m (by omega) fun k hk=>hu k (by omega)
   ·exact qes hj hd m (by omega) fun k hk=>hu k (by omega)
theorem qxS{L:Nat→Bool}{i n:Nat}(hi:i<n)(hL:L i=false)(hu:∀k,k<n→k≠i→∀t,dst i=some t→dst k≠some t) :
  TLp dst V T0 (fun j=>if j=i then true else L j) n=qeN (TLp dst V T0 L n) (dst i) (V i):=by
 apply List.ext_getElem?
 intro t
 cases hd:dst i with
 | none=>
  simp only[qeN]
  by_cases hex:∃j,j<n∧L j=true∧dst j=some t
  ·
   clear hex
   have:∀m,m≤n→TLp dst V T0 (fun j=>if j=i then true else L j) m=TLp dst V T0 L m:=by
    intro m
    induction m with
    | zero=>intro _;rfl
    | succ m ih=>
     intro hm
     simp only[TLp]
     by_cases hmi:m=i
     ·subst hmi;rw[ih (by omega)];simp[hL,hd,qeN]
     ·rw[ih (by omega)];simp[hmi]
   rw[this n (Nat.le_refl _)]
  ·have h1:∀j,j<n→L j=true→dst j≠some t:=fun j hj hl he=>hex ⟨j,hj,hl,he⟩
   rw[q7F n h1]
   refine q7F n fun j hj hl he=>?_
   by_cases hji:j=i
   ·subst hji;rw[hd] at he;cases he
   ·simp[hji] at hl;exact h1 j hj hl he
 | some d=>
  simp only[qeN]
  by_cases htd:t=d
  ·subst htd
   rw[qes (j:=i) (by simp) hd n hi (fun k hk hki=>hu k hk hki t hd),List.getElem?_set]
   simp[qb8]
  ·rw[List.getElem?_set_ne (fun e=>htd e.symm)]
   have:∀m,m≤n→(TLp dst V T0 (fun j=>if j=i then true else L j) m)[t]?=(TLp dst V T0 L m)[t]?:=by
    intro m
    induction m with
    | zero=>intro _;rfl
    | succ m ih=>
     intro hm
     simp only[TLp]
     by_cases hmi:m=i
     ·subst hmi
      simp only[if_true,hL,Bool.false_eq_true,if_false,hd,qeN]
      rw[List.getElem?_set_ne (fun e=>htd e.symm)]
      exact ih (by omega)
     ·simp only[hmi,if_false]
      split
      ·cases hdm:dst m with
       | none=>exact ih (by omega)
       | some d'=>
        simp only[qeN,List.getElem?_set]
        rw[qb8,qb8,ih (by omega)]
      ·exact ih (by omega)
   exact this n (Nat.le_refl _)
end
theorem qxm{V:Nat→AV}{l:List Oper}{T0:List AV}:∀j,j≤l.length→TLp (fun i=>(l[i]?).bind (·.dst)) V T0 (fun _=>true) j=qaT V 0 (l.take j) T0:=by
 have app:∀(l:List Oper) (o:Oper) (k:Nat) (t:List AV),qaT V k (l++[o]) t=qeN (qaT V k l t) o.dst (V (k+l.length)):=by
  intro l
  induction l with
  | nil=>intro o k t;simp[qaT]
  | cons a l ih=>intro o k t;simp only[List.cons_append,qaT,ih];congr 2;simp;omega
 intro j
 induction j with
 | zero=>intro _;simp[TLp,qaT]
 | succ j ih=>
  intro hj
  have hlt:j<l.length:=by omega
  have ht:l.take (j+1)=l.take j++[l[j]]:=by rw[List.take_succ_eq_append_getElem hlt]
  rw[ht,app,←ih (by omega)]
  simp only[TLp,if_true]
  rw[List.getElem?_eq_getElem hlt]
  simp only[Option.bind_some]
  congr 2
  simp;omega
end Go.Eng

namespace Go.Eng
def qrM(acc:List Nat)(o:Oper):Nat:=o.after.toList.foldl (fun s e=>if Region.binds .any e then s ||| 2^e.on ||| acc.getD e.on 0 else s) 0
theorem qm8(acc:List Nat)(x:Nat):∀(es:List Edge) (s:Nat),(es.foldl (fun s e=>if Region.binds .any e then s ||| 2^e.on ||| acc.getD e.on 0 else s) s).testBit x=true →
  s.testBit x=true∨∃e,e∈es∧Region.binds .any e=true∧(x=e.on∨(acc.getD e.on 0).testBit x=true)
 | [],s,h=>.inl h
 | e::es,s,h=>by
  simp only[List.foldl_cons] at h
  rcases qm8 acc x es _ h with h1|⟨e',h1,h2,h3⟩
  ·split at h1
   ·rename_i hb
    rw[Nat.testBit_or,Nat.testBit_or,Bool.or_eq_true,Bool.or_eq_true] at h1
    rcases h1 with (h1|h1)|h1
    ·exact .inl h1
    ·rw[Nat.testBit_two_pow] at h1
     have h2:e.on=x:=by simpa using h1
     exact .inr ⟨e,List.mem_cons_self,hb,.inl h2.symm⟩
    ·exact .inr ⟨e,List.mem_cons_self,hb,.inr h1⟩
   ·exact .inl h1
  ·exact .inr ⟨e',List.mem_cons_of_mem _ h1,h2,h3⟩
def qyb(ops:List Oper)(acc:List Nat):Prop:=
 ∀i x,(acc.getD i 0).testBit x=true→∃o e,ops[i]?=some o∧e∈o.after.toList∧Region.binds .any e=true∧(x=e.on∨(acc.getD e.on 0).testBit x=true)
theorem qnC:∀(rest done:List Oper) (acc:List Nat),acc.length=done.length→qyb done acc→qyb (done++rest) (rest.foldl (fun acc o=>acc++[qrM acc o]) acc)
 | [],done,acc,_,h=>by simpa using h
 | o::rest,done,acc,hl,h=>by
  simp only[List.foldl_cons]
  have:=qnC rest (done++[o]) (acc++[qrM acc o]) (by simp[hl]) ?_
  ·simpa using this
  ·intro i x hb
   have grow:∀(j x:Nat),(acc.getD j 0).testBit x=true→((acc++[qrM acc o]).getD j 0).testBit x=true:=by
    intro j x hj
    rcases Nat.lt_or_ge j acc.length with hlt|hge
    ·rw[List.getD_eq_getElem?_getD,List.getElem?_append_left hlt,←List.getD_eq_getElem?_getD];exact hj
    ·rw[List.getD_eq_getElem?_getD,List.getElem?_eq_none hge] at hj;simp at hj
   rcases Nat.lt_or_ge i acc.length with hlt|hge
   ·rw[List.getD_eq_getElem?_getD,List.getElem?_append_left hlt,←List.getD_eq_getElem?_getD] at hb
    obtain⟨o',e,h1,h2,h3,h4⟩:=h i x hb
    refine⟨o',e,by rw[List.getElem?_append_left (by omega)];exact h1,h2,h3,?_⟩
    exact h4.elim .inl fun q=>.inr (grow _ _ q)
   ·rcases Nat.eq_or_lt_of_le hge with he|hgt
    ·rw[List.getD_eq_getElem?_getD,←he,List.getElem?_append_right (Nat.le_refl _)] at hb
     simp only[Nat.sub_self,List.getElem?_cons_zero,Option.getD_some] at hb
     rcases qm8 acc x _ _ hb with h1|⟨e,h1,h2,h3⟩
     ·simp at h1
     ·exact⟨o,e,by rw[←he,List.getElem?_append_right (by omega)];simp[hl],h1,h2,h3.elim .inl fun q=>.inr (grow _ _ q)⟩
    ·rw[List.getD_eq_getElem?_getD,List.getElem?_eq_none (by simp;omega)] at hb
     simp at hb
theorem qoH(ops:List Oper):qyb ops (q4V ops):=by
 have:=qnC ops [] [] rfl (fun i x h=>by simp at h)
 exact this
structure DrawOk (all:Array Oper):Prop where
 edge:∀i o,all[i]?=some o→∀e,e∈o.after.toList→Region.binds .any e=true→e.on<i
 dst:∀i j oi oj,all[i]?=some oi→all[j]?=some oj→j≠i→∀t,oj.dst=some t→oi.dst≠some t ∧
  (t∈qtF all oi→((q4V all.toList).getD i 0).testBit j=true∨((q4V all.toList).getD j 0).testBit i=true)
theorem qwW{all:Array Oper}(h:quy all=true):DrawOk all:=by
 unfold quy at h
 simp only[List.all_eq_true,List.mem_range] at h
 have main:∀i oi,all[i]?=some oi→(∀e,e∈oi.after.toList→Region.binds .any e=true→e.on<i) ∧
   ∀j oj,all[j]?=some oj→j≠i→∀t,oj.dst=some t→oi.dst≠some t∧(t∈qtF all oi→((q4V all.toList).getD i 0).testBit j=true∨((q4V all.toList).getD j 0).testBit i=true):=by
  intro i oi hi
  have hi':all.toList[i]?=some oi:=by simpa using hi
  have:=h i (qw hi')
  rw[hi'] at this
  simp only[Bool.and_eq_true,List.all_eq_true,List.mem_range,Bool.or_eq_true,beq_iff_eq] at this
  obtain⟨h1,h2⟩:=this
  refine⟨fun e he hb=>?_,fun j oj hj hne t ht=>?_⟩
  ·have:=h1 e he
   rw[hb] at this
   simpa using this
  ·have hj':all.toList[j]?=some oj:=by simpa using hj
   have:=(h2 j (qw hj')).resolve_left hne
   rw[hj'] at this
   simp only[ht,Bool.and_eq_true,bne_iff_ne,ne_eq,Bool.or_eq_true,Bool.not_eq_true',List.contains_eq_mem,decide_eq_false_iff_not] at this
   refine⟨this.1,fun hm=>?_⟩
   rcases this.2 with (h3|h3)|h3
   ·exact absurd hm h3
   ·exact .inl h3
   ·exact .inr h3
 exact⟨fun i o hi=>(main i o hi).1,fun i j oi oj hi hj hne=>(main i oi hi).2 j oj hj hne⟩
theorem qsp{all:Array Oper}(hd:DrawOk all):∀(i x:Nat),((q4V all.toList).getD i 0).testBit x=true→x<i:=by
 intro i
 induction i using Nat.strongRecOn with
 | _ i ih=>
  intro x hx
  obtain⟨o,e,h1,h2,h3,h4⟩:=qoH all.toList i x hx
  have he:=hd.edge i o (by simpa using h1) e h2 h3
  rcases h4 with rfl|h4
  ·exact he
  ·have:=ih e.on he x h4;omega
def qf6(all:Array Oper)(L:Nat→Bool):Prop:=∀i o,all[i]?=some o→L i=true→∀e,e∈o.after.toList→Region.binds .any e=true→L e.on=true
theorem qly{all:Array Oper}(hd:DrawOk all){L:Nat→Bool}(hc:qf6 all L):∀(i x:Nat),L i=true→((q4V all.toList).getD i 0).testBit x=true→L x=true:=by
 intro i
 induction i using Nat.strongRecOn with
 | _ i ih=>
  intro x hi hx
  obtain⟨o,e,h1,h2,h3,h4⟩:=qoH all.toList i x hx
  have ho:all[i]?=some o:=by simpa using h1
  have he:=hc i o ho hi e h2 h3
  rcases h4 with rfl|h4
  ·exact he
  ·exact ih e.on (hd.edge i o ho e h2 h3) x he h4
section
variable {E:Env} {callS:q8U} {h:List Blk} {all:Array Oper} {V:Nat→AV} {T0:List AV}
def wt(all:Array Oper):Nat→Option Tmp:=fun i=>(all[i]?).bind (·.dst)
theorem qy2(hd:DrawOk all){L:Nat→Bool}(hc:qf6 all L){n i:Nat}{o:Oper}(hi:all[i]?=some o)(hin:i≤n)(hL:L i=false)
  (hedge:∀e,e∈o.after.toList→Region.binds .any e=true→L e.on=true) {t:Tmp} (ht:t∈qtF all o) :
  (TLp (wt all) V T0 L n)[t]?=(TLp (wt all) V T0 (fun _=>true) i)[t]?:=by
 by_cases hex:∃j oj,all[j]?=some oj∧j≠i∧oj.dst=some t
 ·obtain⟨j,oj,hj,hne,hjt⟩:=hex
  have hdj:wt all j=some t:=by simp[wt,hj,hjt]
  have huniq:∀m k,k<m→k≠j→wt all k≠some t:=by
   intro m k _ hkj he
   unfold wt at he
   cases hk:all[k]? with
   | none=>rw[hk] at he;cases he
   | some ok=>
    rw[hk] at he
    simp only[Option.bind_some] at he
    exact(hd.dst j k oj ok hj hk hkj t he).1 hjt
  rcases (hd.dst i j o oj hi hj hne t hjt).2 ht with ha|ha
  ·
   have hji:=qsp hd i j ha
   have hLj:L j=true:=by
    obtain⟨o',e,h1,h2,h3,h4⟩:=qoH all.toList i j ha
    have:o'=o:=by
     have h1':all[i]?=some o':=by simpa using h1
     rw[hi] at h1';exact(Option.some.inj h1').symm
    subst this
    have he:=hedge e h2 h3
    rcases h4 with rfl|h4
    ·exact he
    ·exact qly hd hc _ _ he h4
   rw[qes hLj hdj n (by omega) (huniq n),qes rfl hdj i hji (huniq i)]
  ·
   have hij:=qsp hd j i ha
   have hLj:L j=false:=by
    cases hLj:L j with
    | false=>rfl
    | true=>have:=qly hd hc _ _ hLj ha;rw[hL] at this;cases this
   have e1:(TLp (wt all) V T0 L n)[t]?=T0[t]?:=q7F n fun k hk hLk he=>by
    by_cases hkj:k=j
    ·subst hkj;rw[hLj] at hLk;cases hLk
    ·exact huniq n k hk hkj he
   have e2:(TLp (wt all) V T0 (fun _=>true) i)[t]?=T0[t]?:=q7F i fun k hk _ he=>by
    by_cases hkj:k=j
    ·omega
    ·exact huniq i k hk hkj he
   rw[e1,e2]
 ·have hno:∀k,k≠i→wt all k≠some t:=by
   intro k hki he
   unfold wt at he
   cases hk:all[k]? with
   | none=>rw[hk] at he;cases he
   | some ok=>
    rw[hk] at he
    exact hex ⟨k,ok,hk,hki,he⟩
  have e1:(TLp (wt all) V T0 L n)[t]?=T0[t]?:=q7F n fun k hk hLk=>hno k (fun e=>by subst e;rw[hL] at hLk;cases hLk)
  have e2:(TLp (wt all) V T0 (fun _=>true) i)[t]?=T0[t]?:=q7F i fun k hk _=>hno k (by omega)
  rw[e1,e2]
end
def unl(listed:Array Bool):Nat→Nat
 | 0=>0
 | m+1=>unl listed m+if listed.getD m false then 0 else 1
theorem qol{listed:Array Bool}:∀{m:Nat},unl listed m=0→∀i,i<m→listed.getD i false=true
 | 0,_,i,hi=>by omega
 | m+1,h,i,hi=>by
  simp only[unl] at h
  by_cases him:i=m
  ·subst him
   cases hl:listed.getD i false with
   | true=>rfl
   | false=>rw[hl] at h;simp at h
  ·exact qol (Nat.add_eq_zero_iff.1 h).1 i (by omega)
theorem ua{listed:Array Bool}{i j:Nat}(hi:i<listed.size):(listed.setIfInBounds i true).getD j false=if j=i then true else listed.getD j false:=by
 by_cases h:j=i
 ·subst h;simp[Array.getD_eq_getD_getElem?,hi]
 ·simp[Array.getD_eq_getD_getElem?,h,Array.getElem?_setIfInBounds_ne (Ne.symm h)]
theorem qr2{listed:Array Bool}{i:Nat}(hi:i<listed.size)(hl:listed.getD i false=false):∀m,(m≤i→unl (listed.setIfInBounds i true) m=unl listed m)∧(i<m→unl (listed.setIfInBounds i true) m+1=unl listed m)
 | 0=>⟨fun _=>rfl,fun h=>by omega⟩
 | m+1=>by
  obtain⟨h1,h2⟩:=qr2 hi hl m
  refine⟨fun h=>?_,fun h=>?_⟩
  ·simp only[unl]
   rw[h1 (by omega),ua hi,if_neg (show ¬m=i by omega)]
  ·simp only[unl]
   rw[ua hi]
   by_cases him:m=i
   ·subst him
    rw[h1 (Nat.le_refl _),if_pos rfl,hl];simp
   ·rw[if_neg him]
    have:=h2 (by omega)
    omega
end Go.Eng

namespace Go.Eng
def kp(h':List Blk):Tree Res→Tree Res→Prop
 | .leaf r,t'=>t'=.leaf (r.1,h',none)
 | .br b t e,.br b' t' e'=>b=b'∧kp h' t t'∧kp h' e e'
 | .fail,_=>True
 | .br _ _ _,_=>False
theorem kp.run{h':List Blk}:∀{t t':Tree Res} {r:Res},kp h' t t'→t.run=some r→t'.run=some (r.1,h',none)
 | .leaf _,t',_,hm,hr=>by cases hr;simp only[kp] at hm;subst hm;rfl
 | .fail,_,_,_,hr=>by cases hr
 | .br b t e,.br b' t' e',r,hm,hr=>by
  simp only[kp] at hm
  obtain⟨rfl,h1,h2⟩:=hm
  cases b<;>simp only[Tree.run] at hr ⊢
  ·exact kp.run h2 hr
  ·exact kp.run h1 hr
 | .br _ _ _,.leaf _,_,hm,_=>by cases hm
 | .br _ _ _,.fail,_,hm,_=>by cases hm
section
variable {h h':List Blk}
def Agr(h h':List Blk)(p:AV):Prop:=∀b,b∈p.men→h'[b]?=h[b]?
theorem ww(v:AV):kp h' (okv h v) (okv h' v):=rfl
theorem q02{b:Bool}{t t' e e':Tree Res}(h1:kp h' t t')(h2:kp h' e e'):kp h' (.br b t e) (.br b t' e'):=⟨rfl,h1,h2⟩
theorem zu{c:Prop}[Decidable c]{t t' e e':Tree Res}(h1:kp h' t t')(h2:kp h' e e'):kp h' (if c then t else e) (if c then t' else e'):=by
 split<;>assumption
theorem q8z(kk:IntKind)(f:Int→Int→Int)(l:Bool)(x y:Int):kp h' (q4R h kk f l x y) (q4R h' kk f l x y):=by
 unfold q4R;cases l<;>rfl
theorem qw6(f:Int→Int→Bool)(l:Bool)(x y:Int):kp h' (qti h f l x y) (qti h' f l x y):=by
 unfold qti;cases l<;>rfl
theorem qem{v:AV}(H:Agr h h' v):uL h' v=uL h v:=by
 cases v<;>first|rfl|skip
 rename_i b
 simp only[uL]
 rw[H b (by simp[AV.men])]
theorem qqg(E:Env)(t:TypeId)(p:AV)(H:Agr h h' p):kp h' (qcx E h t p) (qcx E h' t p):=by
 unfold qcx
 dsimp only
 refine zu trivial ?_
 cases p with
 | ptr b off=>
  simp only
  rw[H b (by simp[AV.men])]
  cases hb:h[b]? with
  | none=>trivial
  | some x=>
   cases x with
   | cells cs=>
    simp only
    refine zu (zu (ww _) trivial) ?_
    cases cs[off]?<;>first|trivial|rfl
   | _=>trivial
 | eptr sh l i off=>
  simp only
  refine zu ?_ ?_
  ·cases q89 sh l i off (E.ty t).size<;>first|trivial|rfl
  ·cases qcV sh l i off<;>first|trivial|rfl
 | vptr b i off=>
  simp only
  rw[qem (v:=.vec b) H]
  cases hb:uL h (.vec b) with
  | none=>trivial
  | some x=>
   obtain⟨sh,l⟩:=x
   simp only
   refine zu ?_ ?_
   ·cases q89 sh l i off (E.ty t).size<;>first|trivial|rfl
   ·cases qcV sh l i off<;>first|trivial|rfl
 | _=>trivial
theorem qtS(E:Env)(t:TypeId)(p:AV)(H:Agr h h' p):kp h' (q9W E h t p) (q9W E h' t p):=by
 cases p with
 | ptr b off=>
  have hm:=qqg E t (.ptr b off) H
  unfold q9W
  simp only
  rw[H b (by simp[AV.men])]
  cases hb:h[b]? with
  | none=>
   have:qcx E h t (.ptr b off)=.fail:=by unfold qcx;simp only[hb];split<;>rfl
   simp only[this];trivial
  | some x=>
   cases x with
   | big cs kk n l=>
    simp only
    unfold qvW
    refine zu trivial (zu (zu (ww _) trivial) ?_)
    cases cs[off]? with
    | none=>exact zu (ww _) trivial
    | some v=>exact ww _
   | _=>exact hm
 | aptr b o i=>
  unfold q9W
  simp only
  rw[H b (by simp[AV.men])]
  cases hb:h[b]? with
  | none=>trivial
  | some x=>
   cases x with
   | big cs kk n l=>exact zu (q02 (ww _) trivial) trivial
   | _=>trivial
 | _=>unfold q9W;exact qqg _ _ _ H
theorem qtd(E:Env)(t:TypeId)(ps:List (Nat×AV)):kp h' (qe7 E h t ps) (qe7 E h' t ps):=by
 unfold qe7
 refine zu trivial ?_
 cases (E.ty t).d with
 | struct fs=>
  simp only
  refine zu ?_ trivial
  cases qai (fun i=>(fs[i]?).map fun f=>(f.1,f.2.2)) ((E.ty t).zero.map vB) ps<;>first|trivial|rfl
 | array n e es=>
  simp only
  refine zu trivial ?_
  cases qai (fun i=>some (i*es,es)) ((E.ty t).zero.map vB) ps<;>first|trivial|rfl
 | _=>trivial
theorem qrX(E:Env)(t:TypeId)(ps:List (Nat×AV)):kp h' (q9F E h t ps) (q9F E h' t ps):=by
 unfold q9F
 cases qu9 E t with
 | none=>exact qtd _ _ _
 | some q=>
  obtain⟨o,kk,n⟩:=q
  simp only
  cases (E.ty t).d with
  | struct fs=>
   simp only
   refine zu ?_ trivial
   cases qai (fun i=>(fs[i]?).map fun f=>(f.1,f.2.2)) (((E.ty t).zero.take o).map vB) ps<;>first|trivial|rfl
  | _=>trivial
theorem qn5(E:Env)(s:TypeId)(x:AV)(f:Nat):kp h' (q1w E h s x f) (q1w E h' s x f):=by
 unfold q1w
 cases (E.ty s).d with
 | struct fs=>
  simp only
  cases fs[f]? with
  | none=>trivial
  | some o=>
   obtain⟨o,tt,sz⟩:=o
   simp only
   refine zu trivial ?_
   cases x<;>first|rfl|trivial
 | _=>trivial
theorem qph(E:Env)(t:TypeId)(cs:List AV)(o:Nat):kp h' (qfa E h t cs o) (qfa E h' t cs o):=by
 unfold qfa
 cases qeW E t cs o<;>first|rfl|trivial
theorem qth(E:Env)(s:TypeId)(x:AV)(f:Nat):kp h' (qdP E h s x f) (qdP E h' s x f):=by
 unfold qdP
 cases (E.ty s).d with
 | struct fs=>
  cases x with
  | agg cs=>
   simp only
   cases fs[f]? with
   | none=>trivial
   | some o=>exact qph _ _ _ _
  | _=>trivial
 | _=>trivial
theorem qds(i:Int)(f:Nat→AV):∀n,kp h' (qe5 h i f n) (qe5 h' i f n)
 | 0=>trivial
 | n+1=>⟨rfl,rfl,qds i f n⟩
theorem qmS(E:Env)(t:TypeId)(x i:AV)(H:Agr h h' x):kp h' (yi E h t x i) (yi E h' t x i):=by
 unfold yi
 cases (E.ty t).d with
 | slice e es=>
  cases x with
  | imm sh l=>
   cases asI i with
   | none=>trivial
   | some y=>exact zu (q02 (ww _) trivial) trivial
  | vec b=>
   cases asI i with
   | none=>trivial
   | some y=>
    simp only
    rw[qem (v:=.vec b) H]
    cases hb:uL h (.vec b) with
    | none=>trivial
    | some z=>exact zu (q02 (ww _) trivial) trivial
  | _=>trivial
 | array n e es=>
  cases x with
  | ptr b off=>
   simp only
   cases i with
   | ilit kk j=>exact zu (ww _) trivial
   | int kk j=>exact zu (qds _ _ _) trivial
   | _=>trivial
  | eptr sh l i0 off=>
   simp only
   cases i with
   | ilit kk j=>exact zu (ww _) trivial
   | int kk j=>exact zu (qds _ _ _) trivial
   | _=>trivial
  | _=>trivial
 | _=>trivial
theorem qmh(E:Env)(t:TypeId)(x i:AV)(H:Agr h h' x):kp h' (kS E h t x i) (kS E h' t x i):=by
 have hm:=qmS E t x i H
 unfold kS
 split
 ·split
  ·split
   ·split
    ·exact zu (q02 (ww _) trivial) trivial
    ·exact hm
   ·exact hm
  ·exact hm
 ·exact hm
theorem qtU(E:Env)(t:TypeId)(x i:AV):kp h' (qdS E h t x i) (qdS E h' t x i):=by
 unfold qdS
 cases (E.ty t).d with
 | array n e es=>
  cases x with
  | agg cs=>
   cases hi:asI i with
   | none=>trivial
   | some y=>
    cases i with
    | ilit kk j=>exact zu (qph _ _ _ _) trivial
    | int kk j=>
     simp only
     cases (E.ty e).d with
     | int k2=>
      simp only
      refine zu ?_ trivial
      cases qgR k2 cs with
      | none=>trivial
      | some l=>exact q02 (ww _) trivial
     | _=>trivial
    | _=>cases hi
  | _=>trivial
 | str=>
  cases x with
  | str s=>
   cases asI i with
   | none=>trivial
   | some y=>exact q02 (ww _) trivial
  | _=>trivial
 | _=>trivial
theorem qsh(d:TD)(op:BinOp)(x y:AV)(H:Agr h h' x):kp h' (qpo d h op x y) (qpo d h' op x y):=by
 unfold qpo
 cases hx:asI x with
 | some p=>
  obtain⟨kk,a⟩:=p
  cases hy:asI y with
  | some q=>
   obtain⟨kk',b⟩:=q
   simp only
   refine zu ?_ trivial
   cases op<;>simp only<;>first
    | exact q8z _ _ _ _ _
    | exact qw6 _ _ _ _
    | trivial
    | skip
   ·cases y<;>simp only<;>first|exact zu trivial (q8z _ _ _ _ _)|exact q02 (q8z _ _ _ _ _) trivial
   ·cases y<;>simp only<;>first|exact zu trivial (q8z _ _ _ _ _)|exact q02 (q8z _ _ _ _ _) trivial
  | none=>cases x<;>first|cases hx;done|(cases y<;>first|(cases hy;done)|trivial)
 | none=>
  simp only
  cases hbx:asB x with
  | some a=>
   cases hby:asB y with
   | some b=>simp only;cases d<;>simp only<;>first|trivial|(cases op<;>first|rfl|trivial)
   | none=>cases x<;>first|(cases hbx;done)|(cases y<;>first|(cases hby;done)|trivial)
  | none=>
   simp only
   cases x with
   | str a=>
    cases y with
    | str b=>cases op<;>first|rfl|trivial|exact q02 (ww _) trivial
    | _=>trivial
   | nilp=>
    cases y with
    | nilp=>cases d<;>first|trivial|(cases op<;>first|rfl|trivial)
    | _=>trivial
   | ptr b off=>
    cases y with
    | nilp=>
     cases d<;>first|trivial|skip
     simp only
     rw[H b (by simp[AV.men])]
     cases hb:h[b]? with
     | none=>trivial
     | some z=>cases z<;>first|trivial|(cases op<;>first|rfl|trivial)
    | _=>trivial
   | eptr sh l i o=>
    cases y with
    | nilp=>cases d<;>first|trivial|(cases op<;>first|rfl|trivial)
    | _=>trivial
   | imm sh l=>
    cases y with
    | nils=>cases d<;>first|trivial|(cases op<;>first|trivial|exact q02 (ww _) trivial)
    | _=>trivial
   | mptr c sh l i o=>
    cases y with
    | nilp=>cases d<;>first|trivial|(cases op<;>first|rfl|trivial)
    | _=>trivial
   | _=>trivial
theorem qtu(E:Env)(op:BinOp)(t:TypeId)(x y:AV)(H:Agr h h' x):kp h' (qg9 E h op t x y) (qg9 E h' op t x y):=by
 unfold qg9
 cases x with
 | agg xs=>
  cases y with
  | agg ys=>
   simp only
   unfold qkN
   cases eqT E 32 t (.agg xs) (.agg ys) with
   | none=>trivial
   | some r=>cases op<;>first|rfl|trivial
  | _=>exact qsh _ _ _ _ H
 | _=>exact qsh _ _ _ _ H
theorem qxQ(op:UnOp)(x:AV):kp h' (qxW h op x) (qxW h' op x):=by
 cases op<;>cases x<;>first|rfl|trivial
theorem qwf(E:Env)(s d:TypeId)(x:AV):kp h' (qjs E h s d x) (qjs E h' s d x):=by
 unfold qjs
 cases (E.ty s).d<;>cases (E.ty d).d<;>cases x<;>first|rfl|trivial
theorem qtr(E:Env)(s d:TypeId)(x:AV)(H:Agr h h' x):kp h' (qdE E h s d x) (qdE E h' s d x):=by
 unfold qdE
 cases (E.ty s).d with
 | slice e es=>
  simp only
  cases (E.ty d).d with
  | str=>
   simp only
   unfold qmg
   cases (E.ty e).d with
   | int kk=>
    cases kk<;>first|trivial|skip
    simp only
    rw[qem H]
    cases hr:uL h x with
    | none=>trivial
    | some q=>
     obtain⟨sh,l⟩:=q
     simp only
     split
     ·rfl
     ·trivial
   | _=>trivial
  | _=>trivial
 | _=>exact qwf _ _ _ _
theorem qx6(E:Env)(ts:List TypeId)(azz:List AV)(H:∀x,x∈azz→Agr h h' x):kp h' (qm2 E h ts azz) (qm2 E h' ts azz):=by
 unfold qm2
 cases ts with
 | nil=>trivial
 | cons t ts=>
  cases azz with
  | nil=>trivial
  | cons x azz=>
   cases azz with
   | cons _ _=>trivial
   | nil=>
    simp only
    unfold quF
    cases (E.ty t).d with
    | str=>cases x<;>first|rfl|trivial
    | array n e es=>rfl
    | slice e es=>
     cases x with
     | nils=>rfl
     | vec b=>
      simp only
      rw[qem (v:=.vec b) (H _ List.mem_cons_self)]
      cases hb:uL h (.vec b) with
      | none=>trivial
      | some z=>rfl
     | imm sh l=>rfl
     | _=>trivial
    | _=>cases x<;>trivial
theorem qyI(f:Int→Int→Int)(azz:List AV):kp h' (qof f h azz) (qof f h' azz):=by
 unfold qof
 cases azz with
 | nil=>trivial
 | cons x l=>
  simp only
  cases asI x with
  | none=>trivial
  | some p=>
   obtain⟨kk,n⟩:=p
   simp only
   cases qrB f kk n l with
   | none=>trivial
   | some m=>exact zu (ww _) (ww _)
theorem qtz{E:Env}{t:TypeId}(ht:(E.ty t).d=.str)(x:AV)(lo hi mx:Option AV):kp h' (qav E h t x lo hi mx) (qav E h' t x lo hi mx):=by
 unfold qav
 rw[ht]
 cases mx with
 | some _=>trivial
 | none=>
  cases x<;>first|trivial|skip
  rename_i s
  simp only
  cases qeH lo 0 with
  | none=>trivial
  | some l=>
   cases qeH hi (ql s) with
   | none=>trivial
   | some r=>exact q02 (q02 (ww _) trivial) trivial
theorem qs1{E:Env}{t:TypeId}(ht:(E.ty t).d=.str)(x:AV)(lo hi mx:Option AV):kp h' (yt E h t x lo hi mx) (yt E h' t x lo hi mx):=by
 unfold yt
 rw[ht]
 exact qtz ht _ _ _ _
theorem qrb{E:Env}{t:TypeId}{n:Nat}{e:TypeId}{es:Nat}(ht:(E.ty t).d=.array n e es)(x:AV)(lo hi mx:Option AV):kp h' (yt E h t x lo hi mx) (yt E h' t x lo hi mx):=by
 unfold yt
 rw[ht]
 simp only
 cases x<;>first|trivial|skip
 cases mx with
 | some _=>trivial
 | none=>
  simp only
  refine zu ?_ trivial
  unfold qwu
  split
  ·exact q02 (q02 (ww _) trivial) trivial
  ·trivial
theorem qqV{E:Env}{t:TypeId}{e:TypeId}{es:Nat}(ht:(E.ty t).d=.slice e es)(x:AV)(lo hi:Option AV){mx:Option AV}(hm:mx.isSome=true):kp h' (yt E h t x lo hi mx) (yt E h' t x lo hi mx):=by
 unfold yt
 rw[ht]
 simp only
 unfold qav
 cases mx with
 | none=>cases hm
 | some m=>
  simp only
  rw[ht]
  split
  ·split
   ·exact zu (q02 (q02 (q02 (ww _) trivial) trivial) trivial) trivial
   ·trivial
  ·trivial
theorem qvj{E:Env}{ev:Operand→AV}{op:Op}(hs:qac E op=true)(H:qwk op=true→∀x,x∈op.operands.toList→Agr h h' (ev x)):kp h' (qjy E h ev op) (qjy E h' ev op):=by
 unfold qjy
 cases op<;>simp only[qac] at hs<;>try (cases hs)
 case move=>exact ww _
 case assign=>exact ww _
 case pick c a b=>simp only;cases ev c<;>first|exact ww _|exact q02 (ww _) (ww _)|trivial
 case build=>exact qrX _ _ _
 case load x=>exact qtS _ _ _ (H rfl x (by simp[Op.operands]))
 case nilCheck x=>
  have H:=H rfl x (by simp[Op.operands])
  simp only
  cases hx:ev x with
  | ptr b o=>
   rw[hx] at H
   simp only
   rw[H b (by simp[AV.men])]
   cases hb:h[b]? with
   | none=>trivial
   | some z=>cases z<;>first|rfl|trivial
  | eptr sh l i o=>rfl
  | mptr c sh l i o=>exact q02 (ww _) trivial
  | _=>trivial
 case binOp op t x y r=>exact qtu _ _ _ _ _ (H rfl x (by simp[Op.operands]))
 case unOp=>exact qxQ _ _
 case convert s d x=>exact qtr _ _ _ _ (H rfl x (by simp[Op.operands]))
 case makeFunc fn _ _=>cases fn<;>first|rfl|trivial
 case slice t x lo hi mx=>
  split at hs
  ·rename_i ht;exact qs1 ht _ _ _ _
  ·rename_i ht;exact qrb ht _ _ _ _
  ·rename_i ht;exact qqV ht _ _ _ (by simpa using hs)
  ·cases hs
 case fieldAddr=>exact qn5 _ _ _ _
 case field=>exact qth _ _ _ _
 case indexAddr t x i=>exact qmh _ _ _ _ (H rfl x (by simp[Op.operands]))
 case index=>exact qtU _ _ _ _
 case extract x i=>
  simp only
  cases ev x with
  | tuple vs=>simp only;cases vs[i]?<;>first|rfl|trivial
  | _=>trivial
 case call c=>
  obtain⟨callee,args,tys⟩:=c
  cases callee with
  | builtin b=>
   cases b<;>first|exact qx6 _ _ _ (fun x hx=>by obtain⟨y,hy,rfl⟩:=List.mem_map.1 hx;exact H rfl y (by simpa[Op.operands,Call.operands] using hy))|exact qyI _ _|(cases hs;done)
  | value x=>simp only at hs;cases hs
  | invoke x n=>simp only at hs;cases hs
end
mutual
theorem qvp{h h':List Blk}:∀(a:AV),Agr h h' a→a.lend h'=a.lend h
 | .vec b,H=>by simp only[AV.lend];rw[H b (by simp[AV.men])]
 | .agg cs,H=>by simp only[AV.lend];rw[qaI cs H]
 | .tuple cs,H=>by simp only[AV.lend];rw[qaI cs H]
 | .undef,_|.yld,_|.skip,_|.blit _,_|.bool _,_|.ilit _ _,_|.int _ _,_|.str _,_|.nilp,_|.ptr _ _,_|.eptr _ _ _ _,_|.mptr _ _ _ _ _,_|.vptr _ _ _,_|.vsub _ _,_|.aptr _ _ _,_|.asub _ _ _ _ _,_|.bagg _ _ _ _,_|.nils,_|.imm _ _,_|.full _ _,_|.nilf,_|.fn _ _ _,_=>rfl
theorem qaI{h h':List Blk}:∀(l:List AV),(∀b,b∈AV.menL l→h'[b]?=h[b]?)→AV.lendL h' l=AV.lendL h l
 | [],_=>rfl
 | a::l,H=>by
  simp only[AV.lendL]
  rw[qvp a fun b hb=>H b (by simp only[AV.menL];exact List.mem_append_left _ hb),qaI l fun b hb=>H b (by simp only[AV.menL];exact List.mem_append_right _ hb)]
end
theorem qic:∀(a:AV) (b:Nat),b∈jx a→b∈a.men:=by
 intro a b hb
 cases a<;>simp only[jx] at hb<;>first|(cases hb;done)|skip
 case vec c=>simpa[AV.men] using hb
 case agg cs=>
  simp only[AV.men]
  induction cs with
  | nil=>cases hb
  | cons c cs ih=>
   simp only[AV.menL]
   simp only[List.filterMap_cons] at hb
   cases c<;>simp only at hb<;>first|exact List.mem_append_right _ (ih hb)|skip
   rcases List.mem_cons.1 hb with rfl|hb
   ·exact List.mem_append_left _ (by simp[AV.men])
   ·exact List.mem_append_right _ (ih hb)
theorem qk9{l:List AV}{a:AV}{b:Nat}(ha:a∈l)(hb:b∈a.men):b∈AV.menL l:=by
 induction l with
 | nil=>cases ha
 | cons c l ih=>
  simp only[AV.menL]
  rcases List.mem_cons.1 ha with rfl|ha
  ·exact List.mem_append_left _ hb
  ·exact List.mem_append_right _ (ih ha)
theorem qlH{E:Env}{h h':List Blk}{f:FuncId}{args:List AV}(H:∀b,b∈AV.menL args→h'[b]?=h[b]?):q7M E h' f args=q7M E h f args:=by
 unfold q7M
 cases hf:E.spec.find? fun x=>x.1==f with
 | none=>rfl
 | some G=>
  simp only
  have e1:(args.flatMap jx).all (qoe h')=(args.flatMap jx).all (qoe h):=by
   have:∀b,b∈args.flatMap jx→qoe h' b=qoe h b:=by
    intro b hb
    obtain⟨a,ha,hb⟩:=List.mem_flatMap.1 hb
    unfold qoe
    rw[H b (qk9 ha (qic a b hb))]
   generalize args.flatMap jx=l at this
   induction l with
   | nil=>rfl
   | cons b l ih=>simp only[List.all_cons];rw[this b List.mem_cons_self,ih fun b hb=>this b (List.mem_cons_of_mem _ hb)]
  rw[e1,qaI args H]
theorem q5J(E:Env):q8k E (q5S E):=by
 intro h h' f args hs H
 unfold q5S
 unfold qfd at hs
 cases hf:E.spec.find? fun x=>x.1==f with
 | none=>rw[hf] at hs;cases hs
 | some G=>simp only;exact qlH H
theorem qpU(E:Env):q8k E qod:=fun _ _ _ _ _ _=>rfl
theorem qjl{E:Env}{callS:List Blk→q8U}(hm:q8k E callS){h h':List Blk}{ev:Operand→AV}{op:Op}{v:AV}{R:List Nat}(hR:qxO E ev op=some R)(H:∀b,b∈R→h'[b]?=h[b]?)
  (hr:(q8K E (callS h) h ev op).run=some v):(q8K E (callS h') h' ev op).run=some v:=by
 unfold q8K at hr ⊢
 split at hr
 ·rename_i x args tys
  cases hx:ev x with
  | fn f first caps=>
   rw[hx] at hr
   unfold qxO at hR
   simp only[qii,uP,hx] at hR
   cases hf:qfd E f with
   | none=>rw[hf] at hR;cases hR
   | some G=>
    rw[hf] at hR
    simp only[Option.some.injEq] at hR
    subst hR
    simp only
    rw[hm h h' f _ (by rw[hf];rfl) H]
    exact hr
  | _=>rw[hx] at hr;cases hr
 ·rename_i hno
  split at hr
  ·rename_i hst
   rw[if_pos hst]
   obtain⟨r,h1,h2⟩:=bind_some hr
   cases h2
   have hR':qwk op=true→R=AV.menL (op.operands.toList.map ev):=by
    intro hlk
    unfold qxO at hR
    have:qii op=false:=by
     unfold qii
     split
     ·rename_i x args tys;exact absurd rfl (hno x args tys)
     ·rfl
    rw[this,hlk] at hR
    simpa using hR.symm
   rw[Tree.run_bind,kp.run (qvj (h':=h') hst fun hlk x hx b hb=>H b (by rw[hR' hlk];exact qk9 (List.mem_map_of_mem hx) hb)) h1]
   rfl
  ·cases hr
section
variable {h:List Blk}
theorem qdi:∀(cs:List AV),cs.all que=true→q86 h cs=h
 | [],_=>rfl
 | c::cs,hc=>by
  simp only[List.all_cons,Bool.and_eq_true] at hc
  cases c<;>first|(simp only[q86];exact qdi cs hc.2)|(cases hc.1)
theorem qqI{E:Env}{t:TypeId}{z:Blk}(hz:q1M E t=some z):z.isFrzB=false:=by
 unfold q1M at hz
 split at hz<;>split at hz<;>cases hz<;>rfl
theorem qu0{x:AV}{z:Blk}(hz:qjB x=some z):z.isFrzB=false:=by
 unfold qjB at hz
 split at hz<;>split at hz<;>cases hz<;>rfl
theorem qwd{E:Env}{ev:Operand→AV}{op:Op}{v:AV}{z:Blk}(hr:(qgS E h ev op).run=some (v,z)):(qjy E h ev op).run=some (v,h++[z],none)∧z.isFrzB=false∧(∀b,v≠.bool b):=by
 unfold qgS at hr
 cases op<;>simp only at hr<;>first|(cases hr;done)|skip
 case alloc t=>
  unfold qli at hr
  cases hz:q1M E t with
  | none=>rw[hz] at hr;cases hr
  | some y=>
   rw[hz] at hr
   cases hr
   refine⟨?_,qqI hz,fun b hb=>by cases hb⟩
   unfold qjy
   simp only
   rw[hz];rfl
 case box t x=>
  unfold qli at hr
  cases hz:qjB (ev x) with
  | none=>rw[hz] at hr;cases hr
  | some y=>
   rw[hz] at hr
   cases hr
   refine⟨?_,qu0 hz,fun b hb=>by cases hb⟩
   unfold qjy
   simp only
   rw[hz];rfl
 case buildSlice t len parts=>
  unfold qjy
  simp only
  unfold q68
  cases hd:(E.ty t).d<;>rw[hd] at hr<;>simp only at hr ⊢<;>first|(cases hr;done)|skip
  rename_i e es
  split at hr
  ·rename_i hc
   rw[if_pos hc]
   cases hf:qai (fun i=>some (i*es,es)) ((List.replicate len ((E.ty e).zero.map vB)).flatten) (parts.toList.map fun p=>(p.1,ev p.2)) with
   | none=>rw[hf] at hr;cases hr
   | some cs=>
    cases hs:E.shape 16 e with
    | none=>rw[hf,hs] at hr;cases hr
    | some sh=>
     rw[hf,hs] at hr
     simp only at hr ⊢
     split at hr
     ·rename_i hl
      rw[if_pos hl.1]
      cases hch:qe9 h sh len cs with
      | none=>rw[hch] at hr;cases hr
      | some l=>
       rw[hch] at hr
       cases hr
       exact⟨by simp only[qdi cs hl.2];rfl,rfl,fun b hb=>by cases hb⟩
     ·cases hr
  ·cases hr
theorem qpF{E:Env}{f g:Operand→AV}{op:Op}(hfg:∀x∈op.operands.toList,f x=g x):qgS E h f op=qgS E h g op:=by
 unfold qgS
 cases op<;>simp only
 case box t x=>rw[hfg x (by simp[Op.operands])]
 case buildSlice t len ps=>
  have:(ps.toList.map fun p=>(p.1,f p.2))=ps.toList.map fun p=>(p.1,g p.2):=List.map_congr_left fun p hp=>by
   rw[hfg p.2 (by simp only[Op.operands];exact List.mem_map_of_mem hp)]
  rw[this]
end
end Go.Eng

namespace Go.Eng
mutual
theorem AV.ren_void{s:Nat}:∀av:AV,s∉av.men→av.ren (qiZ s)=av
 | .undef,_|.skip,_|.yld,_|.blit _,_|.bool _,_|.ilit _ _,_|.int _ _,_|.str _,_|.nilp,_|.eptr _ _ _ _,_|.mptr _ _ _ _ _,_|.nils,_|.imm _ _,_|.full _ _,_|.nilf,_=>rfl
 | .ptr b _,h=>by simp only[AV.men,List.mem_singleton] at h;simp[AV.ren,qiZ,Ne.symm h]
 | .vptr b _ _,h=>by simp only[AV.men,List.mem_singleton] at h;simp[AV.ren,qiZ,Ne.symm h]
 | .vsub b _,h=>by simp only[AV.men,List.mem_singleton] at h;simp[AV.ren,qiZ,Ne.symm h]
 | .aptr b _ _,h=>by simp only[AV.men,List.mem_singleton] at h;simp[AV.ren,qiZ,Ne.symm h]
 | .asub b _ _ _ _,h=>by simp only[AV.men,List.mem_singleton] at h;simp[AV.ren,qiZ,Ne.symm h]
 | .vec b,h=>by simp only[AV.men,List.mem_singleton] at h;simp[AV.ren,qiZ,Ne.symm h]
 | .fn g first caps,h=>by
  simp only[AV.men,List.mem_append,not_or] at h
  simp[AV.ren,AV.renL_void first h.1,AV.renL_void caps h.2]
 | .agg cs,h=>by simp only[AV.men] at h;simp[AV.ren,AV.renL_void cs h]
 | .tuple cs,h=>by simp only[AV.men] at h;simp[AV.ren,AV.renL_void cs h]
 | .bagg cs k n l,h=>by simp only[AV.men] at h;simp[AV.ren,AV.renL_void cs h]
theorem AV.renL_void{s:Nat}:∀l:List AV,s∉AV.menL l→AV.renL (qiZ s) l=l
 | [],_=>rfl
 | a::l,h=>by
  simp only[AV.menL,List.mem_append,not_or] at h
  simp[AV.renL,AV.ren_void a h.1,AV.renL_void l h.2]
end
theorem Blk.ren_void{s:Nat}(k:Blk)(h:s∉k.menB):k.ren (qiZ s)=k:=by
 cases k<;>simp only[Blk.menB,Blk.ren] at h ⊢<;>rw[AV.renL_void _ h]
theorem qnq{s:Nat}:∀l:List (List AV),s∉qq9 l→l.map (AV.renL (qiZ s))=l
 | [],_=>rfl
 | a::l,h=>by
  simp only[qq9,List.mem_append,not_or] at h
  simp only[List.map_cons,AV.renL_void a h.1,qnq l h.2]
theorem qxn{s b:Nat}{k:Blk}:∀{h:List Blk},s∉qgY h→h[b]?=some k→s∉k.menB:=by
 intro h
 induction h generalizing b with
 | nil=>intro _ hb;simp at hb
 | cons a h ih=>
  intro hs hb
  simp only[qgY,List.mem_append,not_or] at hs
  cases b with
  | zero=>simp only[List.getElem?_cons_zero,Option.some.injEq] at hb;subst hb;exact hs.1
  | succ b=>exact ih hs.2 (by simpa using hb)
def Ctx.slot(X:Ctx)(s:Nat)(z:Blk)(o:Obj):Ctx:=
 { σ:=fun b=>if b=s then some X.w.heap.size else X.σ b,h:=X.h.set s z,w:=X.w.alloc o,M:=X.M,kept:=X.kept,y:=X.y }
theorem qkM{B:Base}{X:Ctx}(hs:HSim B X){s:Nat}{z:Blk}{o:Obj}:Move X (X.slot s z o) (qiZ s):=by
 refine Move.of (fun _ h=>h) (fun a ha=>World.cell?_of_block (zI _ _ (hs.ltM _ ha))) (fun b b' hb h=>?_)
 unfold qiZ at h
 split at h
 ·cases h
 ·rename_i hne
  cases h
  refine⟨by simpa[Ctx.slot] using hb,by simp[Ctx.slot,hne],fun sh m ⟨e,l,h1,h2⟩=>⟨e,l,?_,h2⟩,fun _ _ _ n hn c T fr hc=>⟨c,T,fr,?_,rfl⟩⟩
  ·have e1:(X.slot s z o).h[b]?=X.h[b]?:=List.getElem?_set_ne (fun e=>hne e.symm)
   rw[e1] at h1;exact h1
  ·exact(zI _ _ (Array.getElem?_eq_some_iff.1 hc).1).trans hc
theorem qqc{B:Base}{X:Ctx}(hs:HSim B X){s:Nat}{z:Blk}{o:Obj}(hd:X.h[s]?=some .dead)(hmen:s∉qgY X.h)(hz:yl (X.slot s z o) s z):HSim B (X.slot s z o):=by
 have hm:=qkM hs (s:=s) (z:=z) (o:=o)
 have hsl:=qw hd
 have himp:B.imps.length≤s:=by
  rcases Nat.lt_or_ge s B.imps.length with h|h
  ·obtain⟨k,h1,h2⟩:=hs.impc s h
   rw[hd] at h1;cases h1;cases h2
  ·exact h
 have hget:∀b k',(X.slot s z o).h[b]?=some k'→b≠s∧X.h[b]?=some k'∨b=s∧k'=z:=by
  intro b k' h
  by_cases hb:b=s
  ·subst hb
   have:(X.h.set b z)[b]?=some k':=h
   rw[List.getElem?_set_self hsl] at this
   exact .inr ⟨rfl,(Option.some.inj this).symm⟩
  ·have:(X.h.set s z)[b]?=some k':=h
   rw[List.getElem?_set_ne (fun e=>hb e.symm)] at this
   exact .inl ⟨hb,this⟩
 have hσ:∀b,b≠s→(X.slot s z o).σ b=X.σ b:=fun b hb=>by simp[Ctx.slot,hb]
 have hσn:(X.slot s z o).σ s=some X.w.heap.size:=by simp[Ctx.slot]
 have hold:∀n,n<X.w.heap.size→(X.slot s z o).w.heap[n]?=X.w.heap[n]?:=fun n hn=>zI _ _ hn
 have hsize:X.w.heap.size≤(X.slot s z o).w.heap.size:=by
  show _≤(X.w.alloc o).heap.size
  simp
 have hown:∀b n,(X.slot s z o).own b n→X.own b n∨b=s∧n=X.w.heap.size:=by
  intro b n ⟨h1,k',h2,h3⟩
  rcases hget b k' h2 with⟨hb,h4⟩|⟨rfl,rfl⟩
  ·exact .inl ⟨by rw[←hσ b hb];exact h1,k',h4,h3⟩
  ·rw[hσn] at h1;exact .inr ⟨rfl,(Option.some.inj h1).symm⟩
 constructor
 ·intro b k' h
  rcases hget b k' h with⟨hb,h4⟩|⟨rfl,rfl⟩
  ·by_cases hdd:k'=.dead
   ·subst hdd;trivial
   ·have:=yl.move hm.toMove0 (b':=b) (hσ b hb) (fun n hn=>hold n (hs.lt h4 hdd hn)) (hs.blk b k' h4)
    rwa [Blk.ren_void k' (qxn hmen h4)] at this
  ·exact hz
 ·intro b b' n h h'
  rcases hown b n h with h1|⟨g1,g2⟩
  ·rcases hown b' n h' with h2|⟨g3,g4⟩
   ·exact hs.inj b b' n h1 h2
   ·exact absurd (Ctx.own.lt hs h1) (by omega)
  ·rcases hown b' _ h' with h2|⟨g3,_⟩
   ·exact absurd (Ctx.own.lt hs h2) (by omega)
   ·rw[g1,g3]
 ·intro b n h hM
  rcases hown b n h with h1|⟨g1,g2⟩
  ·exact hs.notM b n h1 hM
  ·exact absurd (hs.ltM _ hM) (by omega)
 ·intro n h
  have:=hs.ltM n h
  omega
 ·exact hs.M0
 ·exact hs.newM
 ·exact hs.os
 ·exact hs.tape
 ·exact hs.output
 ·have:=hs.size;omega
 ·intro n hn hni
  have:=hs.size
  rw[hold _ (by omega)]
  exact hs.frame n hn hni
 ·intro b hb
  rw[hσ b (by omega)];exact hs.imps b hb
 ·intro b hb
  obtain⟨cs,h,hc⟩:=hs.impc b hb
  exact⟨cs,by show (X.h.set s z)[b]?=_;rw[List.getElem?_set_ne (by omega)];exact h,hc⟩
 ·intro b n h hb
  rcases hown b n h with h1|⟨g1,g2⟩
  ·exact hs.fresh b n h1 hb
  ·have:=hs.size;omega
 ·intro p hp
  obtain⟨q1,q2,q3⟩:=hs.kept p hp
  exact⟨(hold _ (Array.getElem?_eq_some_iff.1 q1).1).trans q1,q2,q3⟩
theorem qt1{E:Env}{P:Program}(hE:E.tok P){B:Base}{X:Ctx}(hs:HSim B X){t:TypeId}{z:Blk}(hz:q1M E t=some z){s:Nat}(hd:X.h[s]?=some .dead)(hmen:s∉qgY X.h) :
  ∃o:Obj,((do pure (.value (←Instr.alloc t true (.tuple #[]))):Sem Next)).run P X.w=.ok (.value (.pointer (some ⟨X.w.heap.size,0,none⟩))) (X.w.alloc o)∧HSim B (X.slot s z o)∧Move X (X.slot s z o) (qiZ s) ∧
   Rep (X.slot s z o) (.ptr s 0) (.pointer (some ⟨X.w.heap.size,0,none⟩)):=by
 have hsl:=qw hd
 have hptr:∀o,Rep (X.slot s z o) (.ptr s 0) (.pointer (some ⟨X.w.heap.size,0,none⟩)):=fun o=>.ptr _ _ _ (by simpa[Ctx.slot] using hsl) (by simp[Ctx.slot])
 unfold q1M at hz
 split at hz
 ·rename_i o k n hb
  split at hz
  ·cases hz
   obtain⟨b1,b2,b3,b4,_⟩:=qer hb
   obtain⟨v,h1,h2,_⟩:=qce hE (t:=t) (by omega) X.w
   refine⟨.cells v.cells t,by simp[Instr.alloc,h1,q7K],qqc hs hd hmen ?_,qkM hs,hptr _⟩
   exact⟨X.w.heap.size,v.cells,t,(E.ty t).zero.take o,by simp[Ctx.slot],zM _ _,j6 _ _,by rw[h2];exact qim hb,qlu _ _⟩
  ·cases hz
 ·split at hz
  ·rename_i hc
   cases hz
   obtain⟨v,h1,h2,_⟩:=qce hE (t:=t) (by simpa using hc.2) X.w
   refine⟨.cells v.cells t,by simp[Instr.alloc,h1,q7K],qqc hs hd hmen ?_,qkM hs,hptr _⟩
   exact⟨X.w.heap.size,v.cells,t,by simp[Ctx.slot],zM _ _,by rw[h2];exact j6 _ _⟩
  ·cases hz
theorem qnX{E:Env}{P:Program}(hE:E.tok P){B:Base}{X:Ctx}{st:St}{a:Act}(hs:Sim E B X st a){o:Oper}{t:TypeId}(hop:o.op=.alloc t){z:Blk}(hz:q1M E t=some z){s:Nat}(hd:st.h[s]?=some .dead)
  (hmen:s∉qgY st.h) (ht:s∉AV.menL st.t) (hf:s∉qq9 st.fs) {next:Act→World→Prop} {Q:Exit→Act→World→Prop}
  (hq:∀X' v,Sim E B X' { st with h:=st.h.set s z } a→Rep X' (.ptr s 0) v→next (a.put o.dst v) X'.w):o.wp P a X.w next Q:=by
 rw[←hs.h] at hd hmen
 obtain⟨ob,h1,h2,h3,h4⟩:=qt1 hE hs.hs hz hd hmen
 unfold Oper.wp
 have hrun:(execOp a.eval o).run P X.w=.ok (.value (.pointer (some ⟨X.w.heap.size,0,none⟩))) (X.w.alloc ob):=by
  rw[←h1]
  simp only[execOp,hop]
 rw[hrun]
 refine hq (X.slot s z ob) _ ⟨h2,?_,?_,?_,fun x hx=>?_,h3.kept▸hs.df,hs.ni,h3.y.trans hs.y,fun p hp=>h3.kept▸hs.pin p hp⟩ h4
 ·show X.h.set s z=st.h.set s z
  rw[hs.h]
 ·have:=hs.t.ren h3.toMove0
  rwa [AV.renL_void _ ht] at this
 ·have:=hs.fs.ren h3.toMove0
  rwa [qnq _ hf] at this
 ·obtain⟨⟨sh,l,i,off,he⟩,hr⟩:=hs.glob x hx
  refine⟨⟨sh,l,i,off,he⟩,hr.move h3.M h3.w ?_⟩
  have:=hr.1.ren h3.toMove0
  rw[he] at this ⊢
  exact this
theorem Sim.pad{E:Env}{B:Base}{X:Ctx}{st:St}{a:Act}(hs:Sim E B X st a):∃X',X'.w=X.w∧Sim E B X' { st with h:=st.h++[.dead] } a:=by
 have hw:=PushW.same X
 have hs1:=HSim.push hs.hs (k:=.dead) hw trivial
 have:=hs.ext (Ctx.push_ext hs.hs .dead hw) hs1
 refine⟨X.pushW .dead none X.w,rfl,?_⟩
 have e:(X.pushW .dead none X.w).h=st.h++[.dead]:=by rw[←hs.h];rfl
 rw[e] at this
 exact this
theorem Sim.padN{E:Env}{B:Base}{a:Act}:∀(n:Nat) {X:Ctx} {st:St},Sim E B X st a→∃X',X'.w=X.w∧Sim E B X' { st with h:=st.h++List.replicate n .dead } a
 | 0,X,st,hs=>⟨X,rfl,by simpa using hs⟩
 | n+1,X,st,hs=>by
  obtain⟨X1,h1,h2⟩:=hs.pad
  obtain⟨X2,h3,h4⟩:=Sim.padN n h2
  refine⟨X2,h3.trans h1,?_⟩
  have e:st.h++[.dead]++List.replicate n .dead=st.h++List.replicate (n+1) .dead:=by simp[List.replicate_succ]
  simp only at h4
  rw[e] at h4
  exact h4
end Go.Eng

namespace Go.Eng
theorem stL{all:Array Oper}{V:Nat→AV}{T0:List AV}{L L':Nat→Bool}:∀n,(∀j,j<n→L j=L' j)→TLp (wt all) V T0 L n=TLp (wt all) V T0 L' n
 | 0,_=>rfl
 | n+1,h=>by
  simp only[TLp]
  rw[h n (Nat.lt_succ_self n),stL n fun j hj=>h j (by omega)]
theorem qpB{all:Array Oper}(hd:DrawOk all){listed:Array Bool}(hsz:listed.size=all.size)(h:Region.ready .any all listed=[]):∀i,i<all.size→listed.getD i false=true:=by
 intro i
 induction i using Nat.strongRecOn with
 | _ i ih=>
  intro hi
  cases hl:listed.getD i false with
  | true=>rfl
  | false=>
   have ho:all[i]?=some all[i]:=Array.getElem?_eq_getElem hi
   have:i∈Region.ready .any all listed:=by
    rw[mem_ready]
    refine⟨?_,all[i],ho,fun e he hb=>?_⟩
    ·have hi':i<listed.size:=by omega
     simpa[Array.getD_eq_getD_getElem?,hi'] using hl
    ·have hlt:=hd.edge i _ ho e (by simpa using he) hb
     exact ih e.on hlt (by omega)
   rw[h] at this;cases this
theorem qiL{all:Array Oper}{listed:Array Bool}{i:Nat}{o:Oper}(hsz:listed.size=all.size)(ho:all[i]?=some o)(hc:qf6 all fun j=>listed.getD j false)
  (hedge:∀e,e∈o.after.toList→Region.binds .any e=true→listed.getD e.on false=true):qf6 all fun j=>(listed.setIfInBounds i true).getD j false:=by
 have hi:i<listed.size:=by rw[hsz];exact(Array.getElem?_eq_some_iff.1 ho).1
 intro j oj hj hL e he hb
 show (listed.setIfInBounds i true).getD e.on false=true
 rw[ua hi]
 split
 ·rfl
 ·by_cases hji:j=i
  ·subst hji
   rw[ho] at hj;cases hj
   exact hedge e he hb
  ·have hL':(listed.setIfInBounds i true).getD j false=true:=hL
   rw[ua hi,if_neg hji] at hL'
   exact hc j oj hj hL' e he hb
theorem qtP{h:List Blk}{b c:Nat}(hb:b≠c):(vG h c)[b]?=h[b]?:=by
 unfold vG
 split
 ·rw[List.getElem?_set_ne (fun e=>hb e.symm)]
 ·rfl
theorem qgx{b:Nat}:∀(l:List Nat) (h:List Blk),b∉l→(zn h l)[b]?=h[b]?
 | [],_,_=>rfl
 | c::l,h,hb=>by
  simp only[List.mem_cons,not_or] at hb
  simp only[zn]
  rw[qgx l _ hb.2,qtP hb.1]
theorem qiE{b:Nat}:∀(l:List Nat) (h:List Blk),b∉l→(qfq h l)[b]?=h[b]?
 | [],_,_=>rfl
 | c::l,h,hb=>by
  simp only[List.mem_cons,not_or] at hb
  simp only[qfq]
  split
  ·rw[qiE l _ hb.2,List.getElem?_set_ne (fun e=>hb.1 e.symm)]
  ·exact qiE l _ hb.2
theorem qmf{b:Nat}:∀(l:List Nat) (h:List Blk) (ks:List Blk) (h':List Blk),jE h l ks=some h'→b∉l→h'[b]?=h[b]?
 | [],h,ks,h',hp,_=>by cases ks<;>(simp only[jE,Option.some.injEq] at hp;rw[hp])
 | c::l,h,[],h',hp,_=>by simp[jE] at hp
 | c::l,h,k::ks,h',hp,hb=>by
  simp only[List.mem_cons,not_or] at hb
  simp only[jE] at hp
  split at hp
  ·cases hq:jE h l ks with
   | none=>rw[hq] at hp;cases hp
   | some h2=>
    rw[hq] at hp
    simp only[Option.map_some,Option.some.injEq] at hp
    rw[←hp,List.getElem?_set_ne (fun e=>hb.1 e.symm)]
    exact qmf l h ks h2 hq hb.2
  ·cases hp
theorem qez{b:Nat}:∀(l:List Nat),b∈qhm l→b∈l
 | [],h=>h
 | a::l,h=>by
  simp only[qhm] at h
  split at h
  ·exact List.mem_cons_of_mem _ (qez l h)
  ·rcases List.mem_cons.1 h with rfl|h
   ·exact List.mem_cons_self
   ·exact List.mem_cons_of_mem _ (qez l h)
mutual
theorem qwO:∀(a:AV) (h h':List Blk),(a.lend h).men=(a.lend h').men
 | .vec b,h,h'=>by
  have:∀h,((AV.vec b).lend h).men=[]:=fun h=>by
   simp only[AV.lend]
   split<;>rfl
  rw[this,this]
 | .agg cs,h,h'=>by simp only[AV.lend,AV.men];exact qhF cs h h'
 | .tuple cs,h,h'=>by simp only[AV.lend,AV.men];exact qhF cs h h'
 | .undef,_,_|.yld,_,_|.skip,_,_|.blit _,_,_|.bool _,_,_|.ilit _ _,_,_|.int _ _,_,_|.str _,_,_|.nilp,_,_|.ptr _ _,_,_|.eptr _ _ _ _,_,_|.mptr _ _ _ _ _,_,_|.vptr _ _ _,_,_|.vsub _ _,_,_|.aptr _ _ _,_,_|.asub _ _ _ _ _,_,_|.bagg _ _ _ _,_,_|.nils,_,_|.imm _ _,_,_|.full _ _,_,_|.nilf,_,_|.fn _ _ _,_,_=>rfl
theorem qhF:∀(l:List AV) (h h':List Blk),AV.menL (AV.lendL h l)=AV.menL (AV.lendL h' l)
 | [],_,_=>rfl
 | a::l,h,h'=>by simp only[AV.lendL,AV.menL];rw[qwO a h h',qhF l h h']
end
theorem qmE{G:q0c}{args:List AV}{st:St}{r:AV×St}(h:(q1L G args st).run=some r){b:Nat}(hb:b<st.h.length)(hw:b∉qvI st.h args):r.2.h[b]?=st.h[b]?:=by
 unfold q1L at h
 unfold qvI at hw
 simp only[List.mem_append,not_or] at hw
 obtain⟨⟨w1,w2⟩,w3⟩:=hw
 have hpre:(q4q st.h args)[b]?=st.h[b]?:=by
  unfold q4q
  simp only
  rw[qiE _ _ w3,qgx _ _ w2,qgx _ _ w1]
 simp only at h
 split at h
 ·cases h
 ·obtain⟨r0,h1,h2⟩:=bind_some h
  split at h2
  ·cases h2
  ·rename_i hput
   cases h2
   have hfp:b∉qhm (AV.menL (AV.lendL (q4q st.h args) args)):=by
    intro hm
    have hm:=qez _ hm
    rw[qhF args (q4q st.h args) (zn st.h (args.flatMap jx))] at hm
    exact w3 hm
   have:=qmf _ _ _ _ hput hfp
   rw[hpre] at this
   have hl:st.h[b]?=some st.h[b]:=List.getElem?_eq_getElem hb
   rw[hl] at this
   rw[List.getElem?_append_left (qw this),this,hl]
theorem qkv{E:Env}{h:List Blk}{t:TypeId}{p v:AV}{r:Res}(hr:(qbn E h t p v).run=some r){b:Nat}(hb:b∉p.men):r.2.1[b]?=h[b]?:=by
 unfold qbn at hr
 simp only at hr
 split at hr
 ·cases p<;>simp only at hr<;>first|(cases hr;done)|skip
  case ptr b' off=>
   have hne:b'≠b:=fun e=>hb (by simp[AV.men,e])
   split at hr
   ·split at hr
    ·cases hr;exact List.getElem?_set_ne hne
    ·cases hr
   ·cases hr
  case vptr b' i off=>
   have hne:b'≠b:=fun e=>hb (by simp[AV.men,e])
   split at hr
   ·split at hr
    ·split at hr
     ·cases hr;exact List.getElem?_set_ne hne
     ·cases hr
    ·cases hr
   ·cases hr
 ·cases hr
theorem qqP{E:Env}{h:List Blk}{t:TypeId}{p v:AV}{r:Res}(hr:(q72 E h t p v).run=some r){b:Nat}(hb:b∉p.men):r.2.1[b]?=h[b]?:=by
 unfold q72 at hr
 split at hr
 ·rename_i b' off
  have hne:b'≠b:=fun e=>hb (by simp[AV.men,e])
  split at hr
  ·unfold quz at hr
   split at hr
   ·split at hr
    ·cases hr;exact List.getElem?_set_ne hne
    ·cases hr
   ·split at hr
    ·split at hr
     ·cases hr;exact List.getElem?_set_ne hne
     ·split at hr
      ·split at hr<;>first|(cases hr;done)|skip
       all_goals (try (cases hr;exact List.getElem?_set_ne hne))
      ·cases hr
    ·cases hr
  ·exact qkv hr hb
 ·rename_i b' o i
  have hne:b'≠b:=fun e=>hb (by simp[AV.men,e])
  split at hr
  ·split at hr
   ·split at hr
    ·simp only[Tree.run] at hr
     split at hr
     ·cases hr;exact List.getElem?_set_ne hne
     ·cases hr
    ·cases hr
   ·cases hr
  ·cases hr
 ·exact qkv hr hb
theorem qpd{ev:Operand→AV}{op:Op}{q:FuncId×List AV}(h:uP ev op=some q):qii op=true∧∃x args tys first caps,op=.call { callee:=.value x,args:=args,argTypes:=tys }∧ev x=.fn q.1 first caps∧q.2=first++args.toList.map ev++caps:=by
 unfold uP at h
 split at h
 ·rename_i x args tys
  split at h
  ·rename_i f first caps hx
   cases h
   exact⟨rfl,x,args,tys,first,caps,rfl,hx,rfl⟩
  ·cases h
 ·cases h
theorem qs5{E:Env}{h h':List Blk}{ev:Operand→AV}{op:Op}{v:AV}(hr:(qiG E h ev op).run=some (v,h')){b:Nat}(hb:b<h.length)(hw:b∉qzK h ev op):h'[b]?=h[b]?:=by
 unfold qiG at hr
 unfold qzK at hw
 cases hc:uP ev op with
 | some q=>
  obtain⟨f,args⟩:=q
  rw[hc] at hr hw
  simp only at hr hw
  cases hs:qfd E f with
  | none=>rw[hs] at hr;cases hr
  | some G=>
   rw[hs] at hr
   obtain⟨r,h1,h2⟩:=bind_some hr
   cases h2
   exact qmE (st:={ t:=[],fs:=[],h:=h,pend:=none }) h1 hb hw
 | none=>
  rw[hc] at hr hw
  simp only at hr hw
  cases hst:qis op with
  | true=>
   rw[hst] at hr
   obtain⟨r,h1,h2⟩:=bind_some hr
   cases op<;>first|(cases hst;done)|skip
   rename_i t x y
   simp only at hw
   split at h2
   ·cases h2
    exact qqP h1 hw
   ·cases h2
  | false=>
   rw[hst] at hr
   obtain⟨r,h1,h2⟩:=bind_some hr
   cases h2
   rw[List.getElem?_append_left hb]
theorem qmL{f g:Operand→AV}{op:Op}(hfg:∀x∈op.operands.toList,f x=g x):uP f op=uP g op:=by
 unfold uP
 split
 ·rename_i x args tys
  rw[hfg x (by simp[Op.operands,Call.operands])]
  have:args.toList.map f=args.toList.map g:=List.map_congr_left fun y hy=>hfg y (by simp only[Op.operands,Call.operands,Array.toList_append];exact List.mem_append_right _ hy)
  rw[this]
 ·rfl
theorem qrE{E:Env}{h:List Blk}{f g:Operand→AV}{op:Op}(hfg:∀x∈op.operands.toList,f x=g x):qpb E h f op=qpb E h g op∧qiG E h f op=qiG E h g op:=by
 have hc:=qmL hfg
 constructor
 ·unfold qpb;rw[hc]
 ·unfold qiG
  rw[hc]
  cases uP g op with
  | some q=>rfl
  | none=>
   simp only
   cases hs:qis op with
   | true=>
    cases op<;>first|(cases hs;done)|skip
    rename_i t x y
    have e:qjy E h f (.store t x y)=qjy E h g (.store t x y):=by
     unfold qjy
     simp only
     rw[hfg x (by simp[Op.operands]),hfg y (by simp[Op.operands])]
    simp only[e]
   | false=>simp only;rw[qpF hfg]
theorem qrN{E:Env}{P:Program}(hE:E.tok P)(hS:E.specs P){B:Base}{X:Ctx}{st:St}{a:Act}(hs:Sim E B X st a){o:Oper}{av:AV}{h':List Blk}
  (h:(qiG E st.h (E.opd st.t) o.op).run=some (av,h')) {next:Act→World→Prop} {Q:Exit→Act→World→Prop}
  (hq:∀X' v,Sim E B X' { st with h:=h' } a→Rep X' av v→next (a.put o.dst v) X'.w):o.wp P a X.w next Q∧∀c,o.op≠.defer c:=by
 unfold qiG at h
 cases hcl:uP (E.opd st.t) o.op with
 | some q=>
  obtain⟨f,aargs⟩:=q
  rw[hcl] at h
  simp only at h
  obtain⟨_,x,args,tys,first,caps,hop,hx,ha⟩:=qpd hcl
  simp only at hx ha
  refine⟨?_,fun c hc=>by rw[hop] at hc;cases hc⟩
  cases hsp:qfd E f with
  | none=>rw[hsp] at h;cases h
  | some G=>
   rw[hsp] at h
   obtain⟨r,h1,h2⟩:=bind_some h
   simp only[Tree.run,Option.some.injEq,Prod.mk.injEq] at h2
   obtain⟨rfl,rfl⟩:=h2
   unfold qfd at hsp
   cases hf:E.spec.find? fun x=>x.1==f with
   | none=>rw[hf] at hsp;cases hsp
   | some G'=>
    rw[hf] at hsp
    simp only[Option.map_some,Option.some.injEq] at hsp
    subst hsp
    have hG:=hS G' (List.mem_of_find?_eq_some hf)
    have hfe:G'.1=f:=by simpa using List.find?_some hf
    rw[hfe] at hG
    have hv:=q6k hs x
    rw[hx] at hv
    generalize hev:a.eval x=vx at hv
    cases hv with
    | fn _ _ _ vf vc q1 q2=>
     have hargs:=q62 hs args.toList
     have hall:RepL X aargs (vf++args.toList.map a.eval++vc):=by rw[ha];exact(q1.append hargs).append q2
     have hcs:(q1L G'.2 aargs st).run=some (r.1,{ st with h:=r.2.h }):=by
      unfold q1L at h1 ⊢
      simp only at h1 ⊢
      split at h1
      ·cases h1
      ·obtain⟨r0,k1,k2⟩:=bind_some h1
       rw[Tree.run_bind,k1]
       simp only[Option.bind_some]
       split at k2
       ·cases k2
       ·cases k2
        rfl
     have g2:=qa4 hG hs hall hcs
     have g1:=hG.1 (vf++args.toList.map a.eval++vc).toArray
     unfold Oper.wp
     have hrun:(execOp a.eval o).run P X.w=.ok (.enter f (vf++args.toList.map a.eval++vc).toArray) X.w:=by
      simp only[execOp,hop,resolve,hev,Deferred.ofValue,Sem.run_bind,Sem.run_pure,Result.andThen_ok,invoke]
      have:vf.toArray++args.map a.eval++vc.toArray=(vf++args.toList.map a.eval++vc).toArray:=by
       apply Array.ext';simp
      rw[this]
      exact g1 X.w
     rw[hrun]
     refine g2.mono fun e w' ⟨v,X',e1,e2,e3,e4⟩=>?_
     subst e1 e2
     exact hq X' _ e4 e3
 | none=>
  rw[hcl] at h
  simp only at h
  have hop:(qjy E st.h (E.opd st.t) o.op).run=some (av,h',none)∧∀c,o.op≠.defer c:=by
   cases hst:qis o.op with
   | true=>
    rw[hst] at h
    obtain⟨r,h1,h3⟩:=bind_some h
    refine⟨?_,fun c hc=>by rw[hc] at hst;cases hst⟩
    split at h3
    ·rename_i hn
     simp only[Tree.run,Option.some.injEq,Prod.mk.injEq] at h3
     rw[h1]
     obtain⟨r1,r2,r3⟩:=r
     simp only at hn h3
     rw[hn,h3.1,h3.2]
    ·cases h3
   | false=>
    rw[hst] at h
    obtain⟨r,h1,h3⟩:=bind_some h
    simp only[Tree.run,Option.some.injEq,Prod.mk.injEq] at h3
    obtain⟨r1,r2⟩:=r
    obtain⟨g1,_,_⟩:=qwd h1
    simp only at h3
    obtain⟨rfl,rfl⟩:=h3
    exact⟨g1,fun c hc=>by rw[hc] at h1;simp[qgS,Tree.run] at h1⟩
  refine⟨?_,hop.2⟩
  obtain⟨nx,v,X',g1,g2,g3,g4,g5⟩:=qkR hE hs hop.1
  have hs2:Sim E B X' { st with h:=h' } a:=by
   have:=hs.ext g5.2 g4
   rw[g5.1] at this
   exact this
  unfold Oper.wp
  rw[g1]
  rcases g2 with rfl|⟨rfl,rfl⟩
  ·exact hq X' _ hs2 g3
  ·exact hq X' _ hs2 g3
mutual
theorem qwD:∀(a:AV) (h:List Blk) (b:Nat),b∈(a.lend h).men→b∈a.men
 | .vec c,h,b,hb=>by
  simp only[AV.lend] at hb
  split at hb<;>cases hb
 | .agg cs,h,b,hb=>by simp only[AV.lend,AV.men] at hb ⊢;exact qhz cs h b hb
 | .tuple cs,h,b,hb=>by simp only[AV.lend,AV.men] at hb ⊢;exact qhz cs h b hb
 | .undef,_,_,hb|.yld,_,_,hb|.skip,_,_,hb|.blit _,_,_,hb|.bool _,_,_,hb|.ilit _ _,_,_,hb|.int _ _,_,_,hb|.str _,_,_,hb|.nilp,_,_,hb|.ptr _ _,_,_,hb|.eptr _ _ _ _,_,_,hb|.mptr _ _ _ _ _,_,_,hb|.vptr _ _ _,_,_,hb|.vsub _ _,_,_,hb|.aptr _ _ _,_,_,hb|.asub _ _ _ _ _,_,_,hb|.bagg _ _ _ _,_,_,hb|.nils,_,_,hb|.imm _ _,_,_,hb|.nilf,_,_,hb|.fn _ _ _,_,_,hb=>hb
theorem qhz:∀(l:List AV) (h:List Blk) (b:Nat),b∈AV.menL (AV.lendL h l)→b∈AV.menL l
 | [],_,_,hb=>hb
 | a::l,h,b,hb=>by
  simp only[AV.lendL,AV.menL,List.mem_append] at hb ⊢
  exact hb.imp (qwD a h b) (qhz l h b)
end
mutual
theorem qtK:∀(a:AV) (h:List Blk),a.men=[]→a.lend h=a
 | .vec b,h,hm=>by simp[AV.men] at hm
 | .agg cs,h,hm=>by simp only[AV.lend];rw[qcf cs h (by simpa[AV.men] using hm)]
 | .tuple cs,h,hm=>by simp only[AV.lend];rw[qcf cs h (by simpa[AV.men] using hm)]
 | .undef,_,_|.yld,_,_|.skip,_,_|.blit _,_,_|.bool _,_,_|.ilit _ _,_,_|.int _ _,_,_|.str _,_,_|.nilp,_,_|.ptr _ _,_,_|.eptr _ _ _ _,_,_|.mptr _ _ _ _ _,_,_|.vptr _ _ _,_,_|.vsub _ _,_,_|.aptr _ _ _,_,_|.asub _ _ _ _ _,_,_|.bagg _ _ _ _,_,_|.nils,_,_|.imm _ _,_,_|.full _ _,_,_|.nilf,_,_|.fn _ _ _,_,_=>rfl
theorem qcf:∀(l:List AV) (h:List Blk),AV.menL l=[]→AV.lendL h l=l
 | [],_,_=>rfl
 | a::l,h,hm=>by
  simp only[AV.menL,List.append_eq_nil_iff] at hm
  simp only[AV.lendL]
  rw[qtK a h hm.1,qcf l h hm.2]
end
theorem qwv{h:List Blk}{b:Nat}{k:Blk}(hb:h[b]?=some k):h.set b k=h:=by
 apply List.ext_getElem?
 intro i
 by_cases hi:i=b
 ·subst hi;rw[List.getElem?_set_self (qw hb),hb]
 ·rw[List.getElem?_set_ne (fun e=>hi e.symm)]
def qbM(h:List Blk)(b:Nat):Bool:=match h[b]? with|some k=>k.plain|none=>false
theorem qdw:∀(l:List Nat) (h:List Blk),l.all (qbM h)=true→qfq h l=h
 | [],_,_=>rfl
 | b::l,h,hl=>by
  simp only[List.all_cons,Bool.and_eq_true] at hl
  simp only[qfq]
  split
  ·rename_i cs hb
   have h1:=hl.1
   unfold qbM at h1
   rw[hb] at h1
   simp only[Blk.plain,List.isEmpty_iff] at h1
   rw[qcf cs h h1,qwv hb]
   exact qdw l h hl.2
  ·exact qdw l h hl.2
theorem q9V:∀(l:List Nat) (h:List Blk),l.all (qbM h)=true→q9B h l=[]
 | [],_,_=>rfl
 | b::l,h,hl=>by
  simp only[List.all_cons,Bool.and_eq_true] at hl
  simp only[q9B]
  split
  ·rename_i cs hb
   have h1:=hl.1
   unfold qbM at h1
   rw[hb] at h1
   simp only[Blk.plain,List.isEmpty_iff] at h1
   have:cs.flatMap jx=[]:=by
    rw[List.flatMap_eq_nil_iff]
    intro a ha
    rw[List.eq_nil_iff_forall_not_mem]
    intro x hx
    have:=qk9 ha (qic a x hx)
    rw[h1] at this;cases this
   rw[this,q9V l h hl.2];rfl
  ·exact q9V l h hl.2
theorem qby{h:List Blk}{s c:Nat}{x y:Blk}(hc:c≠s):(h.set s x).set c y=(h.set c y).set s x:=List.set_comm _ _ (fun e=>hc e.symm)
theorem qr1{h:List Blk}{s c:Nat}(hc:c≠s):vG (h.set s .dead) c=(vG h c).set s .dead:=by
 unfold vG
 rw[List.getElem?_set_ne (fun e=>hc e.symm)]
 split
 ·exact qby hc
 ·rfl
theorem qkK{s:Nat}:∀(l:List Nat) (h:List Blk),s∉l→zn (h.set s .dead) l=(zn h l).set s .dead
 | [],_,_=>rfl
 | c::l,h,hs=>by
  simp only[List.mem_cons,not_or] at hs
  simp only[zn]
  rw[qr1 (fun e=>hs.1 e.symm)]
  exact qkK l _ hs.2
theorem qj9{s:Nat}{h:List Blk}{k:Blk}:∀(l:List Nat),s∉l→q4b (h.set s k) l=q4b h l
 | [],_=>rfl
 | c::l,hs=>by
  simp only[List.mem_cons,not_or] at hs
  simp only[q4b]
  rw[List.getElem?_set_ne (fun e=>hs.1 e),qj9 l hs.2]
theorem qlq{s:Nat}{h:List Blk}{d:Blk}:∀(l:List Nat) (ks:List Blk),s∉l→jE (h.set s d) l ks=(jE h l ks).map fun x=>x.set s d
 | [],ks,_=>by cases ks<;>rfl
 | c::l,[],_=>rfl
 | c::l,k::ks,hs=>by
  simp only[List.mem_cons,not_or] at hs
  simp only[jE]
  split
  ·rw[qlq l ks hs.2]
   cases jE h l ks with
   | none=>rfl
   | some h2=>
    simp only[Option.map_some]
    rw[qby (fun e=>hs.1 e.symm)]
  ·rfl
theorem qlP:∀(l:List Nat) (h:List Blk),(zn h l).length=h.length
 | [],_=>rfl
 | c::l,h=>by
  simp only[zn]
  rw[qlP l]
  unfold vG
  split<;>simp
theorem qkl:∀(l:List Nat) (h ks h':List Blk),jE h l ks=some h'→h'.length=h.length
 | [],h,ks,h',hp=>by cases ks<;>(simp only[jE,Option.some.injEq] at hp;rw[hp])
 | c::l,h,[],h',hp=>by simp[jE] at hp
 | c::l,h,k::ks,h',hp=>by
  simp only[jE] at hp
  split at hp
  ·cases hq:jE h l ks with
   | none=>rw[hq] at hp;cases hp
   | some h2=>
    rw[hq] at hp
    simp only[Option.map_some,Option.some.injEq] at hp
    rw[←hp,List.length_set,qkl l h ks h2 hq]
  ·cases hp
theorem qxa{args:List AV}{b:Nat}(hb:b∈args.flatMap jx):b∈AV.menL args:=by
 obtain⟨a,ha,hb⟩:=List.mem_flatMap.1 hb
 exact qk9 ha (qic a b hb)
theorem qfc{h:List Blk}{args:List AV}(hp:(AV.menL (AV.lendL (zn h (args.flatMap jx)) args)).all (qbM (zn h (args.flatMap jx)))=true):q4q h args=zn h (args.flatMap jx):=by
 unfold q4q
 simp only
 rw[q9V _ _ hp]
 exact qdw _ _ hp
theorem qpc{G:q0c}{args:List AV}{h:List Blk}{r:AV×St}(hr:(q1L G args { t:=[],fs:=[],h:=h,pend:=none }).run=some r){s:Nat}(hs:s<h.length)(hm:s∉AV.menL args)
  (hp:(AV.menL (AV.lendL (zn h (args.flatMap jx)) args)).all (qbM (zn h (args.flatMap jx)))=true) :
  (q1L G args { t:=[],fs:=[],h:=h.set s .dead,pend:=none }).run=some (r.1,{ t:=[],fs:=[],h:=r.2.h.set s .dead,pend:=none }) ∧
  (AV.menL (AV.lendL (zn (h.set s .dead) (args.flatMap jx)) args)).all (qbM (zn (h.set s .dead) (args.flatMap jx)))=true:=by
 have hv:s∉args.flatMap jx:=fun e=>hm (qxa e)
 have e1:=qkK _ h hv
 have e2:AV.lendL ((zn h (args.flatMap jx)).set s .dead) args=AV.lendL (zn h (args.flatMap jx)) args:=qaI args fun b hb=>List.getElem?_set_ne (fun e=>by subst e;exact hm hb)
 have hfp:s∉AV.menL (AV.lendL (zn h (args.flatMap jx)) args):=fun e=>hm (qhz _ _ _ e)
 have hp':(AV.menL (AV.lendL (zn (h.set s .dead) (args.flatMap jx)) args)).all (qbM (zn (h.set s .dead) (args.flatMap jx)))=true:=by
  rw[e1,e2]
  rw[List.all_eq_true] at hp ⊢
  intro b hb
  have:=hp b hb
  unfold qbM at this ⊢
  rw[List.getElem?_set_ne (fun e=>by subst e;exact hfp hb)]
  exact this
 refine⟨?_,hp'⟩
 have k1:=qfc hp
 have k2:=qfc hp'
 unfold q1L at hr ⊢
 simp only at hr ⊢
 rw[k1] at hr
 rw[k2,e1,e2]
 have hfd:s∉qhm (AV.menL (AV.lendL (zn h (args.flatMap jx)) args)):=fun e=>hfp (qez _ e)
 rw[qj9 _ hfd]
 generalize hh1:zn h (args.flatMap jx)=h1 at *
 have hl1:s<h1.length:=by rw[←hh1,qlP];exact hs
 cases htk:q4b h1 (qhm (AV.menL (AV.lendL h1 args))) with
 | none=>rw[htk] at hr;cases hr
 | some hin=>
  rw[htk] at hr
  simp only at hr ⊢
  obtain⟨r0,q1,q2⟩:=bind_some hr
  rw[Tree.run_bind,q1]
  simp only[Option.bind_some]
  rw[qlq _ _ hfd]
  cases hpt:jE h1 (qhm (AV.menL (AV.lendL h1 args))) r0.2 with
  | none=>rw[hpt] at q2;cases q2
  | some h2=>
   rw[hpt] at q2
   simp only[Option.map_some] at q2 ⊢
   cases q2
   have hl2:s<h2.length:=by rw[qkl _ _ _ _ hpt];exact hl1
   simp only[Tree.run,List.length_set,Option.some.injEq,Prod.mk.injEq,true_and]
   rw[List.set_append_left _ _ hl2]
theorem qt2{E:Env}{h:List Blk}{t:TypeId}{p v:AV}{r:Res}(hp:qxx p=true){s:Nat}(hm:s∉p.men)(hr:(q72 E h t p v).run=some r) :
  (q72 E (h.set s .dead) t p v).run=some (r.1,r.2.1.set s .dead,r.2.2):=by
 cases p<;>first|(cases hp;done)|skip
 case ptr b off=>
  have hne:b≠s:=fun e=>hm (by simp[AV.men,e])
  unfold q72 at hr ⊢
  simp only at hr ⊢
  rw[List.getElem?_set_ne (fun e=>hne e.symm)]
  have plain:∀{r:Res},(qbn E h t (.ptr b off) v).run=some r→(qbn E (h.set s .dead) t (.ptr b off) v).run=some (r.1,r.2.1.set s .dead,r.2.2):=by
   intro r hr
   unfold qbn at hr ⊢
   simp only at hr ⊢
   rw[List.getElem?_set_ne (fun e=>hne e.symm)]
   split at hr
   ·rename_i hc
    rw[if_pos hc]
    split at hr
    ·split at hr
     ·rename_i hc2
      rw[if_pos hc2]
      cases hr
      simp only[Tree.run,Option.some.injEq,Prod.mk.injEq,true_and,and_true]
      exact qby hne
     ·cases hr
    ·cases hr
   ·cases hr
  split at hr
  ·unfold quz at hr ⊢
   split at hr
   ·split at hr
    ·rename_i hc
     rw[if_pos hc]
     cases hr
     simp only[Tree.run,Option.some.injEq,Prod.mk.injEq,true_and,and_true]
     exact qby hne
    ·cases hr
   ·split at hr
    ·rename_i hc
     rw[if_pos hc]
     split at hr
     ·cases hr
      simp only[Tree.run,Option.some.injEq,Prod.mk.injEq,true_and,and_true]
      exact qby hne
     ·split at hr
      ·split at hr
       ·rename_i hc2
        rw[if_pos hc2]
        cases hr
        simp only[Tree.run,Option.some.injEq,Prod.mk.injEq,true_and,and_true]
        exact qby hne
       ·cases hr
      ·cases hr
    ·cases hr
  ·exact plain hr
 case aptr b o i=>
  have hne:b≠s:=fun e=>hm (by simp[AV.men,e])
  unfold q72 at hr ⊢
  simp only at hr ⊢
  rw[List.getElem?_set_ne (fun e=>hne e.symm)]
  split at hr
  ·split at hr
   ·split at hr
    ·rename_i hc
     rw[if_pos hc]
     simp only[Tree.run] at hr ⊢
     split at hr
     ·cases hr
      simp only[Option.some.injEq,Prod.mk.injEq,true_and,and_true]
      exact qby hne
     ·cases hr
    ·cases hr
   ·cases hr
  ·cases hr
theorem qvs{h h':List Blk}{s:Sh}{a:AV}(hv:que a=true):toU h s a=toU h' s a:=by
 cases a<;>first|(cases hv;done)|(cases s<;>rfl)
theorem qns{h h':List Blk}:∀(sh:List Sh) (azz:List AV),azz.all que=true→qlk h sh azz=qlk h' sh azz
 | [],[],_=>rfl
 | [],_::_,_=>rfl
 | _::_,[],_=>rfl
 | s::sh,a::azz,hv=>by
  simp only[List.all_cons,Bool.and_eq_true] at hv
  simp only[qlk]
  rw[qvs (h':=h') hv.1,qns (h':=h') sh azz hv.2]
theorem qwA{p:AV→Bool}{l:List AV}(h:l.all p=true)(n:Nat):(l.take n).all p=true:=by
 rw[List.all_eq_true] at h ⊢
 exact fun x hx=>h x (List.mem_of_mem_take hx)
theorem qx4{p:AV→Bool}{l:List AV}(h:l.all p=true)(n:Nat):(l.drop n).all p=true:=by
 rw[List.all_eq_true] at h ⊢
 exact fun x hx=>h x (List.mem_of_mem_drop hx)
theorem qkU{h h':List Blk}{sh:List Sh}:∀(n:Nat) (cs:List AV),cs.all que=true→qe9 h sh n cs=qe9 h' sh n cs
 | 0,[],_=>rfl
 | 0,_::_,_=>rfl
 | n+1,cs,hv=>by
  simp only[qe9]
  rw[qns (h':=h') _ _ (qwA hv _),qkU (h':=h') n _ (qx4 hv _)]
theorem qt9{E:Env}{h h':List Blk}{ev:Operand→AV}{op:Op}{v:AV}(hr:(qiG E h ev op).run=some (v,h')){s:Nat}(hs:s<h.length)(hq:s∉quB ev op)(hmk:qxB h ev op=true) :
  (qiG E (h.set s .dead) ev op).run=some (v,h'.set s .dead)∧qxB (h.set s .dead) ev op=true:=by
 unfold qiG at hr ⊢
 unfold qxB at hmk ⊢
 unfold quB at hq
 cases hc:uP ev op with
 | some q=>
  obtain⟨f,args⟩:=q
  rw[hc] at hr hmk hq
  simp only at hr hmk hq ⊢
  cases hsp:qfd E f with
  | none=>rw[hsp] at hr;cases hr
  | some G=>
   rw[hsp] at hr
   simp only at hr ⊢
   obtain⟨r,h1,h2⟩:=bind_some hr
   cases h2
   obtain⟨g1,g2⟩:=qpc h1 hs hq hmk
   refine⟨?_,g2⟩
   rw[Tree.run_bind,g1]
   rfl
 | none=>
  rw[hc] at hr hmk hq
  simp only at hr hmk hq ⊢
  cases hst:qis op with
  | true=>
   rw[hst] at hr
   simp only at hr ⊢
   cases op<;>first|(cases hst;done)|skip
   rename_i t x y
   simp only at hmk
   obtain⟨r,h1,h2⟩:=bind_some hr
   refine⟨?_,hmk⟩
   have hm:s∉(ev x).men:=fun e=>hq (by simp[Op.operands,AV.menL,e])
   have:=qt2 hmk hm h1
   rw[Tree.run_bind,show (qjy E (h.set s .dead) ev (.store t x y)).run=some (r.1,r.2.1.set s .dead,r.2.2) from this]
   simp only[Option.bind_some]
   obtain⟨r1,r2,r3⟩:=r
   cases r3 with
   | none=>cases h2;rfl
   | some _=>cases h2
  | false=>
   rw[hst] at hr
   simp only at hr ⊢
   cases op<;>simp only at hmk<;>first|(cases hmk;done)|skip
   case box t x=>
    refine⟨?_,rfl⟩
    unfold qgS qli at hr ⊢
    simp only at hr ⊢
    cases hb:qjB (ev x) with
    | none=>rw[hb] at hr;cases hr
    | some z=>
     rw[hb] at hr
     simp only at hr ⊢
     cases hr
     simp only[Tree.bind,Tree.run,List.length_set,Option.some.injEq,Prod.mk.injEq,true_and]
     rw[List.set_append_left _ _ hs]
   case buildSlice t len parts=>
    refine⟨?_,rfl⟩
    unfold qgS at hr ⊢
    simp only at hr ⊢
    cases hd:(E.ty t).d<;>rw[hd] at hr<;>simp only at hr ⊢<;>first|(cases hr;done)|skip
    rename_i e es
    split at hr
    ·rename_i hc
     rw[if_pos hc]
     cases hf:qai (fun i=>some (i*es,es)) ((List.replicate len ((E.ty e).zero.map vB)).flatten) (parts.toList.map fun p=>(p.1,ev p.2)) with
     | none=>rw[hf] at hr;cases hr
     | some cs=>
      cases hs2:E.shape 16 e with
      | none=>rw[hf,hs2] at hr;cases hr
      | some sh=>
       rw[hf,hs2] at hr
       simp only at hr ⊢
       split at hr
       ·rename_i hl
        rw[if_pos hl,qkU (h':=h) _ _ hl.2]
        cases hch:qe9 h sh len cs with
        | none=>rw[hch] at hr;cases hr
        | some l=>
         rw[hch] at hr
         simp only at hr ⊢
         cases hr
         simp only[Tree.bind,Tree.run,List.length_set,Option.some.injEq,Prod.mk.injEq,true_and]
         rw[List.set_append_left _ _ hs]
       ·cases hr
    ·cases hr
   case store t x y=>cases hst
def q0P(D:Nat→Desc)(L:Nat→Bool):Nat→List Blk→List Blk
 | 0,h=>h
 | n+1,h=>match D n,L n with
  | .alc s,false=>(q0P D L n h).set s .dead
  | _,_=>q0P D L n h
def q2o(D:Nat→Desc)(L:Nat→Bool)(n a s:Nat):Prop:=a<n∧D a=.alc s∧L a=false
section
variable {D:Nat→Desc} {L L':Nat→Bool} {h:List Blk}
theorem yJ(n:Nat):(∃s,D n=.alc s∧L n=false∧q0P D L (n+1) h=(q0P D L n h).set s .dead)∨((∀s,¬(D n=.alc s∧L n=false))∧q0P D L (n+1) h=q0P D L n h):=by
 simp only[q0P]
 cases hD:D n with
 | alc s=>
  cases hL:L n with
  | false=>exact .inl ⟨s,rfl,rfl,rfl⟩
  | true=>exact .inr ⟨fun s h=>(by cases h.2),rfl⟩
 | _=>exact .inr ⟨fun s h=>(by cases h.1),rfl⟩
theorem q8q:∀n,(q0P D L n h).length=h.length
 | 0=>rfl
 | n+1=>by
  rcases yJ (D:=D) (L:=L) (h:=h) n with⟨s,_,_,e⟩|⟨_,e⟩
  ·rw[e,List.length_set,q8q n]
  ·rw[e,q8q n]
theorem qdb{b:Nat}:∀n,(∀a s,q2o D L n a s→s≠b)→(q0P D L n h)[b]?=h[b]?
 | 0,_=>rfl
 | n+1,hb=>by
  have ih:=qdb n fun a s hm=>hb a s ⟨by have:=hm.1;omega,hm.2⟩
  rcases yJ (D:=D) (L:=L) (h:=h) n with⟨s,h1,h2,e⟩|⟨_,e⟩
  ·rw[e,List.getElem?_set_ne (hb n s ⟨Nat.lt_succ_self n,h1,h2⟩),ih]
  ·rw[e,ih]
theorem qlS(n:Nat)(hall:∀a s,¬q2o D L n a s):q0P D L n h=h:=by
 apply List.ext_getElem?
 intro b
 exact qdb n fun a s hm=>absurd hm (hall a s)
theorem qga:∀n,(∀a s,a<n→D a=.alc s→L a=L' a)→q0P D L n h=q0P D L' n h
 | 0,_=>rfl
 | n+1,hl=>by
  have ih:=qga n fun a s ha hd=>hl a s (by omega) hd
  simp only[q0P]
  cases hD:D n with
  | alc s=>rw[←hl n s (Nat.lt_succ_self n) hD];cases L n<;>simp only[ih]
  | _=>simp only[ih]
theorem qeg{a s:Nat}(hs:s<h.length):∀n,q2o D L n a s→(q0P D L n h)[s]?=some .dead
 | 0,hm=>by have:=hm.1;omega
 | n+1,hm=>by
  rcases yJ (D:=D) (L:=L) (h:=h) n with⟨s',h1,h2,e⟩|⟨h1,e⟩
  ·rw[e]
   by_cases hss:s'=s
   ·subst hss;rw[List.getElem?_set_self (by rw[q8q];exact hs)]
   ·rw[List.getElem?_set_ne hss]
    have hna:a≠n:=fun e=>by
     have:=hm.2.1;rw[e,h1] at this;cases this;exact hss rfl
    exact qeg hs n ⟨by have:=hm.1;omega,hm.2⟩
  ·rw[e]
   have hna:a≠n:=fun e=>h1 s (by rw[←e];exact hm.2)
   exact qeg hs n ⟨by have:=hm.1;omega,hm.2⟩
theorem qwi{n a s:Nat}{z:Blk}(hm:q2o D L n a s)(hz:h[s]?=some z)(hd:∀a' s',q2o D L n a' s'→a'≠a→s'≠s) :
  q0P D (fun j=>if j=a then true else L j) n h=(q0P D L n h).set s z:=by
 apply List.ext_getElem?
 intro b
 by_cases hb:b=s
 ·subst hb
  rw[List.getElem?_set_self (by rw[q8q];exact qw hz),qdb n,hz]
  intro a' s' hm'
  have hna:a'≠a:=fun e=>by have:=hm'.2.2;simp[e] at this
  have:=hm'.2.2
  simp only[if_neg hna] at this
  exact hd a' s' ⟨hm'.1,hm'.2.1,this⟩ hna
 ·rw[List.getElem?_set_ne (fun e=>hb e.symm)]
  have:∀n,(q0P D (fun j=>if j=a then true else L j) n h)[b]?=(q0P D L n h)[b]?:=by
   intro n
   induction n with
   | zero=>rfl
   | succ n ih=>
    by_cases hna:n=a
    ·subst hna
     rcases yJ (D:=D) (L:=fun j=>if j=n then true else L j) (h:=h) n with⟨s',h1,h2,e⟩|⟨_,e⟩
     ·simp at h2
     ·rw[e,ih]
      rcases yJ (D:=D) (L:=L) (h:=h) n with⟨s',h1,h2,e'⟩|⟨_,e'⟩
      ·rw[e']
       have hs':s'=s:=by have:=hm.2.1;rw[h1] at this;cases this;rfl
       rw[hs',List.getElem?_set_ne (fun e=>hb e.symm)]
      ·rw[e']
    ·rcases yJ (D:=D) (L:=L) (h:=h) n with⟨s',h1,h2,e'⟩|⟨h0,e'⟩
     ·rcases yJ (D:=D) (L:=fun j=>if j=a then true else L j) (h:=h) n with⟨s2,k1,k2,e⟩|⟨k0,e⟩
      ·rw[h1] at k1;cases k1
       rw[e,e']
       by_cases hbs:s'=b
       ·subst hbs
        rw[List.getElem?_set,List.getElem?_set]
        simp only[if_true,q8q]
       ·rw[List.getElem?_set_ne hbs,List.getElem?_set_ne hbs,ih]
      ·exact absurd ⟨h1,by simp[hna,h2]⟩ (k0 s')
     ·rcases yJ (D:=D) (L:=fun j=>if j=a then true else L j) (h:=h) n with⟨s2,k1,k2,e⟩|⟨k0,e⟩
      ·exact absurd ⟨k1,by simpa[hna] using k2⟩ (h0 s2)
      ·rw[e,e',ih]
  exact this n
theorem qqC{s:Nat}(hs:s∉qgY h):∀n,s∉qgY (q0P D L n h)
 | 0=>hs
 | n+1=>by
  have ih:=qqC hs n
  rcases yJ (D:=D) (L:=L) (h:=h) n with⟨s',h1,h2,e⟩|⟨_,e⟩
  ·rw[e]
   have:∀(l:List Blk) (i:Nat),s∉qgY l→s∉qgY (l.set i .dead):=by
    intro l
    induction l with
    | nil=>intro i h;simpa using h
    | cons k l ihl=>
     intro i h
     simp only[qgY,List.mem_append,not_or] at h
     cases i with
     | zero=>simp only[List.set_cons_zero,qgY,Blk.menB,List.nil_append];exact h.2
     | succ i=>
      simp only[List.set_cons_succ,qgY,List.mem_append,not_or]
      exact⟨h.1,ihl i h.2⟩
   exact this _ _ ih
  ·rw[e];exact ih
theorem qkr{E:Env}{h':List Blk}{ev:Operand→AV}{op:Op}{v:AV}(hr:(qiG E h ev op).run=some (v,h')):∀n,(∀a s,q2o D L n a s→s<h.length∧s∉quB ev op∧qxB h ev op=true) →
  (qiG E (q0P D L n h) ev op).run=some (v,q0P D L n h')∧((∃a s,q2o D L n a s)→qxB (q0P D L n h) ev op=true)
 | 0,_=>⟨hr,fun⟨a,s,hm⟩=>by have:=hm.1;omega⟩
 | n+1,hc=>by
  obtain⟨i1,i2⟩:=qkr hr n fun a s hm=>hc a s ⟨by have:=hm.1;omega,hm.2⟩
  have up:∀a s,q2o D L n a s→q2o D L (n+1) a s:=fun a s hm=>⟨by have:=hm.1;omega,hm.2⟩
  rcases yJ (D:=D) (L:=L) (h:=h) n with⟨s,h1,h2,e⟩|⟨h0,e⟩
  ·rcases yJ (D:=D) (L:=L) (h:=h') n with⟨s',h1',_,e'⟩|⟨h0',e'⟩
   ·rw[h1] at h1';cases h1'
    obtain⟨c1,c2,c3⟩:=hc n s ⟨Nat.lt_succ_self n,h1,h2⟩
    have hmk:qxB (q0P D L n h) ev op=true:=by
     by_cases hex:∃a s,q2o D L n a s
     ·exact i2 hex
     ·rw[qlS n fun a s hm=>hex ⟨a,s,hm⟩];exact c3
    obtain⟨g1,g2⟩:=qt9 i1 (s:=s) (by rw[q8q];exact c1) c2 hmk
    rw[e,e']
    exact⟨g1,fun _=>g2⟩
   ·exact absurd ⟨h1,h2⟩ (h0' s)
  ·rcases yJ (D:=D) (L:=L) (h:=h') n with⟨s',h1',h2',e'⟩|⟨h0',e'⟩
   ·exact absurd ⟨h1',h2'⟩ (h0 s')
   ·rw[e,e']
    refine⟨i1,fun⟨a,s,hm⟩=>i2 ⟨a,s,?_,hm.2⟩⟩
    rcases Nat.lt_or_ge a n with ha|ha
    ·exact ha
    ·have:a=n:=by have:=hm.1;omega
     subst this
     exact absurd hm.2 (h0 s)
end
def Desc.isE:Desc→Bool
 | .eff _ _ _ _ _ _=>true
 | _=>false
def qgL(E:Env)(callS:List Blk→q8U)(all:Array Oper)(h0:List Blk)(i:Nat)(o:Oper)(T:List AV)(v:AV)(h h':List Blk)(d:Desc):Prop:=
 (q1t all o T=some false∧v=.skip∧h'=h∧d=.skip) ∨
 (q1t all o T=some true∧∃u,(qlj E callS h (E.opd T) o.op).run=some (u,h')∧v=qs3 all i u∧d=qaz E h (E.opd T) o.op u h') ∨
 (q1t all o T=some true∧h'=h∧∃t z s,o.op=.alloc t∧q1M E t=some z∧h0[s]?=some z∧d=.alc s∧v=.ptr s 0)
theorem qpv{anc:List Nat}{x:Nat×Desc}{k:Nat}:q2h anc x k .skip=true:=by
 obtain⟨i,d⟩:=x
 cases d<;>simp[q2h,q4t]
theorem qro{anc:List Nat}{i k:Nat}{d:Desc}:q2h anc (i,.skip) k d=true:=by
 cases d<;>simp[q2h,q4t]
theorem qqj{op:Op}{t:TypeId}(h:qm6 op=some t):op=.alloc t:=by
 unfold qm6 at h
 split at h
 ·cases h;rfl
 ·cases h
end Go.Eng

namespace Go.Eng
theorem qnc{E:Env}{callS:List Blk→q8U}{all:Array Oper}{anc:List Nat}{h0:List Blk}:∀(l:List Oper) (k c:Nat) (ds:List (Nat×Desc)) (st st':St) (zs:List Blk),
  qhx E l=some zs→(∀j z,zs[j]?=some z→h0[c+j]?=some z)→(qpW E callS all anc k l c ds st).run=some st' →
  ∃(V:Nat→AV) (H:Nat→List Blk) (D:Nat→Desc),H k=st.h∧st'={ st with t:=qaT V k l st.t,h:=H (k+l.length) } ∧
   (∀j o,l[j]?=some o→qgL E callS all h0 (k+j) o (qaT V k (l.take j) st.t) (V (k+j)) (H (k+j)) (H (k+j+1)) (D (k+j))) ∧
   (∀j,j<l.length→∀x,x∈ds→q2h anc x (k+j) (D (k+j))=true) ∧
   (∀j j',j<j'→j'<l.length→q2h anc (k+j,D (k+j)) (k+j') (D (k+j'))=true) ∧
   (∀j,j<zs.length→∃i,i<l.length∧D (k+i)=.alc (c+j))∧(∀i s,i<l.length→D (k+i)=.alc s→c≤s∧s<c+zs.length)
 | [],k,c,ds,st,st',zs,hal,_,h=>by
  simp only[qpW,Tree.run,Option.some.injEq] at h
  subst h
  simp only[qhx,Option.some.injEq] at hal
  subst hal
  exact⟨fun _=>.undef,fun _=>st.h,fun _=>.skip,rfl,rfl,fun j o hj=>by simp at hj,fun j hj=>by simp at hj,fun j j' _ hj=>by simp at hj,fun j hj=>by simp at hj,fun i s hi=>by simp at hi⟩
 | o::rest,k,c,ds,st,st',zs,hal,hz,h=>by
  have fin:∀(v:AV) (h':List Blk) (d:Desc) (c':Nat) (ds':List (Nat×Desc)) (zs':List Blk),qhx E rest=some zs'→(∀j z,zs'[j]?=some z→h0[c'+j]?=some z) →
    ((c'=c∧zs'=zs∧∀s,d≠.alc s)∨(d=.alc c∧c'=c+1∧zs.length=zs'.length+1))→qgL E callS all h0 k o st.t v st.h h' d→(∀x,x∈ds→q2h anc x k d=true)→(∀x,x∈ds→x∈ds')→(d=.skip∨(k,d)∈ds') →
    (qpW E callS all anc (k+1) rest c' ds' { st with t:=qeN st.t o.dst v,h:=h' }).run=some st' →
    ∃(V:Nat→AV) (H:Nat→List Blk) (D:Nat→Desc),H k=st.h∧st'={ st with t:=qaT V k (o::rest) st.t,h:=H (k+(o::rest).length) } ∧
   (∀j o',(o::rest)[j]?=some o'→qgL E callS all h0 (k+j) o' (qaT V k ((o::rest).take j) st.t) (V (k+j)) (H (k+j)) (H (k+j+1)) (D (k+j))) ∧
   (∀j,j<(o::rest).length→∀x,x∈ds→q2h anc x (k+j) (D (k+j))=true) ∧
   (∀j j',j<j'→j'<(o::rest).length→q2h anc (k+j,D (k+j)) (k+j') (D (k+j'))=true) ∧
   (∀j,j<zs.length→∃i,i<(o::rest).length∧D (k+i)=.alc (c+j))∧(∀i s,i<(o::rest).length→D (k+i)=.alc s→c≤s∧s<c+zs.length):=by
   intro v h' d c' ds' zs' hal' hz' hrel hmx hcr hds hd hr
   obtain⟨V,H,D,e1,e2,e3,e4,e5,e6,e7⟩:=qnc rest (k+1) c' ds' _ st' zs' hal' hz' hr
   have hfold:∀(l:List Oper) (t:List AV),qaT (fun j=>if j=k then v else V j) (k+1) l t=qaT V (k+1) l t:=fun l t=>ql2 l (k+1) t fun j hj=>if_neg (by omega)
   refine⟨fun j=>if j=k then v else V j,fun j=>if j=k then st.h else H j,fun j=>if j=k then d else D j,by simp,?_,?_,?_,?_,?_,?_⟩
   ·rw[e2]
    simp only[qaT,if_true,List.length_cons]
    rw[hfold,if_neg (by omega),show k+(rest.length+1)=k+1+rest.length by omega]
   ·intro j o' hj
    cases j with
    | zero=>
     simp only[List.getElem?_cons_zero,Option.some.injEq] at hj
     subst hj
     simp only[Nat.add_zero,if_true,List.take_zero,qaT]
     rw[if_neg (by omega),e1]
     exact hmx
    | succ j=>
     have:=e3 j o' (by simpa using hj)
     simp only[List.take_succ_cons,qaT,if_true]
     rw[hfold,show k+(j+1)=k+1+j by omega,if_neg (by omega),if_neg (by omega),if_neg (by omega),if_neg (by omega)]
     exact this
   ·intro j hj x hx
    cases j with
    | zero=>simp only[Nat.add_zero,if_true];exact hcr x hx
    | succ j=>
     have:=e4 j (by simpa using hj) x (hds x hx)
     simp only
     rw[show k+(j+1)=k+1+j by omega,if_neg (by omega)]
     exact this
   ·intro j j' hjj hj'
    obtain⟨j'',rfl⟩:∃x,j'=x+1:=⟨j'-1,by omega⟩
    have hl:j''<rest.length:=by simpa using hj'
    simp only
    rw[show k+(j''+1)=k+1+j'' by omega,if_neg (show ¬k+1+j''=k by omega)]
    cases j with
    | zero=>
     simp only[Nat.add_zero,if_true]
     rcases hd with rfl|hd
     ·exact qro
     ·exact e4 j'' hl _ hd
    | succ j=>
     rw[show k+(j+1)=k+1+j by omega,if_neg (by omega)]
     exact e5 j j'' (by omega) hl
   ·intro j hj
    rcases hrel with⟨rfl,rfl,_⟩|⟨rfl,rfl,hzl⟩
    ·obtain⟨i,h1,h2⟩:=e6 j hj
     refine⟨i+1,by simpa using h1,?_⟩
     simp only
     rw[show k+(i+1)=k+1+i by omega,if_neg (by omega)]
     exact h2
    ·cases j with
     | zero=>exact⟨0,by simp,by simp⟩
     | succ j=>
      obtain⟨i,h1,h2⟩:=e6 j (by omega)
      refine⟨i+1,by simpa using h1,?_⟩
      simp only
      rw[show k+(i+1)=k+1+i by omega,if_neg (by omega),h2]
      congr 1;omega
   ·intro i s hi hs
    cases i with
    | zero=>
     simp only[Nat.add_zero,if_true] at hs
     rcases hrel with⟨_,_,h3⟩|⟨h3,_,hzl⟩
     ·exact absurd hs (h3 s)
     ·rw[h3] at hs;cases hs;omega
    | succ i=>
     simp only at hs
     rw[show k+(i+1)=k+1+i by omega,if_neg (by omega)] at hs
     have:=e7 i s (by simpa using hi) hs
     rcases hrel with⟨rfl,rfl,_⟩|⟨_,rfl,hzl⟩
     ·exact this
     ·omega
  simp only[qpW] at h
  simp only[qhx] at hal
  cases hao:qm6 o.op with
  | some t=>
   rw[hao] at hal h
   simp only at hal h
   have hop:=qqj hao
   cases hg:o.guard with
   | some _=>rw[hg] at hal;cases hal
   | none=>
    rw[hg] at hal
    cases hab:q1M E t with
    | none=>rw[hab] at hal;cases hal
    | some z=>
     rw[hab] at hal
     cases har:qhx E rest with
     | none=>rw[har] at hal;cases hal
     | some zs'=>
      rw[har] at hal
      simp only[Option.some.injEq] at hal
      subst hal
      have hw:q1t all o st.t=some true:=by unfold q1t;rw[hg]
      rw[hw] at h
      simp only at h
      split at h
      ·rename_i hall
       rw[List.all_eq_true] at hall
       refine fin (.ptr c 0) st.h (.alc c) (c+1) _ zs' har (fun j z' hj=>?_) (.inr ⟨rfl,rfl,rfl⟩) (.inr (.inr ⟨hw,rfl,t,z,c,hop,hab,hz 0 z rfl,rfl,rfl⟩)) hall (fun x hx=>List.mem_append_left _ hx) (.inr (List.mem_append_right _ List.mem_cons_self)) h
       have:=hz (j+1) z' (by simpa using hj)
       rw[show c+1+j=c+(j+1) by omega];exact this
      ·cases h
  | none=>
   rw[hao] at hal h
   simp only at hal h
   cases hw:q1t all o st.t with
   | none=>rw[hw] at h;cases h
   | some b=>
    rw[hw] at h
    cases b with
    | true=>
     simp only at h
     obtain⟨r,h1,h2⟩:=bind_some h
     split at h2
     ·rename_i hall
      obtain⟨s,h3,h4⟩:=bind_some h2
      obtain⟨u,h'⟩:=r
      obtain rfl:=qvT (st:={ st with h:=h' }) h3
      rw[List.all_eq_true] at hall
      exact fin _ h' _ c _ zs hal hz (.inl ⟨rfl,rfl,fun s hs=>by unfold qaz at hs;split at hs<;>cases hs⟩) (.inr (.inl ⟨hw,u,h1,rfl,rfl⟩)) hall (fun x hx=>List.mem_append_left _ hx) (.inr (List.mem_append_right _ List.mem_cons_self)) h4
     ·cases h2
    | false=>
     simp only at h
     exact fin .skip st.h .skip c ds zs hal hz (.inl ⟨rfl,rfl,fun s hs=>by cases hs⟩) (.inl ⟨hw,rfl,rfl,rfl⟩) (fun x _=>qpv) (fun x hx=>hx) (.inl rfl) h
theorem qqk{s:Nat}:∀(l:List AV) (i:Nat) (v:AV),s∉AV.menL l→s∉v.men→s∉AV.menL (l.set i v)
 | [],_,_,h,_=>by simpa using h
 | a::l,0,v,h,hv=>by
  simp only[AV.menL,List.mem_append,not_or] at h
  simp only[List.set_cons_zero,AV.menL,List.mem_append,not_or]
  exact⟨hv,h.2⟩
 | a::l,i+1,v,h,hv=>by
  simp only[AV.menL,List.mem_append,not_or] at h
  simp only[List.set_cons_succ,AV.menL,List.mem_append,not_or]
  exact⟨h.1,qqk l i v h.2 hv⟩
theorem qv9{dst:Nat→Option Tmp}{V:Nat→AV}{T0:List AV}{L:Nat→Bool}{s:Nat}(h0:s∉AV.menL T0):∀n,(∀j,j<n→L j=true→s∉(V j).men)→s∉AV.menL (TLp dst V T0 L n)
 | 0,_=>h0
 | n+1,h=>by
  have ih:=qv9 (dst:=dst) (V:=V) (L:=L) h0 n fun j hj=>h j (by omega)
  simp only[TLp]
  split
  ·rename_i hl
   cases hd:dst n with
   | none=>exact ih
   | some d=>exact qqk _ _ _ ih (h n (Nat.lt_succ_self n) hl)
  ·exact ih
theorem qv8{all:Array Oper}{k:Nat}{v:AV}{s:Nat}(h:s∉v.men):s∉(qs3 all k v).men:=by
 unfold qs3
 split
 ·split
  ·simp[AV.men]
  ·exact h
 ·exact h
theorem qxg{E:Env}{callS:List Blk→q8U}{all:Array Oper}{h0:List Blk}{i:Nat}{o:Oper}{T:List AV}{v:AV}{h h':List Blk}{d:Desc}{s:Nat}(hm:qgL E callS all h0 i o T v h h' d)(hs:q4t s d=true):s∉v.men:=by
 rcases hm with⟨_,h1,_,_⟩|⟨_,u,_,h1,h2⟩|⟨_,_,t,z,s',_,_,_,h1,h2⟩
 ·rw[h1];simp[AV.men]
 ·rw[h1]
  apply qv8
  rw[h2] at hs
  unfold qaz at hs
  split at hs
  ·simp only[q4t,Bool.and_eq_true,Bool.not_eq_true',List.contains_eq_mem,decide_eq_false_iff_not] at hs
   exact hs.1.2
  ·simp only[q4t,Bool.and_eq_true,Bool.not_eq_true',List.contains_eq_mem,decide_eq_false_iff_not] at hs
   exact hs.2
 ·rw[h2]
  rw[h1] at hs
  intro hm
  simp only[AV.men,List.mem_singleton] at hm
  subst hm
  simp[q4t] at hs
section
variable {E:Env} {P:Program} {callS:List Blk→q8U} {B:Base} {all:Array Oper} {V:Nat→AV} {T0:List AV} {H:Nat→List Blk} {D:Nat→Desc} {fs:List (List AV)} {pd:Option Ex} {Q:Exit→Act→World→Prop} {n0 m:Nat} {h0:List Blk}
theorem qy3{h h':List Blk}{ev:Operand→AV}{op:Op}{v:AV}:(qaz E h ev op v h').isE=qpb E h ev op:=by
 unfold qaz
 cases qpb E h ev op<;>rfl
theorem qbb(hms:m≤all.size)(hV:∀i o,all[i]?=some o→i<m→qgL E callS all h0 i o (TLp (wt all) V T0 (fun _=>true) i) (V i) (H i) (H (i+1)) (D i)) :
  ∀(n lo:Nat),lo+n≤m→(∀k,lo≤k→k<lo+n→(D k).isE=false)→H (lo+n)=H lo
 | 0,_,_,_=>rfl
 | n+1,lo,hm,hno=>by
  have ih:=qbb hms hV n lo (by omega) fun k h1 h2=>hno k h1 (by omega)
  rw[←ih]
  have hk:lo+n<all.size:=by omega
  have hd:=hno (lo+n) (by omega) (by omega)
  rcases hV (lo+n) _ (Array.getElem?_eq_getElem hk) (by omega) with⟨_,_,h3,_⟩|⟨_,u,h3,_,h2⟩|⟨_,h3,_⟩
  ·exact h3
  ·rw[h2,qy3] at hd
   unfold qlj at h3
   rw[hd] at h3
   obtain⟨v,g1,g2⟩:=bind_some h3
   simp only[Tree.run,Option.some.injEq,Prod.mk.injEq] at g2
   exact g2.2.symm
  ·exact h3
theorem qsR(hms:m≤all.size)(hV:∀i o,all[i]?=some o→i<m→qgL E callS all h0 i o (TLp (wt all) V T0 (fun _=>true) i) (V i) (H i) (H (i+1)) (D i)){b k:Nat}(hk:k<m)
  (hno:∀N w q mm v mk,D k=.eff N w q mm v mk→b<(H k).length∧b∉w):(H (k+1))[b]?=(H k)[b]?:=by
 have hk':k<all.size:=by omega
 rcases hV k _ (Array.getElem?_eq_getElem hk') hk with⟨_,_,h3,_⟩|⟨_,u,h3,_,h2⟩|⟨_,h3,_⟩
 ·rw[h3]
 ·unfold qlj at h3
  unfold qaz at h2
  cases he:qpb E (H k) (E.opd (TLp (wt all) V T0 (fun _=>true) k)) all[k].op with
  | true=>
   rw[he] at h2 h3
   obtain⟨q1,q2⟩:=hno _ _ _ _ _ _ h2
   exact qs5 h3 q1 q2
  | false=>
   rw[he] at h3
   obtain⟨v,g1,g2⟩:=bind_some h3
   simp only[Tree.run,Option.some.injEq,Prod.mk.injEq] at g2
   rw[←g2.2]
 ·rw[h3]
theorem qzl(hms:m≤all.size)(hV:∀i o,all[i]?=some o→i<m→qgL E callS all h0 i o (TLp (wt all) V T0 (fun _=>true) i) (V i) (H i) (H (i+1)) (D i)){k:Nat}(hk:k<m){N:Nat}{w q mm v:List Nat}{mk:Bool}
  (hd:D k=.eff N w q mm v mk):N=(H k).length∧mm=qgY (H (k+1)):=by
 have hk':k<all.size:=by omega
 rcases hV k _ (Array.getElem?_eq_getElem hk') hk with⟨_,_,_,h3⟩|⟨_,u,h3,_,h2⟩|⟨_,_,_,_,_,_,_,_,h3,_⟩
 ·rw[hd] at h3;cases h3
 ·rw[hd] at h2
  unfold qaz at h2
  split at h2
  ·cases h2;exact⟨rfl,rfl⟩
  ·cases h2
 ·rw[hd] at h3;cases h3
theorem qoJ(hms:m≤all.size)(hV:∀i o,all[i]?=some o→i<m→qgL E callS all h0 i o (TLp (wt all) V T0 (fun _=>true) i) (V i) (H i) (H (i+1)) (D i)){b:Nat} :
  ∀(n lo:Nat),lo+n≤m→(∀k,lo≤k→k<lo+n→∀N w q mm v mk,D k=.eff N w q mm v mk→b<N∧b∉w)→(H (lo+n))[b]?=(H lo)[b]?
 | 0,_,_,_=>rfl
 | n+1,lo,hm,hno=>by
  have ih:=qoJ hms hV n lo (by omega) fun k h1 h2=>hno k h1 (by omega)
  rw[←ih]
  exact qsR (k:=lo+n) hms hV (by omega) fun N w q mm v mk hd=>by
   obtain⟨g1,g2⟩:=hno (lo+n) (by omega) (by omega) N w q mm v mk hd
   rw[←(qzl (k:=lo+n) hms hV (by omega) hd).1]
   exact⟨g1,g2⟩
theorem qog(hms:m≤all.size)(hV:∀i o,all[i]?=some o→i<m→qgL E callS all h0 i o (TLp (wt all) V T0 (fun _=>true) i) (V i) (H i) (H (i+1)) (D i)){b:Nat}{z:Blk}(hz:(H 0)[b]?=some z) :
  ∀(n:Nat),n≤m→(∀k,k<n→∀N w q mm v mk,D k=.eff N w q mm v mk→b∉w)→(H n)[b]?=some z
 | 0,_,_=>hz
 | n+1,hm,hno=>by
  have ih:=qog hms hV hz n (by omega) fun k h1=>hno k (by omega)
  rw[←ih]
  exact qsR (k:=n) hms hV (by omega) fun N w q mm v mk hd=>⟨qw ih,hno n (by omega) N w q mm v mk hd⟩
theorem qvl(hms:m≤all.size)(hV:∀i o,all[i]?=some o→i<m→qgL E callS all h0 i o (TLp (wt all) V T0 (fun _=>true) i) (V i) (H i) (H (i+1)) (D i)){s:Nat}(hz:s∉qgY (H 0)) :
  ∀(n:Nat),n≤m→(∀k,k<n→∀N w q mm v mk,D k=.eff N w q mm v mk→s∉mm)→s∉qgY (H n)
 | 0,_,_=>hz
 | n+1,hm,hno=>by
  have ih:=qvl hms hV hz n (by omega) fun k h1=>hno k (by omega)
  cases hd:D n with
  | eff N w q mm v mk=>
   rw[←(qzl (k:=n) hms hV (by omega) hd).2]
   exact hno n (by omega) N w q mm v mk hd
  | _=>
   have:=qbb hms hV 1 n (by omega) fun k h1 h2=>by
    obtain rfl:k=n:=by omega
    rw[hd];rfl
   rw[this];exact ih
theorem qkB{r:Option (List Nat)}{n:Nat}{w:List Nat}(h:qpY r n w=true):∃R,r=some R∧∀b,b∈R→b<n∧b∉w:=by
 unfold qpY at h
 cases r with
 | none=>cases h
 | some R=>
  refine⟨R,rfl,fun b hb=>?_⟩
  simp only[List.all_eq_true,Bool.and_eq_true,Bool.not_eq_true',List.contains_eq_mem,decide_eq_false_iff_not] at h
  obtain⟨h1,h2⟩:=h b hb
  exact⟨Nat.blt_eq.mp h1,h2⟩
theorem qrV{anc:List Nat}{a k s:Nat}{d:Desc}(h:q2h anc (a,.alc s) k d=true)(hn:qqJ anc k a=false):q4t s d=true:=by
 unfold q2h at h
 simp only[Bool.and_eq_true,hn,Bool.false_or] at h
 exact h.1
theorem qqB{anc:List Nat}{x:Nat×Desc}{k s:Nat}(h:q2h anc x k (.alc s)=true):q4t s x.2=true:=by
 unfold q2h at h
 simp only[Bool.and_eq_true] at h
 exact h.2.1
theorem qeo{s N:Nat}{w q mm v:List Nat}{mk:Bool}(h:q4t s (.eff N w q mm v mk)=true):s∉w∧s∉q∧s∉mm∧s∉v∧mk=true:=by
 simp only[q4t,Bool.and_eq_true,Bool.not_eq_true',List.contains_eq_mem,decide_eq_false_iff_not] at h
 exact⟨h.1.1.1.1,h.1.1.1.2,h.1.1.2,h.1.2,h.2⟩
theorem qjf{s:Nat}{r:Option (List Nat)}{v:List Nat}(h:q4t s (.still r v)=true):(∃R,r=some R∧s∉R)∧s∉v:=by
 cases r with
 | none=>simp[q4t] at h
 | some R=>
  simp only[q4t,Bool.and_eq_true,Bool.not_eq_true',List.contains_eq_mem,decide_eq_false_iff_not] at h
  exact⟨⟨R,rfl,h.1⟩,h.2⟩
theorem qsz(_:DrawOk all)(_:m≤all.size)(_:∀i o,all[i]?=some o→i<m→qgL E callS all h0 i o (TLp (wt all) V T0 (fun _=>true) i) (V i) (H i) (H (i+1)) (D i))
  (hX:∀i j,i<j→j<m→q2h (q4V all.toList) (i,D i) j (D j)=true)
  {L:Nat→Bool} (_:qf6 all L) {a s:Nat} (hm:q2o D L m a s) {k:Nat} (hk:k<m) (hka:k≠a) (hn:qqJ (q4V all.toList) k a=false):q4t s (D k)=true:=by
 obtain⟨h1,h2,h3⟩:=hm
 rcases Nat.lt_or_ge a k with h|h
 ·have:=hX a k h hk
  rw[h2] at this
  exact qrV this hn
 ·have:=hX k a (by omega) h1
  rw[h2] at this
  exact qqB this
theorem q9l(hd:DrawOk all)(hms:m≤all.size)(hV:∀i o,all[i]?=some o→i<m→qgL E callS all h0 i o (TLp (wt all) V T0 (fun _=>true) i) (V i) (H i) (H (i+1)) (D i))
  (hX:∀i j,i<j→j<m→q2h (q4V all.toList) (i,D i) j (D j)=true)
  {L:Nat→Bool} (hc:qf6 all L) {a s:Nat} (hm:q2o D L m a s) {k:Nat} (hk:k<m) (hL:L k=true):q4t s (D k)=true:=by
 refine qsz hd hms hV hX hc hm hk (fun e=>?_) ?_
 ·rw[e,hm.2.2] at hL;cases hL
 ·cases hb:qqJ (q4V all.toList) k a with
  | false=>rfl
  | true=>
   have:=qly hd hc k a hL hb
   rw[hm.2.2] at this;cases this
theorem quN(hE:E.tok P)(hS:E.specs P)(hc:qfO E P callS)(hmo:q8k E callS)(hd:DrawOk all)(hms:m≤all.size)
    (hV:∀i o,all[i]?=some o→i<m→qgL E callS all (H 0) i o (TLp (wt all) V T0 (fun _=>true) i) (V i) (H i) (H (i+1)) (D i))
    (hX:∀i j,i<j→j<m→q2h (q4V all.toList) (i,D i) j (D j)=true)
    (hsl:∀i s,i<m→D i=.alc s→s∉AV.menL T0∧s∉qq9 fs∧s∉qgY (H 0))
    (hq:all.size≤m→∀X a,Sim E B X { t:=TLp (wt all) V T0 (fun _=>true) all.size,fs:=fs,pend:=pd,h:=H m } a→Q .normal a X.w)
    (hlast:∀i fuel listed X a,i<all.size→m≤i→listed.size=all.size→i∈Region.ready .any all listed→qf6 all (fun j=>listed.getD j false)→(∀j,m≤j→j<all.size→listed.getD j false=false)→(∀j,j<m→listed.getD j false=true) →
      Sim E B X { t:=TLp (wt all) V T0 (fun j=>listed.getD j false) all.size,fs:=fs,pend:=pd,h:=H m } a →
      unl listed all.size≤fuel+1→wpOpIn (q2L B.ro) n0 P all Q i (wpAnyIn (q2L B.ro) n0 P .any all Q fuel (listed.setIfInBounds i true)) a X.w)
    (hsuf:∀i j,m≤i→i<all.size→j<i→((q4V all.toList).getD i 0).testBit j=true) :
    ∀(fuel:Nat) (listed:Array Bool) (X:Ctx) (a:Act) (t:Nat),listed.size=all.size→qf6 all (fun j=>listed.getD j false)→(∀i,m≤i→i<all.size→listed.getD i false=false) →
      t≤m→(∀k,k<t→(D k).isE=true→listed.getD k false=true)→(∀k,t≤k→k<m→(D k).isE=true→listed.getD k false=false) →
      unl listed all.size≤fuel→Sim E B X { t:=TLp (wt all) V T0 (fun j=>listed.getD j false) all.size,fs:=fs,pend:=pd,h:=q0P D (fun j=>listed.getD j false) m (H t) } a→wpAnyIn (q2L B.ro) n0 P .any all Q fuel listed a X.w:=by
  intro fuel
  have toEnd:∀(listed:Array Bool) (t:Nat),t≤m→(∀k,t≤k→k<m→(D k).isE=true→listed.getD k false=false)→(∀j,j<m→listed.getD j false=true)→q0P D (fun j=>listed.getD j false) m (H t)=H m:=by
    intro listed t htm h2 hall
    have:=qbb hms hV (m-t) t (by omega) fun k k1 k2=>by
      cases hde:(D k).isE with
      | false=>rfl
      | true=>have:=h2 k k1 (by omega) hde;rw[hall k (by omega)] at this;cases this
    rw[show t+(m-t)=m by omega] at this
    rw[this]
    exact qlS m fun a s hm=>by
      have h3:listed.getD a false=false:=hm.2.2
      rw[hall a hm.1] at h3;cases h3
  have fin:∀(listed:Array Bool) (X:Ctx) (a:Act) (t:Nat),listed.size=all.size→(∀i,m≤i→i<all.size→listed.getD i false=false)→t≤m→(∀k,t≤k→k<m→(D k).isE=true→listed.getD k false=false)→Region.ready .any all listed=[] →
      Sim E B X { t:=TLp (wt all) V T0 (fun j=>listed.getD j false) all.size,fs:=fs,pend:=pd,h:=q0P D (fun j=>listed.getD j false) m (H t) } a→Q .normal a X.w:=by
    intro listed X a t hsz hm htm h2 hr hs
    have hall:=qpB hd hsz hr
    rcases Nat.lt_or_ge m all.size with hlt|hge
    · have:=hm m (Nat.le_refl _) hlt
      rw[hall m hlt] at this;cases this
    · rw[toEnd listed t htm h2 fun j hj=>hall j (by omega)] at hs
      rw[stL (L':=fun _=>true) all.size fun j hj=>hall j hj] at hs
      exact hq hge X a hs
  induction fuel with
  | zero =>
    intro listed X a t hsz hcl hm htm h1 h2 hu hs
    have hr:Region.ready .any all listed=[]:=by
      apply List.eq_nil_iff_forall_not_mem.2
      intro j hj
      rw[mem_ready] at hj
      obtain⟨h1,o,h2,_⟩:=hj
      have hj':=(Array.getElem?_eq_some_iff.1 h2).1
      have:=qol (listed:=listed) (Nat.le_zero.1 hu) j hj'
      have hj2:j<listed.size:=by omega
      simp[Array.getD_eq_getD_getElem?,hj2] at this h1
      rw[this] at h1;cases h1
    exact⟨hr,fin listed X a t hsz hm htm h2 hr hs⟩
  | succ fuel ih =>
    intro listed X a t hsz hcl hm htm hlo hhi hu hs
    refine⟨fun hr=>fin listed X a t hsz hm htm hhi hr hs,fun i hi=>?_⟩
    have hri:=hi
    rw[mem_ready] at hi
    obtain⟨h1,o,ho,hedge⟩:=hi
    have hin:=(Array.getElem?_eq_some_iff.1 ho).1
    have hil:i<listed.size:=by omega
    have hLi:listed.getD i false=false:=by simpa[Array.getD_eq_getD_getElem?,hil] using h1
    have hedge':∀e,e∈o.after.toList→Region.binds .any e=true→listed.getD e.on false=true:=fun e he hb=>hedge e (by simpa using he) hb
    have hcl':=qiL hsz ho hcl hedge'
    have hget:∀j,(listed.setIfInBounds i true).getD j false=if j=i then true else listed.getD j false:=fun j=>ua hil
    have before:∀k,k≠i→qqJ (q4V all.toList) i k=true→listed.getD k false=true:=by
      intro k hki hk
      have:=qly hd hcl' i k (by show (listed.setIfInBounds i true).getD i false=true;rw[ua hil,if_pos rfl]) hk
      have h':(listed.setIfInBounds i true).getD k false=true:=this
      rwa [ua hil,if_neg hki] at h'
    have behind:∀k,qqJ (q4V all.toList) k i=true→listed.getD k false=false:=by
      intro k hk
      cases hl:listed.getD k false with
      | false=>rfl
      | true =>
        have:=qly hd hcl k i hl hk
        have h':listed.getD i false=true:=this
        rw[hLi] at h';cases h'
    have mind:∀b s,q2o D (fun j=>listed.getD j false) m b s→b≠i→i<m→q4t s (D i)=true:=by
      intro b s hb hbi him
      refine qsz hd hms hV hX hcl hb him (fun e=>hbi e.symm) ?_
      cases hb':qqJ (q4V all.toList) i b with
      | false=>rfl
      | true =>
        have:=before b hbi hb'
        have h3:listed.getD b false=false:=hb.2.2
        rw[h3] at this;cases this
    rcases Nat.lt_or_ge i m with him|him
    · have hv:=hV i o ho him
      have hsame:∀t,t∈qtF all o→(TLp (wt all) V T0 (fun j=>listed.getD j false) all.size)[t]?=(TLp (wt all) V T0 (fun _=>true) i)[t]?:=fun t ht =>
        qy2 hd hcl ho (Nat.le_of_lt hin) hLi hedge' ht
      have hopd:∀x,x∈o.op.operands.toList→E.opd (TLp (wt all) V T0 (fun j=>listed.getD j false) all.size) x=E.opd (TLp (wt all) V T0 (fun _=>true) i) x:=fun x hx=>by
        cases x with
        | tmp t =>
          have:=hsame t (List.mem_append_left _ (List.mem_filterMap.2 ⟨.tmp t,hx,rfl⟩))
          simp only[Env.opd,List.getD_eq_getElem?_getD]
          rw[this]
        | const v=>rfl
        | global g=>rfl
        | func f=>rfl
      have hwant:q1t all o (TLp (wt all) V T0 (fun j=>listed.getD j false) all.size)=q1t all o (TLp (wt all) V T0 (fun _=>true) i):=by
        unfold q1t
        cases hg:o.guard with
        | none=>rfl
        | some p =>
          obtain⟨j,want⟩:=p
          simp only
          cases hj:(all[j]?).bind (·.dst) with
          | none=>rfl
          | some d =>
            simp only
            rw[hsame d (by simp[qtF,hg,hj])]
      have hun:unl (listed.setIfInBounds i true) all.size≤fuel:=by
        have:=(qr2 hil hLi all.size).2 hin;omega
      have hdi:wt all i=o.dst:=by simp[wt,ho]
      have hmask:(∀s,D i≠.alc s)→∀h,q0P D (fun j=>(listed.setIfInBounds i true).getD j false) m h=q0P D (fun j=>listed.getD j false) m h:=fun hna h=>qga m fun k s _ hk=>by
        rw[hget k,if_neg (fun e=>by subst e;exact hna s hk)]
      have hnext:∀(X':Ctx) (u:Value) (t':Nat),t'≤m→(∀k,k<t'→(D k).isE=true→k=i∨listed.getD k false=true)→(∀k,t'≤k→k<m→(D k).isE=true→k≠i∧listed.getD k false=false) →
          Sim E B X' { t:=TLp (wt all) V T0 (fun j=>listed.getD j false) all.size,fs:=fs,pend:=pd,h:=q0P D (fun j=>(listed.setIfInBounds i true).getD j false) m (H t') } a→Rep X' (V i) u →
          wpAnyIn (q2L B.ro) n0 P .any all Q fuel (listed.setIfInBounds i true) (a.put o.dst u) X'.w:=by
        intro X' u t' ht' k1 k2 hs' hu'
        refine ih _ X' _ t' (by simp[hsz]) hcl' ?_ ht' ?_ ?_ hun ?_
        · intro k hk1 hk2
          rw[ua hil,if_neg (by omega)]
          exact hm k hk1 hk2
        · intro k hk hke
          rw[ua hil]
          rcases k1 k hk hke with rfl|h
          · rw[if_pos rfl]
          · split
            · rfl
            · exact h
        · intro k hk hk2 hke
          obtain⟨g1,g2⟩:=k2 k hk hk2 hke
          rw[ua hil,if_neg g1];exact g2
        · have hput:=hs'.put hu' o.dst
          have hT:TLp (wt all) V T0 (fun j=>(listed.setIfInBounds i true).getD j false) all.size=qeN (TLp (wt all) V T0 (fun j=>listed.getD j false) all.size) o.dst (V i):=by
            rw[←hdi,←qxS hin hLi]
            · exact stL all.size fun j _=>ua hil
            · intro k hk hki t ht he
              cases hk':all[k]? with
              | none=>simp[wt,hk'] at he
              | some ok =>
                simp only[wt,hk',Option.bind_some] at he
                rw[hdi] at ht
                exact(hd.dst i k o ok ho hk' hki t he).1 ht
          rw[hT]
          exact hput
      have between:∀k,k<m→(D k).isE=true→(t≤k∧k<i∨i<k∧k<t)→qqJ (q4V all.toList) i k=false∧qqJ (q4V all.toList) k i=false:=by
        intro k hkm hke hk
        rcases hk with⟨q1,q2⟩|⟨q1,q2⟩
        · have hLk:=hhi k q1 hkm hke
          refine⟨?_,?_⟩
          · cases hb:qqJ (q4V all.toList) i k with
            | false=>rfl
            | true=>rw[before k (by omega) hb] at hLk;cases hLk
          · cases hb:qqJ (q4V all.toList) k i with
            | false=>rfl
            | true=>have:=qsp hd k i hb;omega
        · have hLk:=hlo k q2 hke
          refine⟨?_,?_⟩
          · cases hb:qqJ (q4V all.toList) i k with
            | false=>rfl
            | true=>have:=qsp hd i k hb;omega
          · cases hb:qqJ (q4V all.toList) k i with
            | false=>rfl
            | true=>rw[behind k hb] at hLk;cases hLk
      unfold wpOpIn
      rw[ho]
      simp only
      rcases hv with⟨w1,w2,w3,w4⟩|⟨w1,u,w3,w4,w2⟩|⟨w1,w3,ty,z,s,w4,w5,w6,w7,w8⟩
      ·
        rw[q4u hs.t (hwant.trans w1)]
        simp only[Bool.false_eq_true,if_false]
        refine⟨fun _ _=>trivial,hnext X _ t htm (fun k hk hke=>.inr (hlo k hk hke)) (fun k hk hk2 hke=>⟨fun e=>?_,hhi k hk hk2 hke⟩) (by rw[hmask fun s e=>by rw[w4] at e;cases e];exact hs) (by rw[w2];exact .skip)⟩
        rw[e,w4] at hke;cases hke
      · rw [q4u hs.t (hwant.trans w1)]
        simp only[if_true]
        unfold qlj at w3
        have hna:∀s,D i≠.alc s:=fun s e=>by rw[w2] at e;unfold qaz at e;split at e<;>cases e
        cases he:qpb E (H i) (E.opd (TLp (wt all) V T0 (fun _=>true) i)) o.op with
        | true =>
          rw[he] at w3
          have hDi:(D i).isE=true:=by rw[w2,qy3];exact he
          have hDi2:D i=.eff (H i).length (qzK (H i) (E.opd (TLp (wt all) V T0 (fun _=>true) i)) o.op) (quB (E.opd (TLp (wt all) V T0 (fun _=>true) i)) o.op) (qgY (H (i+1))) u.men (qxB (H i) (E.opd (TLp (wt all) V T0 (fun _=>true) i)) o.op):=by
            rw[w2];unfold qaz;rw[he]
          have hbet:∀k,k<m→(D k).isE=true→¬(t≤k∧k<i∨i<k∧k<t):=by
            intro k hkm hke hk
            obtain⟨g1,g2⟩:=between k hkm hke hk
            rcases hk with⟨q1,q2⟩|⟨q1,q2⟩
            · have:=hX k i q2 him
              unfold q2h at this
              cases hDk:D k<;>rw[hDk] at hke<;>first|(cases hke;done)|skip
              cases hDi':D i<;>rw[hDi'] at hDi<;>first|(cases hDi;done)|skip
              rw[hDk,hDi'] at this
              simp only[Bool.true_and] at this
              rw[g1] at this;cases this
            · have:=hX i k q1 hkm
              unfold q2h at this
              cases hDk:D k<;>rw[hDk] at hke<;>first|(cases hke;done)|skip
              cases hDi':D i<;>rw[hDi'] at hDi<;>first|(cases hDi;done)|skip
              rw[hDk,hDi'] at this
              simp only[Bool.true_and] at this
              rw[g2] at this;cases this
          have hHt:H t=H i:=by
            rcases Nat.le_total t i with hti|hti
            · have:=qbb hms hV (i-t) t (by omega) fun k k1 k2=>by
                cases hde:(D k).isE with
                | false=>rfl
                | true=>exact absurd (.inl ⟨k1,by omega⟩) (hbet k (by omega) hde)
              rw[show t+(i-t)=i by omega] at this
              exact this.symm
            · rcases Nat.eq_or_lt_of_le hti with hti|hti
              · rw[hti]
              · have:=hlo i hti hDi
                rw[hLi] at this;cases this
          rw[hHt] at hs
          have w3':=(qkr (D:=D) (L:=fun j=>listed.getD j false) w3 m fun b s hb=>by
            have hbi:b≠i:=fun e=>hna s (by rw[←e];exact hb.2.1)
            have:=mind b s hb hbi him
            rw[hDi2] at this
            obtain⟨_,q2,_,_,q5⟩:=qeo this
            refine⟨?_,q2,q5⟩
            have hz:∃z,(H 0)[s]?=some z:=by
              rcases hV b _ (Array.getElem?_eq_getElem (by have:=hb.1;omega)) hb.1 with⟨_,_,_,q⟩|⟨_,u,_,_,q⟩|⟨_,_,_,z,s',_,_,q1,q,_⟩
              · rw[hb.2.1] at q;cases q
              · have q':=hb.2.1.symm.trans q
                unfold qaz at q';split at q'<;>cases q'
              · rw[hb.2.1] at q;cases q;exact⟨z,q1⟩
            obtain⟨z,hz⟩:=hz
            have:=qog hms hV hz t htm fun k hk N w q mm v mk hDk=>by
              have:=q9l hd hms hV hX hcl hb (k:=k) (by omega) (hlo k hk (by rw[hDk];rfl))
              rw[hDk] at this
              exact(qeo this).1
            rw[hHt] at this
            exact qw this).1
          have hcg:=qrE (E:=E) (h:=q0P D (fun j=>listed.getD j false) m (H i)) hopd
          rw[←hcg.2] at w3'
          obtain⟨g1,g2⟩:=qrN hE hS (st:={ t:=TLp (wt all) V T0 (fun j=>listed.getD j false) all.size,fs:=fs,pend:=pd,h:=q0P D (fun j=>listed.getD j false) m (H i) }) hs w3' (o:=o)
            (next:=fun a w=>wpAnyIn (q2L B.ro) n0 P .any all Q fuel (listed.setIfInBounds i true) a w) (Q:=Q) fun X' v hs' hv' =>
              hnext X' v (i+1) (by omega) (fun k hk hke=>by
                rcases Nat.lt_or_ge k i with hki|hki
                · right
                  rcases Nat.lt_or_ge k t with hkt|hkt
                  · exact hlo k hkt hke
                  · exact absurd (.inl ⟨hkt,hki⟩) (hbet k (by omega) hke)
                · exact .inl (by omega)) (fun k hk hk2 hke=>⟨by omega,by
                rcases Nat.lt_or_ge k t with hkt|hkt
                · exact absurd (.inr ⟨by omega,hkt⟩) (hbet k hk2 hke)
                · exact hhi k hkt hk2 hke⟩) (by rw[hmask hna];exact hs') (by rw[w4];exact qpj hv')
          exact qkx B.ro n0 g1 g2
        | false =>
          rw[he] at w3
          obtain⟨av,k1,k2⟩:=bind_some w3
          simp only[Tree.run,Option.some.injEq,Prod.mk.injEq] at k2
          obtain⟨rfl,_⟩:=k2
          have hDi:(D i).isE=false:=by rw[w2,qy3];exact he
          have hDi':D i=.still (qxO E (E.opd (TLp (wt all) V T0 (fun _=>true) i)) o.op) av.men:=by rw[w2];unfold qaz;rw[he]
          have hclear:∀k N w q mm v mk,k<m→D k=.eff N w q mm v mk→(t≤k∧k<i∨i<k∧k<t)→qpY (qxO E (E.opd (TLp (wt all) V T0 (fun _=>true) i)) o.op) N w=true:=by
            intro k N w q mm v mk hkm hk hkk
            obtain⟨g1,g2⟩:=between k hkm (by rw[hk];rfl) hkk
            rcases hkk with⟨q1,q2⟩|⟨q1,q2⟩
            · have:=hX k i q2 him
              rw[hk,hDi'] at this
              simp only[q2h,Bool.true_and] at this
              rw[g1] at this
              simpa using this
            · have:=hX i k q1 hkm
              rw[hk,hDi'] at this
              simp only[q2h,Bool.true_and] at this
              rw[g2] at this
              simpa using this
          have hval:(q8K E (callS (q0P D (fun j=>listed.getD j false) m (H t))) (q0P D (fun j=>listed.getD j false) m (H t)) (E.opd (TLp (wt all) V T0 (fun _=>true) i)) o.op).run=some av:=by
            have hR:(∃R,qxO E (E.opd (TLp (wt all) V T0 (fun _=>true) i)) o.op=some R∧∀b,b∈R→(H t)[b]?=(H i)[b]?)∨H t=H i:=by
              by_cases hno:∃k N w q mm v mk,k<m∧D k=.eff N w q mm v mk∧(t≤k∧k<i∨i<k∧k<t)
              · obtain⟨k,N,w,q,mm,v,mk,a1,a2,a3⟩:=hno
                obtain⟨R,r1,_⟩:=qkB (hclear k N w q mm v mk a1 a2 a3)
                refine .inl ⟨R,r1,fun b hb=>?_⟩
                have clr:∀k N w q mm v mk,k<m→D k=.eff N w q mm v mk→(t≤k∧k<i∨i<k∧k<t)→b<N∧b∉w:=by
                  intro k N w q mm v mk b1 b2 b3
                  obtain⟨R',q1,q2⟩:=qkB (hclear k N w q mm v mk b1 b2 b3)
                  rw[r1] at q1;cases q1
                  exact q2 b hb
                rcases Nat.le_total t i with hti|hti
                · have:=qoJ hms hV (b:=b) (i-t) t (by omega) fun k c1 c2 N w q mm v mk c3=>clr k N w q mm v mk (by omega) c3 (.inl ⟨c1,by omega⟩)
                  rw[show t+(i-t)=i by omega] at this
                  exact this.symm
                · have:=qoJ hms hV (b:=b) (t-i) i (by omega) fun k c1 c2 N w q mm v mk c3=>clr k N w q mm v mk (by omega) c3 (.inr ⟨by
                    rcases Nat.eq_or_lt_of_le c1 with c1|c1
                    · rw[←c1,hDi'] at c3;cases c3
                    · exact c1,by omega⟩)
                  rw[show i+(t-i)=t by omega] at this
                  exact this
              · right
                rcases Nat.le_total t i with hti|hti
                · have:=qbb hms hV (i-t) t (by omega) fun k c1 c2=>by
                    cases hDk:D k with
                    | eff N w q mm v mk=>exact absurd ⟨k,N,w,q,mm,v,mk,by omega,hDk,.inl ⟨c1,by omega⟩⟩ hno
                    | _=>rfl
                  rw[show t+(i-t)=i by omega] at this
                  exact this.symm
                · have:=qbb hms hV (t-i) i (by omega) fun k c1 c2=>by
                    cases hDk:D k with
                    | eff N w q mm v mk =>
                      rcases Nat.eq_or_lt_of_le c1 with c1|c1
                      · rw[←c1,hDi'] at hDk;cases hDk
                      · exact absurd ⟨k,N,w,q,mm,v,mk,by omega,hDk,.inr ⟨c1,by omega⟩⟩ hno
                    | _=>rfl
                  rw[show i+(t-i)=t by omega] at this
                  exact this
            by_cases hmi:∃b s,q2o D (fun j=>listed.getD j false) m b s
            · obtain⟨b0,s0,hb0⟩:=hmi
              have hbi:∀b s,q2o D (fun j=>listed.getD j false) m b s→b≠i:=fun b s hb e=>hna s (by rw[←e];exact hb.2.1)
              have hm0:=mind b0 s0 hb0 (hbi b0 s0 hb0) him
              rw[hDi'] at hm0
              obtain⟨⟨R,r1,_⟩,_⟩:=qjf hm0
              refine qjl hmo r1 (fun b hb=>?_) k1
              rw[qdb m fun c s hcs e=>?_]
              · rcases hR with⟨R',r2,r3⟩|hR
                · rw[r1] at r2;cases r2
                  exact r3 b hb
                · rw[hR]
              · have:=mind c s hcs (hbi c s hcs) him
                rw[hDi',r1] at this
                obtain⟨⟨R',r2,r3⟩,_⟩:=qjf this
                cases r2
                rw[e] at r3
                exact r3 hb
            · rw[qlS m fun b s hb=>hmi ⟨b,s,hb⟩]
              rcases hR with⟨R,r1,r2⟩|hR
              · exact qjl hmo r1 r2 k1
              · rw[hR];exact k1
          rw[←qo1 hopd] at hval
          refine qkx B.ro n0 (qnT hE hc hs hval fun X' v hs' hv'=>hnext X' v t htm (fun k hk hke=>.inr (hlo k hk hke)) (fun k hk hk2 hke=>⟨fun e=>?_,hhi k hk hk2 hke⟩) (by rw[hmask hna];exact hs') (by rw[w4];exact qpj hv')) (fun c hc=>by rw[hc] at hval;simp[q8K,qac,Tree.run] at hval)
          rw[e,hDi] at hke;cases hke
      ·
        rw[q4u hs.t (hwant.trans w1)]
        simp only[if_true]
        have hmi:q2o D (fun j=>listed.getD j false) m i s:=⟨him,w7,hLi⟩
        have hzt:(H t)[s]?=some z:=qog hms hV w6 t htm fun k hk N w q mm v mk hDk=>by
          have:=q9l hd hms hV hX hcl hmi (k:=k) (by omega) (hlo k hk (by rw[hDk];rfl))
          rw[hDk] at this
          exact(qeo this).1
        have hmt:s∉qgY (H t):=qvl hms hV (hsl i s him w7).2.2 t htm fun k hk N w q mm v mk hDk=>by
          have:=q9l hd hms hV hX hcl hmi (k:=k) (by omega) (hlo k hk (by rw[hDk];rfl))
          rw[hDk] at this
          exact(qeo this).2.2.1
        have hdead:=qeg (D:=D) (L:=fun j=>listed.getD j false) (h:=H t) (qw hzt) m hmi
        have htm2:s∉AV.menL (TLp (wt all) V T0 (fun j=>listed.getD j false) all.size):=qv9 (hsl i s him w7).1 _ fun j hj hLj=>by
          have hjm:j<m:=by
            rcases Nat.lt_or_ge j m with h|h
            · exact h
            · have:=hm j h hj
              rw[show listed.getD j false=true from hLj] at this;cases this
          exact qxg (hV j _ (Array.getElem?_eq_getElem hj) hjm) (q9l hd hms hV hX hcl hmi hjm hLj)
        have hDi:(D i).isE=false:=by rw[w7];rfl
        refine qkx B.ro n0 (qnX hE hs w4 w5 hdead (qqC hmt m) htm2 (hsl i s him w7).2.1 fun X' v hs' hv'=>hnext X' v t htm (fun k hk hke=>.inr (hlo k hk hke)) (fun k hk hk2 hke=>⟨fun e=>?_,hhi k hk hk2 hke⟩) ?_ (by rw[w8];exact hv')) (fun c hc=>by rw[hc] at w4;cases w4)
        · rw[e,hDi] at hke;cases hke
        · have e1:=qwi (D:=D) (L:=fun j=>listed.getD j false) (h:=H t) hmi hzt fun a' s' hm' hne=>by
            intro e
            have:=mind a' s' hm' hne him
            rw[w7,e] at this
            simp[q4t] at this
          have e2:q0P D (fun j=>(listed.setIfInBounds i true).getD j false) m (H t)=q0P D (fun j=>if j=i then true else listed.getD j false) m (H t):=qga m fun k _ _ _=>hget k
          rw[e2,e1]
          exact hs'
    · have hall:∀j,j<m→listed.getD j false=true:=fun j hj=>before j (by omega) (hsuf i j him hin (by omega))
      rw[toEnd listed t htm hhi hall] at hs
      exact hlast i fuel listed X a hin him hsz hri hcl hm hall hs hu
end
theorem qkC{n:Nat}(i:Nat):(Array.replicate n false).getD i false=false:=by
 rcases Nat.lt_or_ge i n with h|h<;>simp[Array.getD_eq_getD_getElem?,h]
theorem qxr(listed:Array Bool):∀n,unl listed n≤n
 | 0=>Nat.le_refl _
 | n+1=>by simp only[unl];have:=qxr listed n;split<;>omega
theorem qwX(all:Array Oper):q1b all≤all.size:=by
 unfold q1b
 simp only
 cases hf:(List.range all.toList.length).find? _ with
 | none=>simp
 | some m=>
  have:=List.mem_of_find?_eq_some hf
  simp at this
  simp;omega
theorem qiq(all:Array Oper){i j:Nat}(hj:q1b all≤j)(hjn:j<all.size)(hij:i<j):((q4V all.toList).getD j 0).testBit i=true:=by
 unfold q1b at hj
 simp only at hj
 cases hf:(List.range all.toList.length).find? (fun m=>(List.range all.toList.length).all fun j=>decide (j<m)||(List.range j).all fun i=>((q4V all.toList).getD j 0).testBit i) with
 | none=>rw[hf] at hj;simp at hj;omega
 | some m=>
  rw[hf] at hj
  simp only[Option.getD_some] at hj
  have h:=List.find?_some hf
  rw[List.all_eq_true] at h
  have h2:=h j (List.mem_range.2 (by simpa using hjn))
  simp only[Bool.or_eq_true,decide_eq_true_eq,List.all_eq_true,List.mem_range] at h2
  rcases h2 with h2|h2
  ·omega
  ·exact h2 i hij
section
variable {E:Env} {P:Program} {B:Base} {all:Array Oper} {Q:Exit→Act→World→Prop} {callH:q6r} {n0:Nat}
theorem quU(hE:E.tok P)(hcH:CallOK E P callH B)(hd:DrawOk all){st':St}(hq:∀X' a',Sim E B X' st' a'→Q .normal a' X'.w):∀(l:List Oper) (i:Nat),all.toList.drop i=l→q1b all≤i →
  ∀(fuel:Nat) (listed:Array Bool) (X:Ctx) (a:Act) (st:St),listed.size=all.size→(∀j,j<i→j<all.size→listed.getD j false=true)→(∀j,i≤j→listed.getD j false=false)→unl listed all.size≤fuel →
   Sim E B X st a→(qg1 E callH all i l st).run=some st'→wpAnyIn (q2L B.ro) n0 P .any all Q fuel listed a X.w:=by
 intro l
 induction l with
 | nil=>
  intro i hl hm fuel listed X a st hsz hlo hhi hun hs h
  simp only[qg1,Tree.run,Option.some.injEq] at h
  subst h
  have hi:all.size≤i:=by simpa using List.drop_eq_nil_iff.1 hl
  have hr:Region.ready .any all listed=[]:=by
   apply List.eq_nil_iff_forall_not_mem.2
   intro j hj
   rw[mem_ready] at hj
   obtain⟨q1,o',q2,_⟩:=hj
   have hj':=(Array.getElem?_eq_some_iff.1 q2).1
   have hjt:=hlo j (by omega) hj'
   have hj2:j<listed.size:=by omega
   rw[Array.getD_eq_getD_getElem?,Array.getElem?_eq_getElem hj2] at hjt q1
   simp only[Option.getD_some] at hjt q1
   rw[hjt] at q1;cases q1
  cases fuel with
  | zero=>exact⟨hr,hq X a hs⟩
  | succ fuel=>exact⟨fun _=>hq X a hs,fun j hj=>by rw[hr] at hj;cases hj⟩
 | cons o rest ih=>
  intro i hl hm fuel listed X a st hsz hlo hhi hun hs h
  have hin:i<all.size:=by
   rcases Nat.lt_or_ge i all.size with h1|h1
   ·exact h1
   ·rw[List.drop_eq_nil_of_le (by simpa using h1)] at hl;cases hl
  have ho:all[i]?=some o:=by
   have:=List.getElem?_drop (xs:=all.toList) (i:=i) (j:=0)
   rw[hl] at this
   simpa using this.symm
  have hrest:all.toList.drop (i+1)=rest:=by rw[←List.drop_drop,hl];rfl
  have hil:i<listed.size:=by omega
  have hcl:qf6 all fun j=>listed.getD j false:=by
   intro j oj hj hL e he hb
   have hj':=(Array.getElem?_eq_some_iff.1 hj).1
   have hji:j<i:=by
    rcases Nat.lt_or_ge j i with h1|h1
    ·exact h1
    ·have hL':listed.getD j false=true:=hL
     rw[hhi j h1] at hL';cases hL'
   have:=hd.edge j oj hj e he hb
   exact hlo e.on (by omega) (by omega)
  have hpos:0<unl listed all.size:=by
   rcases Nat.eq_zero_or_pos (unl listed all.size) with h0|h0
   ·have:=qol h0 i hin
    rw[hhi i (Nat.le_refl _)] at this;cases this
   ·exact h0
  obtain⟨fuel,rfl⟩:∃f,fuel=f+1:=⟨fuel-1,by omega⟩
  have hLi:=hhi i (Nat.le_refl _)
  have hone:∀j,j∈Region.ready .any all listed→j=i:=by
   intro j hj
   rw[mem_ready] at hj
   obtain⟨q1,oj,q2,gedge⟩:=hj
   have hj':=(Array.getElem?_eq_some_iff.1 q2).1
   have hj2:j<listed.size:=by omega
   have hLj:listed.getD j false=false:=by simpa[Array.getD_eq_getD_getElem?,hj2] using q1
   rcases Nat.lt_trichotomy j i with h1|h1|h1
   ·rw[hlo j h1 hj'] at hLj;cases hLj
   ·exact h1
   ·have hedge':∀e,e∈oj.after.toList→Region.binds .any e=true→listed.getD e.on false=true:=fun e he hb=>gedge e (by simpa using he) hb
    have hcl':=qiL hsz q2 hcl hedge'
    have hb':=qiq all (by omega) hj' h1
    have:=qly hd hcl' j i (by show (listed.setIfInBounds j true).getD j false=true;rw[ua hj2,if_pos rfl]) hb'
    have h':(listed.setIfInBounds j true).getD i false=true:=this
    rw[ua hj2,if_neg (by omega),hLi] at h'
    cases h'
  refine⟨fun hr=>?_,fun j hj=>?_⟩
  ·
   exfalso
   have:=qpB hd hsz hr i hin
   rw[hLi] at this;cases this
  ·obtain rfl:=hone j hj
   have hgo:∀(X'':Ctx) (a'':Act) (s'':St),Sim E B X'' s'' a''→(qg1 E callH all (j+1) rest s'').run=some st'→wpAnyIn (q2L B.ro) n0 P .any all Q fuel (listed.setIfInBounds j true) a'' X''.w:=by
    intro X'' a'' s'' hs'' h''
    refine ih (j+1) hrest (by omega) fuel _ X'' a'' s'' (by simp[hsz]) (fun k hk hk2=>?_) (fun k hk=>?_) ?_ hs'' h''
    ·rw[ua hil];split
     ·rfl
     ·exact hlo k (by omega) hk2
    ·rw[ua hil,if_neg (by omega)];exact hhi k (by omega)
    ·have:=(qr2 hil hLi all.size).2 hin;omega
   simp only[qg1] at h
   unfold wpOpIn
   rw[ho]
   simp only
   cases hwa:q1t all o st.t with
   | none=>rw[hwa] at h;cases h
   | some b=>
    rw[hwa] at h
    rw[q4u hs.t hwa]
    cases b with
    | true=>
     simp only[if_true]
     obtain⟨s1,k1,k2⟩:=bind_some h
     obtain⟨s2,k3,k4⟩:=bind_some k2
     exact qjn hE hcH hs k1 fun X'' a'' hs''=>hgo X'' a'' s2 (qlD hs'' k3) k4
    | false=>
     simp only[Bool.false_eq_true,if_false]
     exact⟨fun _ _=>trivial,hgo X _ (quR o st) (hs.put (av:=.skip) .skip o.dst) h⟩
end
theorem qwB(h h':List Blk):qgY (h++h')=qgY h++qgY h':=by
 induction h with
 | nil=>rfl
 | cons k h ih=>simp[qgY,ih]
theorem qtm{zs:List Blk}(h:∀z,z∈zs→z.menB=[]){s:Nat}:s∉qgY zs:=by
 induction zs with
 | nil=>intro h;cases h
 | cons z zs ih=>
  simp only[qgY,List.mem_append,not_or]
  exact⟨by rw[h z List.mem_cons_self];simp,ih fun z hz=>h z (List.mem_cons_of_mem _ hz)⟩
theorem qqD{E:Env}{P:Program}(hm:P.follows .mixedOrders=true)(hE:E.tok P)(hS:E.specs P){callH:q6r}{B:Base}(hcH:CallOK E P callH B){callS:List Blk→q8U}(hc:qfO E P callS)(hmo:q8k E callS){id:Nat}{all:Array Oper}{X:Ctx}{st st':St}{a:Act}
  (hs:Sim E B X st a) (h:(qv4 E callH callS all st).run=some st') {Q:Exit→Act→World→Prop} {n0:Nat} (hq:∀X' a',Sim E B X' st' a'→Q .normal a' X'.w):(Code.region id all true).wpIn (q2L B.ro) n0 P Q a X.w:=by
 apply wpIn_region_any hm
 have hs1:=hs.drawn (X.w.drawn+1)
 generalize hX1:({ X with w:={ X.w with drawn:=X.w.drawn+1 } }:Ctx)=X1 at hs1
 have hw:({ X.w with drawn:=X.w.drawn+1 }:World)=X1.w:=by rw[←hX1]
 rw[hw]
 obtain⟨T0,fs,hb,pd⟩:=st
 unfold qv4 at h
 by_cases hdb:quy all=false
 ·rw[if_pos hdb] at h;cases h
 ·rw[if_neg hdb] at h
  have hd:=qwW (by simpa using hdb:quy all=true)
  have hcl0:qf6 all fun j=>(Array.replicate all.size false).getD j false:=by
   intro i o _ hL
   have hL':(Array.replicate all.size false).getD i false=true:=hL
   rw[qkC] at hL';cases hL'
  have hdst:wt all=fun i=>(all.toList[i]?).bind (·.dst):=by funext i;simp[wt]
  have hsl:=qwX all
  simp only at h
  cases hal:qhx E (all.toList.take (q1b all)) with
  | none=>rw[hal] at h;cases h
  | some zs=>
  rw[hal] at h
  simp only at h
  split at h
  case h_2=>cases h
  rename_i hzc
  obtain⟨r,h1,h2⟩:=bind_some h
  obtain⟨V,H,D,e0,e1,e2,_,e4,e5,e6⟩:=qnc (h0:=hb++zs) _ 0 hb.length [] _ r zs hal (fun j z hj=>by rw[List.getElem?_append_right (by omega),Nat.add_sub_cancel_left];exact hj) h1
  simp only[Nat.zero_add] at e1 e2 e4 e5 e6
  have htlen:(all.toList.take (q1b all)).length=q1b all:=by simp;omega
  have htk:∀i,i<q1b all→(all.toList.take (q1b all))[i]?=all[i]?:=by
   intro i hi
   rw[List.getElem?_take,if_pos hi];simp
  have hTm:∀i,i≤q1b all→TLp (wt all) V T0 (fun _=>true) i=qaT V 0 ((all.toList.take (q1b all)).take i) T0:=by
   intro i hi
   rw[hdst,qxm i (by simp;omega),List.take_take,Nat.min_eq_left hi]
  have hVA:∀i o,all[i]?=some o→i<q1b all→qgL E callS all (H 0) i o (TLp (wt all) V T0 (fun _=>true) i) (V i) (H i) (H (i+1)) (D i):=by
   intro i o ho hi
   rw[hTm i (by omega)]
   rw[e0]
   exact e2 i o (by rw[htk i hi];exact ho)
  have hs0:∀(X':Ctx) (a':Act),Sim E B X' { t:=TLp (wt all) V T0 (fun _=>true) (q1b all),fs:=fs,pend:=pd,h:=H (q1b all) } a'→Sim E B X' r a':=by
   intro X' a' hs'
   have:r={ t:=TLp (wt all) V T0 (fun _=>true) (q1b all),fs:=fs,pend:=pd,h:=H (q1b all) }:=by
    rw[hTm _ (Nat.le_refl _),e1,List.take_of_length_le (i:=q1b all) (l:=all.toList.take (q1b all)) (by simp;omega),htlen]
   rw[this];exact hs'
  have hsl2:∀i s,i<q1b all→D i=.alc s→s∉AV.menL T0∧s∉qq9 fs∧s∉qgY (H 0):=by
   intro i s hi hds
   have hs':=e6 i s (by rw[htlen];exact hi) hds
   have hne:zs.isEmpty=false:=by
    cases zs with
    | nil=>simp at hs';omega
    | cons _ _=>rfl
   rw[hne] at hzc
   simp only[Bool.false_or,Bool.and_eq_true,List.all_eq_true,List.mem_append] at hzc
   obtain⟨c1,c2⟩:=hzc
   have lt:∀b,(b∈AV.menL T0∨b∈qq9 fs)∨b∈qgY hb→b<hb.length:=fun b hb'=>Nat.blt_eq.mp (c1 b hb')
   refine⟨fun hm=>?_,fun hm=>?_,fun hm=>?_⟩
   ·have:=lt s (.inl (.inl hm));omega
   ·have:=lt s (.inl (.inr hm));omega
   ·rw[e0,qwB] at hm
    rcases List.mem_append.1 hm with hm|hm
    ·have:=lt s (.inr hm);omega
    ·exact qtm (fun z hz=>by simpa using c2 z hz) hm
  obtain⟨X2,hX2,hs2⟩:=Sim.padN zs.length hs1
  rw[←hX2]
  have hpad:hb++List.replicate zs.length .dead=q0P D (fun j=>(Array.replicate all.size false).getD j false) (q1b all) (H 0):=by
   rw[e0]
   apply List.ext_getElem?
   intro b
   rcases Nat.lt_or_ge b hb.length with hlt|hge
   ·rw[List.getElem?_append_left hlt,qdb _ fun a' s hm' e=>by
     have:=e6 a' s (by rw[htlen];exact hm'.1) hm'.2.1
     omega,List.getElem?_append_left hlt]
   ·rcases Nat.lt_or_ge b (hb.length+zs.length) with hlt|hge2
    ·obtain⟨i,q1,q2⟩:=e5 (b-hb.length) (by omega)
     rw[htlen] at q1
     rw[show hb.length+(b-hb.length)=b by omega] at q2
     rw[List.getElem?_append_right hge,List.getElem?_replicate_of_lt (by omega)]
     exact(qeg (by simp;omega) (q1b all) ⟨q1,q2,qkC i⟩).symm
    ·rw[List.getElem?_eq_none (by simp;omega),List.getElem?_eq_none (by rw[q8q];simp;omega)]
  have start:Sim E B X2 { t:=TLp (wt all) V T0 (fun j=>(Array.replicate all.size false).getD j false) all.size,fs:=fs,pend:=pd,h:=q0P D (fun j=>(Array.replicate all.size false).getD j false) (q1b all) (H 0) } a:=by
   have:TLp (wt all) V T0 (fun j=>(Array.replicate all.size false).getD j false) all.size=T0:=by
    have:∀n,TLp (wt all) V T0 (fun j=>(Array.replicate all.size false).getD j false) n=T0:=by
     intro n
     induction n with
     | zero=>rfl
     | succ n ih=>simp only[TLp];rw[if_neg (by rw[qkC];simp),ih]
    exact this _
   rw[this,←hpad];exact hs2
  refine quN (m:=q1b all) (V:=V) (T0:=T0) (H:=H) (D:=D) (fs:=fs) hE hS hc hmo hd hsl hVA (fun i j hij hj=>e4 i j hij (by rw[htlen];exact hj)) hsl2 ?_ ?_ (fun i j h1 h2 h3=>qiq all h1 h2 h3) all.size _ X2 a 0 (by simp) hcl0 (fun i _ _=>qkC i) (Nat.zero_le _) (fun k hk=>by omega) (fun k _ _ _=>qkC k) (qxr _ _) start
  ·intro hge X' a' hs'
   have hsz:q1b all=all.size:=by omega
   rw[show TLp (wt all) V T0 (fun _=>true) all.size=TLp (wt all) V T0 (fun _=>true) (q1b all) by rw[hsz]] at hs'
   have h3:=hs0 X' a' hs'
   rw[List.drop_eq_nil_of_le (by simp;omega)] at h2
   simp only[qg1,Tree.run,Option.some.injEq] at h2
   rw[h2] at h3
   exact hq X' a' h3
  ·intro i fuel listed X' a' hin him hsz hri hcl hlm hallm hs' hun
   have hri':=hri
   rw[mem_ready] at hri'
   obtain⟨g1,o,ho,gedge⟩:=hri'
   have hil:i<listed.size:=by omega
   have hLi:listed.getD i false=false:=by simpa[Array.getD_eq_getD_getElem?,hil] using g1
   have hedge':∀e,e∈o.after.toList→Region.binds .any e=true→listed.getD e.on false=true:=fun e he hb=>gedge e (by simpa using he) hb
   have hcl':=qiL hsz ho hcl hedge'
   have hallb:∀j,j<i→listed.getD j false=true:=by
    intro j hj
    have hb':=qiq all him hin hj
    have:=qly hd hcl' i j (by show (listed.setIfInBounds i true).getD i false=true;rw[ua hil,if_pos rfl]) hb'
    have h':(listed.setIfInBounds i true).getD j false=true:=this
    rw[ua hil,if_neg (by omega)] at h'
    exact h'
   have him2:i=q1b all:=by
    rcases Nat.eq_or_lt_of_le him with h3|h3
    ·exact h3.symm
    ·have h4:=hallb _ h3
     rw[hlm _ (Nat.le_refl _) (by omega)] at h4;cases h4
   have hcut:∀n,q1b all≤n→n≤all.size→TLp (wt all) V T0 (fun j=>listed.getD j false) n=TLp (wt all) V T0 (fun _=>true) (q1b all):=by
    intro n
    induction n with
    | zero=>
     intro h3 _
     have h0:q1b all=0:=by omega
     rw[h0];rfl
    | succ n ihn=>
     intro h3 h4
     rcases Nat.eq_or_lt_of_le h3 with h5|h5
     ·rw[←h5]
      exact stL (q1b all) fun j hj=>hallb j (by omega)
     ·simp only[TLp]
      rw[if_neg (by rw[hlm n (by omega) (by omega)];simp)]
      exact ihn (by omega) (by omega)
   rw[hcut _ hsl (Nat.le_refl _)] at hs'
   have h3:=hs0 X' a' hs'
   subst him2
   exact(quU hE hcH hd hq _ (q1b all) rfl (Nat.le_refl _) (fuel+1) listed X' a' _ hsz (fun j hj _=>hallb j hj) (fun j hj=>by
    rcases Nat.lt_or_ge j all.size with h5|h5
    ·exact hlm j hj h5
    ·simp[Array.getD_eq_getD_getElem?,show listed.size≤j by omega]) hun h3 h2).2 _ hri
end Go.Eng

namespace Go.Eng
theorem HSim.base{B B':Base}{X:Ctx}(h:HSim B X)(h0:B'.w0=B.w0)(h1:B'.imps=B.imps)(h2:B'.M0=B.M0):HSim B' X:=by
 obtain⟨w0,imps,M0,fs,ro,y,pin⟩:=B
 obtain⟨w0',imps',M0',fs',ro',y',pin'⟩:=B'
 simp only at h0 h1 h2
 subst h0 h1 h2
 exact⟨h.blk,h.inj,h.notM,h.ltM,h.M0,h.newM,h.os,h.tape,h.output,h.size,h.frame,h.imps,h.impc,h.fresh,h.kept⟩
def qho(o:Obj):Prop:=∀c T fr,o≠.cells c T fr
def qag(n:Nat)(o:Obj)(l:List (Nat×Obj)):List (Nat×Obj):=l.map fun p=>if p.1=n then (n,o) else p
theorem q0a{p:Nat×Obj}{n:Nat}{o:Obj}{l:List (Nat×Obj)}(h:p∈l)(hne:p.1≠n):p∈qag n o l:=
 List.mem_map.2 ⟨p,h,if_neg hne⟩
theorem qdD{n:Nat}{o o':Obj}{l:List (Nat×Obj)}(h:(n,o)∈l):(n,o')∈qag n o' l:=
 List.mem_map.2 ⟨(n,o),h,if_pos rfl⟩
theorem qfH{p:Nat×Obj}{n:Nat}{o:Obj}{l:List (Nat×Obj)}(h:p∈qag n o l):p=(n,o)∨(p∈l∧p.1≠n):=by
 obtain⟨q,h1,h2⟩:=List.mem_map.1 h
 by_cases hq:q.1=n
 ·rw[if_pos hq] at h2;exact .inl h2.symm
 ·rw[if_neg hq] at h2;subst h2;exact .inr ⟨h1,hq⟩
structure SameCells (w w':World):Prop where
 cells:∀(n:Nat) c T fr,w.heap[n]?=some (.cells c T fr)→w'.heap[n]?=some (.cells c T fr)
 cell:∀a:Addr,a.block<w.heap.size→w'.cell? a=w.cell? a
theorem SameCells.blk{X X':Ctx}(hw:SameCells X.w X'.w)(hm:Move0 X X' some){b:Nat}{k:Blk}(hσ:X'.σ b=X.σ b)(h:yl X b k):yl X' b k:=by
 cases k with
 | cells cs=>
  obtain⟨n,c,T,e1,e2,e3⟩:=h
  exact⟨n,c,T,by rw[hσ];exact e1,hw.cells _ _ _ _ e2,e3.ext0 hm⟩
 | big cs k N l=>
  obtain⟨n,c,T,vs,e1,e2,e3,e4,e5⟩:=h
  exact⟨n,c,T,vs,by rw[hσ];exact e1,hw.cells _ _ _ _ e2,e3.ext0 hm,e4,e5⟩
 | vec e sh l=>
  rcases h with⟨e1,e2⟩|⟨n,c,e1,e2,e3⟩
  ·exact .inl ⟨by rw[hσ];exact e1,e2⟩
  ·exact .inr ⟨n,c,by rw[hσ];exact e1,hw.cells _ _ _ _ e2,e3.mono hm.M hm.w⟩
 | frz e sh l=>
  rcases h with⟨e1,e2⟩|⟨n,c,e1,e2,e3,e4⟩
  ·exact .inl ⟨by rw[hσ];exact e1,e2⟩
  ·exact .inr ⟨n,c,by rw[hσ];exact e1,hw.cells _ _ _ _ e2,e3.mono hm.M hm.w,hm.M n e4⟩
 | dead=>trivial
theorem qpL{B:Base}{X:Ctx}(hs:HSim B X){w':World}{kept':List (Nat×Obj)}(hw:SameCells X.w w')(hsz:X.w.heap.size≤w'.heap.size)(ho:w'.os=X.w.os)(ht:w'.tape=X.w.tape)(hp:w'.output=X.w.output)
  (hf:∀n,n<B.w0.heap.size→w'.heap[n]?=X.w.heap[n]?) (hk:∀p,p∈kept'→w'.heap[p.1]?=some p.2∧qho p.2∧B.w0.heap.size≤p.1) :
  HSim B { X with w:=w',kept:=kept' }∧Move0 X { X with w:=w',kept:=kept' } some:=by
 have hm:Move0 X { X with w:=w',kept:=kept' } some:=
  ⟨fun _ h=>h,fun a ha=>hw.cell a (hs.ltM _ ha),fun b b' hb h=>by
   cases h;exact⟨hb,rfl,fun _ _ h=>h,fun _ _ _ n _ c T fr h=>⟨c,T,fr,hw.cells n c T fr h,rfl⟩⟩,rfl⟩
 refine⟨⟨fun b k hb=>SameCells.blk hw hm rfl (hs.blk b k hb),hs.inj,hs.notM,fun n hn=>Nat.lt_of_lt_of_le (hs.ltM n hn) hsz,hs.M0,hs.newM,ho.trans hs.os,ht.trans hs.tape,hp.trans hs.output,
  Nat.le_trans hs.size hsz,fun n hn hi=>(hf n hn).trans (hs.frame n hn hi),hs.imps,hs.impc,hs.fresh,hk⟩,hm⟩
theorem qnQ{w:World}{n:Nat}{o o':Obj}(h:w.heap[n]?=some o)(ho:qho o)(ho':qho o'):SameCells w (w.putObj n o'):=by
 have hn:=(Array.getElem?_eq_some_iff.1 h).1
 refine⟨fun m c T fr hm=>?_,fun a _=>?_⟩
 ·by_cases e:m=n
  ·subst e;rw[h] at hm;exact absurd (Option.some.inj hm) (ho _ _ _)
  ·rw[World.putObj_heap_other e];exact hm
 ·by_cases e:a.block=n
  ·unfold World.cell?
   rw[e,h,World.putObj_heap_same hn]
   cases o'<;>cases o<;>first|rfl|exact absurd rfl (ho _ _ _)|exact absurd rfl (ho' _ _ _)
  ·exact World.cell?_of_block (World.putObj_heap_other e)
theorem q9x{B:Base}{X:Ctx}(hs:HSim B X){n:Nat}{o o':Obj}(hk:(n,o)∈X.kept)(ho':qho o') :
  HSim B { X with w:=X.w.putObj n o',kept:=qag n o' X.kept }∧Move0 X { X with w:=X.w.putObj n o',kept:=qag n o' X.kept } some:=by
 obtain⟨h1,h2,h3⟩:=hs.kept _ hk
 simp only at h1 h2 h3
 have hn:=(Array.getElem?_eq_some_iff.1 h1).1
 refine qpL hs (qnQ h1 h2 ho') (by simp) rfl rfl rfl (fun m hm=>World.putObj_heap_other (by omega)) fun p hp=>?_
 rcases qfH hp with rfl|⟨hp,hne⟩
 ·exact⟨World.putObj_heap_same hn,ho',h3⟩
 ·obtain⟨g1,g2,g3⟩:=hs.kept p hp
  exact⟨by rw[World.putObj_heap_other hne];exact g1,g2,g3⟩
theorem qi5{B:Base}{X:Ctx}(hs:HSim B X){o:Obj}(ho:qho o) :
  HSim B { X with w:=X.w.alloc o,kept:=(X.w.heap.size,o)::X.kept }∧Move0 X { X with w:=X.w.alloc o,kept:=(X.w.heap.size,o)::X.kept } some:=by
 refine qpL hs ⟨fun m c T fr hm=>?_,fun a ha=>World.cell?_of_block (zI _ _ ha)⟩ (by simp) rfl rfl rfl (fun m hm=>zI _ _ (Nat.lt_of_lt_of_le hm hs.size)) fun p hp=>?_
 ·rw[zI _ _ (Array.getElem?_eq_some_iff.1 hm).1];exact hm
 ·rcases List.mem_cons.1 hp with rfl|hp
  ·exact⟨zM _ _,ho,hs.size⟩
  ·obtain⟨g1,g2,g3⟩:=hs.kept p hp
   exact⟨by rw[zI _ _ (Array.getElem?_eq_some_iff.1 g1).1];exact g1,g2,g3⟩
theorem qrl{B:Base}{X:Ctx}(hs:HSim B X){p:Nat×Obj}(h:p∈X.kept):p.1<X.w.heap.size:=(Array.getElem?_eq_some_iff.1 (hs.kept p h).1).1
mutual
theorem Rep.setY'{X:Ctx}(l:Nat):∀{av:AV} {v:Value},Rep X av v→av.noY=true→Rep { X with y:=l } av v
 | _,_,.undef v,_=>.undef v
 | _,_,.skip,_=>.skip
 | _,_,.yld,h=>by cases h
 | _,_,.blit b,_=>.blit b
 | _,_,.bool b,_=>.bool b
 | _,_,.ilit k n,_=>.ilit k n
 | _,_,.int k n,_=>.int k n
 | _,_,.str s,_=>.str s
 | _,_,.nilp,_=>.nilp
 | _,_,.ptr b off n hb hσ,_=>.ptr b off n hb hσ
 | _,_,.eptr sh l i off a hsp h0 h1 hr,_=>.eptr sh l i off a hsp h0 h1 hr
 | _,_,.mnil sh l i off,_=>.mnil sh l i off
 | _,_,.mptr sh l i off a hsp h0 h1 hr,_=>.mptr sh l i off a hsp h0 h1 hr
 | _,_,.vptr b i off n k hb hσ h,_=>.vptr b i off n k hb hσ h
 | _,_,.vsub b i n k m c hb hσ h,_=>.vsub b i n k m c hb hσ h
 | _,_,.aptr b o i n hb hσ h0,_=>.aptr b o i n hb hσ h0
 | _,_,.asub b o N i m n k c hb hσ h0 h1 h2 h3,_=>.asub b o N i m n k c hb hσ h0 h1 h2 h3
 | _,_,.nils,_=>.nils
 | _,_,.imm sh l v h,_=>.imm sh l v h
 | _,_,.full sh l p n h,_=>.full sh l p n h
 | _,_,.vec b p nn cc hb h,_=>.vec b p nn cc hb h
 | _,_,.nilf,_=>.nilf
 | _,_,.fn g first caps vf vc h1 h2,h=>by
  simp only[AV.noY,Bool.and_eq_true] at h
  exact .fn g _ _ vf vc (RepL.setY' l h1 h.1) (RepL.setY' l h2 h.2)
 | _,_,.agg cs vs h1,h=>.agg _ vs (RepL.setY' l h1 (by simpa only [AV.noY] using h))
 | _,_,.tuple cs vs h1,h=>.tuple _ vs (RepL.setY' l h1 (by simpa only [AV.noY] using h))
 | _,_,.bagg cs k n r vs h1 hl,h=>.bagg _ k n r vs (RepL.setY' l h1 (by simpa only [AV.noY] using h)) hl
theorem RepL.setY'{X:Ctx}(l:Nat):∀{av:List AV} {v:List Value},RepL X av v→AV.noYL av=true→RepL { X with y:=l } av v
 | _,_,.nil,_=>.nil
 | _,_,.cons h1 t,h=>by
  simp only[AV.noYL,Bool.and_eq_true] at h
  exact .cons (Rep.setY' l h1 h.1) (RepL.setY' l t h.2)
end
theorem Rep.setY{X:Ctx}(l:Nat){av:AV}{v:Value}(h:av.noY=true)(hr:Rep X av v):Rep { X with y:=l } av v:=hr.setY' l h
theorem RepL.setY{X:Ctx}(l:Nat){av:List AV}{v:List Value}(h:AV.noYL av=true)(hr:RepL X av v):RepL { X with y:=l } av v:=hr.setY' l h
theorem HSim.setY{B:Base}{X:Ctx}(h:HSim B X)(l:Nat)(hy:X.h.all Blk.noY=true):HSim B { X with y:=l }:=by
 refine⟨fun b k hb=>?_,h.inj,h.notM,h.ltM,h.M0,h.newM,h.os,h.tape,h.output,h.size,h.frame,h.imps,h.impc,h.fresh,h.kept⟩
 have h1:=h.blk b k hb
 cases k with
 | cells cs=>
  obtain⟨n,c,T,e1,e2,e3⟩:=h1
  have:(Blk.cells cs).noY=true:=List.all_eq_true.1 hy _ (List.mem_of_getElem? hb)
  exact⟨n,c,T,e1,e2,e3.setY l this⟩
 | big cs k N r=>
  obtain⟨n,c,T,vs,e1,e2,e3,e4,e5⟩:=h1
  have:(Blk.big cs k N r).noY=true:=List.all_eq_true.1 hy _ (List.mem_of_getElem? hb)
  exact⟨n,c,T,vs,e1,e2,e3.setY l this,e4,e5⟩
 | vec e sh l=>exact h1
 | frz e sh l=>exact h1
 | dead=>trivial
theorem qpi{gl:List (Nat×AV)}{X:Ctx}(h:qaA gl X)(l:Nat):qaA gl { X with y:=l }:=by
 intro x hx
 obtain⟨⟨sh,r,i,off,he⟩,hr⟩:=h x hx
 refine⟨⟨sh,r,i,off,he⟩,hr.move (fun _ h=>h) (fun _ _=>rfl) (Rep.setY l (by rw[he];rfl) hr.1)⟩
theorem qd8{gl:List (Nat×AV)}{X X':Ctx}(hm:Move0 X X' some)(h:qaA gl X):qaA gl X':=fun x hx=>⟨(h x hx).1,(h x hx).2.move hm.M hm.w ((h x hx).2.1.ext0 hm)⟩
theorem Sim.moveB{E:Env}{B B':Base}{X X':Ctx}{st:St}{a:Act}(hs:Sim E B X st a)(h1:HSim B' X')(h2:Move0 X X' some)(h3:X'.h=X.h)(hfs:B'.fs=B.fs)(hy:B'.y=B.y)(hi:B'.imps=B.imps)
  {ds:List Deferred} (h4:qrR X'.kept (B'.pin st.pend) ds) (h5:∀p,p∈B'.pin st.pend→p∈X'.kept):Sim E B' X' st { a with defers:=ds }:=
 ⟨h1,h3.trans hs.h,hs.t.ext0 h2,hfs▸hs.fs.ext0 h2,qd8 h2 hs.glob,h4,hi▸hs.ni,(h2.y.trans hs.y).trans hy.symm,h5⟩
def Ex.out:Ex→Exit
 | .normal=>.normal
 | .exit i=>.exit i
 | .ret=>.ret
def qrT(E:Env)(B:Base)(r:Ex×St):Exit→Act→World→Prop:=fun e a w=>e=r.1.out∧∃X',X'.w=w∧Sim E B X' r.2 a
def Ex.code:Ex→Code
 | .normal=>.skip
 | .exit i=>.exit i
 | .ret=>.ret
def q5q(fid:FuncId)(ct:Array Value)(ps:Array Tmp)(a b:Code)(D:Nat)(e:Option Ex):Loop:=
 { state:=if e.isNone then .ready else .done,pending:=e.map Ex.code,fn:=fid,tmps:=ct,params:=ps,assign:=a,body:=b,defers:=D }
def za:Code→List Code
 | .seq a b=>.seq a b::(za a++za b)
 | .cond _ a b=>za a++za b
 | .block _ c=>za c
 | .scope c=>za c
 | .loop c=>.loop c::za c
 | .rangeFunc x ps a b=>.rangeFunc x ps a b::(za a++za b)
 | _=>[]
def qrL(P:Program)(yc:FuncId×Nat)(B:Base):Prop:=
 ∃(fn:Func) (c:Code) (x:Operand) (ps:Array Tmp) (a b:Code),P.funcs[yc.1]?=some fn∧fn.body=some c∧(za c)[yc.2]?=some (.rangeFunc x ps a b) ∧
  ∃(ct:Array Value) (rest:List (List Value)) (D fid:Nat) (more:List (Nat×Obj)),B.fs=ct.toList::rest∧(∀e,B.pin e=(B.y,.loop (q5q fid ct ps a b D e))::more)∧(∀p,p∈more→p.1≠B.y)∧B.ro=none
def qu(P:Program)(it:List (FuncId×FuncId×Nat))(f:FuncId)(B:Base):Prop:=
 (B.ro.isSome=true→2≤B.fs.length)∧match qej it f with
  | none=>True
  | some yc=>qrL P yc B
structure SimF (E:Env) (B:Base) (X:Ctx) (st:St):Prop where
 hs:HSim B X
 h:X.h=st.h
 fs:RepLL X (st.t::st.fs) B.fs
 glob:qaA E.glob X
 ni:B.imps.length≤E.nimp
 y:X.y=B.y
 pin:∀p,p∈B.pin st.pend→p∈X.kept
def YOK(E:Env)(P:Program)(y:qtN)(B:Base):Prop:=
 ∀(args:List AV) (st:St) (r:AV×St) (X:Ctx) (a:Act) (vargs:List Value),Sim E B X st a→RepL X args vargs→(y args st).run=some r →
  ∃(l:Nat) (f:FuncId) (tmps:Array Value) (assign body:Code),(Instr.yield X.y vargs.toArray).run P X.w=.ok (.round l f tmps assign body) X.w ∧
  ∀n,RoundIn (q2L B.ro) n P l f tmps assign body X.w fun e w'=>∃v X',e=.returned v∧X'.w=w'∧Rep X' r.1 v∧Sim E B X' r.2 a
def qfF(E:Env)(P:Program)(rangeH:qaE):Prop:=
 ∀(g:FuncId) (y:qtN) (args:List AV) (st:St) (r:AV×St) (B:Base) (X:Ctx) (vargs:List Value),SimF E B X st→qu P E.iter g B→(∀B',qu P E.iter g B'→YOK E P y B')→B.ro=none →
  RepL X args vargs→(rangeH g y args st).run=some r →
  (∀w,(callFunc g vargs.toArray).run P w=.ok (.enter g vargs.toArray) w) ∧
  Calls P g vargs.toArray X.w fun e w'=>∃v X',e=.returned v∧X'.w=w'∧Rep X' r.1 v∧SimF E B X' r.2
theorem qnx{X:Ctx}:∀(ps:List Tmp) {ct:List AV} {tmps:Array Value} {args:List AV} {vargs:List Value},RepL X ct tmps.toList→RepL X args vargs →
  RepL X (qmb ct ps args) ((ps.zip vargs).foldl (fun (tmps:Array Value) (p:Tmp×Value)=>tmps.setIfInBounds p.1 p.2) tmps).toList
 | [],_,_,args,_,h,_=>by cases args<;>simpa[qmb] using h
 | p::ps,ct,tmps,_,_,h,.nil=>by simpa[qmb] using h
 | p::ps,ct,tmps,_,_,h,.cons h1 h2=>by
  simp only[qmb,List.zip_cons_cons,List.foldl_cons]
  exact qnx ps (by rw[Array.toList_setIfInBounds];exact RepL.set h1 h p) h2
theorem qsZ{E:Env}{P:Program}{f:FuncId}{k:Nat}{fn:Func}{cb:Code}(hf:P.funcs[f]?=some fn)(hb:fn.body=some cb){x:Operand}{ps:Array Tmp}{a b:Code}(hk:(za cb)[k]?=some (.rangeFunc x ps a b))
  {evA evB:St→Tree (Ex×St)} (hni:q5T E.iter f=true)
  (hA:∀(B:Base) (X:Ctx) (st:St) (act:Act) (r:Ex×St),qu P E.iter f B→Sim E B X st act→(evA st).run=some r→∀n,a.wpIn (q2L B.ro) n P (qrT E B r) act X.w)
  (hB:∀(B:Base) (X:Ctx) (st:St) (act:Act) (r:Ex×St),qu P E.iter f B→Sim E B X st act→(evB st).run=some r→∀n,b.wpIn (q2L B.ro) n P (qrT E B r) act X.w)
  {B:Base} (hI:qrL P (f,k) B):YOK E P (qpZ evA evB ps.toList) B:=by
 intro args st r X act vargs hs hargs hr
 obtain⟨fn',c',x',ps',a',b',q1,q2,q3,ct,rest,D,fid,more,q4,q5,q6,q7⟩:=hI
 simp only at q1 q3
 rw[hf] at q1;cases q1
 rw[hb] at q2;cases q2
 rw[hk] at q3;cases q3
 unfold qpZ at hr
 cases hp:st.pend with
 | some e=>rw[hp] at hr;cases hr
 | none=>
 rw[hp] at hr
 cases hfs:st.fs with
 | nil=>rw[hfs] at hr;cases hr
 | cons ctA fsA=>
 rw[hfs] at hr
 simp only at hr
 cases hlen:Nat.beq args.length ps.toList.length with
 | false=>rw[hlen] at hr;cases hr
 | true=>
 rw[hlen] at hr
 simp only at hr
 have hlen':=Nat.eq_of_beq_eq_true hlen
 obtain⟨rA,h1,h2⟩:=bind_some hr
 obtain⟨xA,sA⟩:=rA
 cases xA with
 | exit i=>cases h2
 | ret=>cases h2
 | normal=>
 simp only at h2
 obtain⟨rB,h3,h4⟩:=bind_some h2
 have hpin:=hs.pin
 have hdf:=hs.df
 rw[hp,q5] at hpin hdf
 have hrec:(B.y,.loop (q5q fid ct ps a b D none))∈X.kept:=hpin _ List.mem_cons_self
 have hheap:=(hs.hs.kept _ hrec).1
 simp only at hheap
 have hfsR:=hs.fs
 rw[hfs,q4] at hfsR
 have hct:RepL X ctA ct.toList:=by cases hfsR with|cons g1 g2=>exact g1
 refine⟨B.y,fid,((ps.zip vargs.toArray).foldl (fun (tmps:Array Value) (p:Tmp×Value)=>tmps.setIfInBounds p.1 p.2) ct),a,b,?_,fun n=>?_⟩
 ·rw[hs.y]
  exact run_yield (r:=q5q fid ct ps a b D none) hheap (by simp only[q5q,List.size_toArray];rw[←hargs.length,hlen',Array.length_toList])
 rw[q7]
 apply roundIn_of_wpIn (F:=q2L none) trivial
 let BR:Base:={ B with ro:=some B.y,fs:=act.tmps.toList::B.fs,pin:=fun _=>X.kept }
 have hbR:∀pin,qu P E.iter f { BR with pin:=pin }:=by
  intro pin
  refine⟨fun _=>?_,?_⟩
  ·show 2≤(act.tmps.toList::B.fs).length
   rw[q4];simp
  ·unfold q5T at hni
   split at hni
   ·cases hni
   ·rename_i hn;rw[hn];trivial
 have hsR:Sim E BR X { t:=qmb ctA ps.toList args,fs:=st.t::ctA::fsA,h:=st.h,pend:=none } { tmps:=((ps.zip vargs.toArray).foldl (fun (tmps:Array Value) (p:Tmp×Value)=>tmps.setIfInBounds p.1 p.2) ct),defers:=[] }:=by
  refine⟨hs.hs.base rfl rfl rfl,hs.h,?_,?_,hs.glob,qrR.nil,hs.ni,hs.y,fun p hp=>hp⟩
  ·have:=qnx ps.toList hct hargs
   rw[←Array.foldl_toList,Array.toList_zip]
   exact this
  ·show RepLL X _ (act.tmps.toList::B.fs)
   rw[←hfs]
   exact .cons hs.t hs.fs
 refine wpIn_mono (hA BR X _ _ _ (hbR _) hsR h1 n) fun e a1 w1 ⟨he,X1,hw1,hs1⟩=>?_
 subst he hw1
 have hrec1:(B.y,.loop (q5q fid ct ps a b D none))∈X1.kept:=hs1.pin _ hrec
 obtain⟨g1,g2⟩:=q9x hs1.hs (o':=.loop { q5q fid ct ps a b D none with state:=.busy }) hrec1 (fun _ _ _ h=>by cases h)
 refine⟨_,run_beginRound (r:=q5q fid ct ps a b D none) (hs1.hs.kept _ hrec1).1 rfl,?_⟩
 let pinB:List (Nat×Obj):=qag B.y (.loop { q5q fid ct ps a b D none with state:=.busy }) X.kept
 obtain⟨Ds1,d1,d2,d3⟩:=hs1.df
 have hsB:Sim E { BR with pin:=fun _=>pinB } { X1 with w:=X1.w.putObj B.y (.loop { q5q fid ct ps a b D none with state:=.busy }),kept:=qag B.y (.loop { q5q fid ct ps a b D none with state:=.busy }) X1.kept } sA a1:=by
  refine hs1.moveB (B':={ BR with pin:=fun _=>pinB }) (ds:=a1.defers) (g1.base rfl rfl rfl) g2 rfl rfl rfl rfl ⟨Ds1,d1,d2,fun D' hD'=>⟨q0a (d3 D' hD').1 (fun e=>(d3 D' hD').2 _ hrec e.symm),fun p hp=>?_⟩⟩ fun p hp=>?_
  ·rcases qfH hp with hp|⟨hp,_⟩
   ·rw[hp];exact fun e=>(d3 D' hD').2 _ hrec e
   ·exact(d3 D' hD').2 _ hp
  ·rcases qfH hp with rfl|⟨hp,hne⟩
   ·exact qdD hrec1
   ·exact q0a (hs1.pin _ hp) hne
 refine wpIn_mono (hB _ _ _ _ _ (hbR _) hsB h3 n) fun e2 a2 w2 ⟨he2,X2,hw2,hs2⟩=>?_
 subst he2 hw2
 obtain⟨xB,sB⟩:=rB
 have hrec2:(B.y,.loop { q5q fid ct ps a b D none with state:=.busy })∈X2.kept:=hs2.pin _ (qdD hrec)
 have hlie2:=(hs2.hs.kept _ hrec2).1
 simp only at hlie2
 simp only at h4
 cases hfs2:sB.fs with
 | nil=>rw[hfs2] at h4;cases h4
 | cons itA fs'=>
 rw[hfs2] at h4
 simp only at h4
 have fin:∀(e:Option Ex) (_:r=(.blit e.isNone,{ t:=itA,fs:=fs',h:=sB.h,pend:=e })) (_:e=none∨∃x,e=some x),
   ∃v w',(Instr.endRound B.y (e.map Ex.code)).run P X2.w=.ok v w'∧∃v' X',Ending.returned v=.returned v'∧X'.w=w'∧Rep X' r.1 v'∧Sim E B X' r.2 act:=by
  intro e hre _
  have hend:=run_endRound (P:=P) (r:={ q5q fid ct ps a b D none with state:=.busy }) (e.map Ex.code) hlie2
  have hobj:({ ({ q5q fid ct ps a b D none with state:=.busy }:Loop) with state:=if (e.map Ex.code).isNone then .ready else .done,pending:=e.map Ex.code }:Loop)=q5q fid ct ps a b D e:=by
   cases e<;>rfl
  rw[hobj] at hend
  obtain⟨k1,k2⟩:=q9x hs2.hs (o':=.loop (q5q fid ct ps a b D e)) hrec2 (fun _ _ _ h=>by cases h)
  refine⟨_,_,hend,_,{ X2 with w:=X2.w.putObj B.y (.loop (q5q fid ct ps a b D e)),kept:=qag B.y (.loop (q5q fid ct ps a b D e)) X2.kept },rfl,rfl,?_,?_⟩
  ·rw[hre]
   have:(e.map Ex.code).isNone=e.isNone:=by cases e<;>rfl
   rw[this];exact .blit _
  ·have hfs3:=hs2.fs
   rw[hfs2] at hfs3
   have hfs4:=hfs3.ext0 k2
   have hold:∀p,p∈X.kept→p.1≠B.y→p∈qag B.y (.loop (q5q fid ct ps a b D e)) X2.kept:=fun p hp hne=>
    q0a (hs2.pin p (q0a hp hne)) hne
   rw[hre]
   refine⟨k1.base rfl rfl rfl,hs2.h,?_,?_,qd8 k2 hs2.glob,?_,hs.ni,hs2.y,?_⟩
   ·cases hfs4 with|cons z1 z2=>exact z1
   ·cases hfs4 with|cons z1 z2=>exact z2
   ·obtain⟨Ds,m1,m2,m3⟩:=hdf
    refine⟨Ds,m1,m2,fun D' hD'=>⟨hold _ (m3 D' hD').1 (fun e'=>(m3 D' hD').2 _ List.mem_cons_self e'.symm),fun p hp=>?_⟩⟩
    rw[q5] at hp
    rcases List.mem_cons.1 hp with rfl|hp
    ·exact(m3 D' hD').2 (B.y,.loop (q5q fid ct ps a b D none)) List.mem_cons_self
    ·exact(m3 D' hD').2 p (List.mem_cons_of_mem _ hp)
   ·intro p hp
    rw[q5] at hp
    rcases List.mem_cons.1 hp with rfl|hp
    ·exact qdD hrec2
    ·exact hold p (hpin p (List.mem_cons_of_mem _ hp)) (q6 p hp)
 cases xB with
 | normal=>
  simp only[Tree.run,Option.some.injEq] at h4
  exact fin none h4.symm (.inl rfl)
 | ret=>
  simp only[Tree.run,Option.some.injEq] at h4
  exact fin (some .ret) h4.symm (.inr ⟨_,rfl⟩)
 | exit i=>
  simp only[Tree.run,Option.some.injEq] at h4
  exact fin (some (.exit i)) h4.symm (.inr ⟨_,rfl⟩)
theorem qpl{E:Env}{P:Program}{B:Base}{fn:Func}{st:St}{R:Ending→World→Prop}{n:Nat}:∀(Ds:List Nat) {X:Ctx} {a:Act},Sim E B X st a→a.defers=Ds.map qfg →
  (∀X',Sim E B X' st { a with defers:=[] }→∃v,(results fn a.tmps).run P X'.w=.ok v X'.w∧R (.returned v) X'.w)→LeavesInM (q2L none) n P fn a.tmps R (Ds.map qfg) .returning X.w
 | [],X,a,hs,hd,h=>by
  have:({ a with defers:=[] }:Act)=a:=by obtain⟨t,d⟩:=a;simp only[List.map_nil] at hd;rw[hd]
  rw[this] at h
  exact h X hs
 | D::Ds,X,a,hs,hd,h=>by
  obtain⟨Ds',d1,d2,d3⟩:=hs.df
  have hDs:Ds'=D::Ds:=by
   rw[hd] at d1
   have inj:∀(l m:List Nat),l.map qfg=m.map qfg→m=l:=by
    intro l
    induction l with
    | nil=>intro m hm;cases m with
     | nil=>rfl
     | cons _ _=>cases hm
    | cons x l ih=>intro m hm;cases m with
     | nil=>cases hm
     | cons y m=>
      simp only[List.map_cons,List.cons.injEq,qfg,Deferred.mk.injEq,Target.collected.injEq,and_true] at hm
      rw[ih m hm.2,hm.1]
   exact inj _ _ d1
  subst hDs
  obtain⟨m1,m2⟩:=d3 D List.mem_cons_self
  have hlie:=(hs.hs.kept _ m1).1
  simp only at hlie
  obtain⟨g1,g2⟩:=q9x hs.hs (o':=.deferred none) m1 (fun _ _ _ h=>by cases h)
  have hnd:=List.nodup_cons.1 d2
  have hs':=hs.moveB (B':=B) (ds:=Ds.map qfg) g1 g2 rfl rfl rfl rfl ⟨Ds,rfl,hnd.2,fun D' hD'=>⟨q0a (d3 D' (List.mem_cons_of_mem _ hD')).1 (fun e=>hnd.1 (e▸hD')),(d3 D' (List.mem_cons_of_mem _ hD')).2⟩⟩
   (fun p hp=>q0a (hs.pin p hp) (m2 p hp))
  refine⟨by simp,.inl ⟨D,_,rfl,run_takeDeferred hlie,?_⟩⟩
  exact qpl Ds (a:={ a with defers:=Ds.map qfg }) hs' rfl h
end Go.Eng

namespace Go.Eng
theorem Sim.env{E E':Env}(he:E.glob=E'.glob)(hn:E.nimp=E'.nimp){B:Base}{X:Ctx}{st:St}{a:Act}(hs:Sim E B X st a):Sim E' B X st a:=
 ⟨hs.hs,hs.h,hs.t,hs.fs,he▸hs.glob,hs.df,hn▸hs.ni,hs.y,hs.pin⟩
theorem ue:∀c:Code,(za c).length=zB c:=by
 intro c
 induction c<;>simp_all [za,zB]
 all_goals omega
theorem qdx{f k:Nat}{L:St→Tree (Ex×St)}:∀{l:List ((Nat×Nat)×(St→Tree (Ex×St)))},q7a l f k=some L→((f,k),L)∈l
 | [],h=>by cases h
 | x::l,h=>by
  simp only[q7a] at h
  split at h
  ·rename_i hb
   cases h
   simp only[Bool.and_eq_true] at hb
   have h1:=Nat.eq_of_beq_eq_true hb.1
   have h2:=Nat.eq_of_beq_eq_true hb.2
   have:x=((f,k),x.2):=by obtain⟨⟨a,b⟩,c⟩:=x;simp only at h1 h2;rw[h1,h2]
   exact this▸List.mem_cons_self
  ·exact List.mem_cons_of_mem _ (qdx h)
def qk(P:Program)(gl:List (Nat×AV))(ni:Nat)(BO:Base→Prop)(c:Code)(L:St→Tree (Ex×St)):Prop:=
 ∀(E:Env) (B:Base) (X:Ctx) (st:St) (a:Act) (r:Ex×St),E.glob=gl→E.nimp=ni→BO B→Sim E B X st a→(L st).run=some r→∀(n0:Nat),c.wpIn (q2L B.ro) n0 P (qrT E B r) a X.w
def Env.loopsOK(E:Env)(P:Program):Prop:=
 ∀x,x∈E.loops→∃fn c c',P.funcs[x.1.1]?=some fn∧fn.body=some c∧(za c)[x.1.2]?=some c'∧qk P E.glob E.nimp (qu P E.iter x.1.1) c' x.2
theorem qxd{E:Env}{P:Program}{rangeH:qaE}(hrg:qfF E P rangeH){f:FuncId}{fn:Func}(hf:P.funcs[f]?=some fn){cb:Code}(hb:fn.body=some cb){k:Nat}{x:Operand}{ps:Array Tmp}{a b:Code}
    (hk:(za cb)[k]?=some (.rangeFunc x ps a b)) {evA evB:St→Tree (Ex×St)}
    (hA:∀(B:Base) (X:Ctx) (st:St) (act:Act) (r:Ex×St),qu P E.iter f B→Sim E B X st act→(evA st).run=some r→∀n,a.wpIn (q2L B.ro) n P (qrT E B r) act X.w)
    (hB:∀(B:Base) (X:Ctx) (st:St) (act:Act) (r:Ex×St),qu P E.iter f B→Sim E B X st act→(evB st).run=some r→∀n,b.wpIn (q2L B.ro) n P (qrT E B r) act X.w)
    {B:Base} {X:Ctx} {st:St} {act:Act} {r:Ex×St} {n0:Nat} (hbo:qu P E.iter f B) (hs:Sim E B X st act) {g:FuncId} {first caps:List AV} (hx:E.opd st.t x=.fn g first caps)
    (hc:(qnD E.iter g f k&&q5T E.iter f&&qrF st)=true) (h:((rangeH g (qpZ evA evB ps.toList) (first++[.yld]++caps) st).bind qwc).run=some r) :
    (Code.rangeFunc x ps a b).wpIn (q2L B.ro) n0 P (qrT E B r) act X.w:=by
  simp only[Bool.and_eq_true] at hc
  obtain⟨⟨hit,hni⟩,htop⟩:=hc
  have htop':st.fs=[[]]∧st.pend=none∧AV.noYL st.t=true∧st.h.all Blk.noY=true:=by
    unfold qrF at htop
    split at htop
    · rename_i h1 h2
      simp only[Bool.and_eq_true] at htop
      exact⟨h1,h2,htop.1,htop.2⟩
    · cases htop
  obtain⟨t1,t2,t3,t4⟩:=htop'
  have hBfs:B.fs=[[]]:=by
    have:=hs.fs
    rw[t1] at this
    generalize B.fs=l at this
    cases this with
    | cons g1 g2=>cases g1;cases g2;rfl
  have hro:B.ro=none:=by
    cases hr:B.ro with
    | none=>rfl
    | some l =>
      have:=hbo.1 (by rw[hr];rfl)
      rw[hBfs] at this
      simp at this
  have hfi:qej E.iter g=some (f,k):=by
    unfold qnD at hit
    split at hit
    · rename_i y hy
      simp only[Bool.and_eq_true] at hit
      rw[hy]
      obtain⟨y1,y2⟩:=y
      have e1:y1=f:=Nat.eq_of_beq_eq_true hit.1
      have e2:y2=k:=Nat.eq_of_beq_eq_true hit.2
      rw[e1,e2]
    · cases hit
  obtain⟨q,h1,h2⟩:=bind_some h
  have hvx:=q6k hs x
  rw[hx] at hvx
  generalize hev:act.eval x=vx at hvx
  cases hvx with
  | fn _ _ _ vf vc g1 g2 =>
  rw[hro]
  apply wpIn_rangeFunc
  intro fid _
  let D:=X.w.heap.size
  let l:=X.w.heap.size+1
  let rec0:Obj:=.loop (q5q fid act.tmps ps a b D none)
  obtain⟨k1,k2⟩:=qi5 hs.hs (o:=.deferred (some [])) (fun _ _ _ h=>by cases h)
  obtain⟨k3,k4⟩:=qi5 k1 (o:=rec0) (fun _ _ _ h=>Obj.noConfusion h)
  let X1:Ctx:={ X with w:=(X.w.alloc (.deferred (some []))).alloc rec0,kept:=(l,rec0)::(D,.deferred (some []))::X.kept }
  have hsz:(X.w.alloc (.deferred (some []))).heap.size=l:=by simp[l]
  have hX1:({ ({ X with w:=X.w.alloc (.deferred (some [])),kept:=(X.w.heap.size,.deferred (some []))::X.kept }:Ctx) with w:=(X.w.alloc (.deferred (some []))).alloc rec0,kept:=((X.w.alloc (.deferred (some []))).heap.size,rec0)::(X.w.heap.size,.deferred (some []))::X.kept }:Ctx)=X1:=by
    rw[hsz]
  have k3':HSim B X1:=hX1▸k3
  have k4':Move0 { X with w:=X.w.alloc (.deferred (some [])),kept:=(X.w.heap.size,.deferred (some []))::X.kept } X1 some:=hX1▸k4
  have hall:X1.h.all Blk.noY=true:=by show X.h.all Blk.noY=true;rw[hs.h];exact t4
  let X2:Ctx:={ X1 with y:=l }
  have hs2:HSim B X2:=k3'.setY l hall
  let B1:Base:={ B with fs:=act.tmps.toList::B.fs,ro:=none,y:=l,pin:=fun e=>(l,.loop (q5q fid act.tmps ps a b D e))::(D,.deferred (some []))::X.kept }
  have hlt:∀p,p∈(D,(.deferred (some []):Obj))::X.kept→p.1≠l:=by
    intro p hp
    rcases List.mem_cons.1 hp with rfl|hp
    · show D≠l;simp[D,l]
    · have:=qrl hs.hs hp;simp only[l];omega
  have hI:qrL P (f,k) B1:=⟨fn,cb,x,ps,a,b,hf,hb,hk,act.tmps,B.fs,D,fid,(D,.deferred (some []))::X.kept,rfl,fun e=>rfl,hlt,rfl⟩
  have hB1:qu P E.iter g B1:=⟨fun h=>(by cases h),by rw[hfi];exact hI⟩
  have hargs:RepL X2 (first++[.yld]++caps) (vf++[Value.func (.yield l) #[] #[]]++vc):=by
    have hno:AV.noYL first=true∧AV.noYL caps=true:=by
      have hn:(AV.fn g first caps).noY=true:=by
        rw[←hx]
        cases x with
        | tmp i =>
          simp only[Env.opd]
          rw[List.getD_eq_getElem?_getD]
          cases hi:st.t[i]? with
          | none=>rfl
          | some v =>
            have:∀(l:List AV),AV.noYL l=true→∀v,v∈l→v.noY=true:=by
              intro l
              induction l with
              | nil=>intro _ v hv;cases hv
              | cons y l ih =>
                intro hl v hv
                simp only[AV.noYL,Bool.and_eq_true] at hl
                rcases List.mem_cons.1 hv with rfl|hv
                · exact hl.1
                · exact ih hl.2 v hv
            exact this _ t3 v (List.mem_of_getElem? hi)
        | const v => rw [show E.opd st.t (.const v) = ofV v from rfl] at hx; unfold ofV at hx; split at hx; · cases hx
                     · unfold vB at hx;split at hx<;>first|cases hx|(split at hx<;>cases hx)
        | global g' =>
          simp only[Env.opd] at hx
          cases hg:E.glob.find? fun x=>x.1==g' with
          | none=>rw[hg] at hx;cases hx
          | some y =>
            rw[hg] at hx
            obtain⟨⟨sh,r',i,off,he⟩,_⟩:=hs.glob y (List.mem_of_find?_eq_some hg)
            simp only[Option.map_some,Option.getD_some] at hx
            rw[he] at hx;cases hx
        | func f'=>rw[show E.opd st.t (.func f')=.fn f' [] [] from rfl] at hx;cases hx;rfl
      simpa only [AV.noY,Bool.and_eq_true] using hn
    have m1:RepL X1 first vf:=(g1.ext0 k2).ext0 k4'
    have m2:RepL X1 caps vc:=(g2.ext0 k2).ext0 k4'
    exact((m1.setY l hno.1).append (.cons .yld .nil)).append (m2.setY l hno.2)
  have hF:SimF E B1 X2 st:=by
    have m1:RepL X1 st.t act.tmps.toList:=(hs.t.ext0 k2).ext0 k4'
    refine⟨hs2.base rfl rfl rfl,hs.h,?_,qpi (qd8 k4' (qd8 k2 hs.glob)) l,hs.ni,rfl,fun p hp=>by rw[t2] at hp;exact hp⟩
    show RepLL X2 _ (act.tmps.toList::B.fs)
    rw[t1,hBfs]
    exact .cons (m1.setY l t3) (.cons .nil .nil)
  obtain⟨henter,hcalls⟩:=hrg g _ _ st q B1 X2 _ hF hB1 (fun B' hB'=>by
    obtain⟨_,h'⟩:=hB'
    rw[hfi] at h'
    exact qsZ hf hb hk hni hA hB h') rfl hargs h1
  refine⟨l,[qfg D],X1.w,{ target:=.fn (.func g) vc.toArray,args:=vf.toArray++#[Value.func (.yield l) #[] #[]] },X1.w,g,(vf++[Value.func (.yield l) #[] #[]]++vc).toArray,X1.w,?_,?_,fun _ _=>trivial,?_,qbu none,?_⟩
  · exact run_enterLoop_outer fid act.tmps ps a b
  · simp only[resolve,hev,Deferred.ofValue,Sem.run_pure]
    simp[Act.eval]
  · simp only[invoke]
    have:vf.toArray++#[Value.func (.yield l) #[] #[]]++vc.toArray=(vf++[Value.func (.yield l) #[] #[]]++vc).toArray:=by
      apply Array.ext';simp
    rw[this]
    exact henter X1.w
  · refine quA.2 (hcalls.mono fun e w' ⟨v,X',e1,e2,_,hF'⟩=>?_)
    subst e1 e2
    have hpin:=hF'.pin
    have hrec:(l,.loop (q5q fid act.tmps ps a b D q.2.pend))∈X'.kept:=hpin _ List.mem_cons_self
    have hlie:=(hF'.hs.kept _ hrec).1
    simp only at hlie
    have hbusy:(q5q fid act.tmps ps a b D q.2.pend).state≠.busy:=by
      simp only[q5q];split<;>simp
    obtain⟨m1,m2⟩:=q9x hF'.hs (o':=.loop { q5q fid act.tmps ps a b D q.2.pend with state:=.exhausted }) hrec (fun _ _ _ h=>by cases h)
    refine⟨_,_,run_endLoop hlie hbusy,?_⟩
    unfold qwc at h2
    cases htq:qrF { q.2 with pend:=none } with
    | false=>rw[htq] at h2;cases h2
    | true =>
    rw[htq] at h2
    simp only at h2
    have htop2:q.2.fs=[[]]∧AV.noYL q.2.t=true∧q.2.h.all Blk.noY=true:=by
      unfold qrF at htq
      split at htq
      · rename_i h1 h2
        simp only[Bool.and_eq_true] at htq
        exact⟨h1,htq.1,htq.2⟩
      · cases htq
    obtain⟨u1,u2,u3⟩:=htop2
    let X3:Ctx:={ X' with w:=X'.w.putObj l (.loop { q5q fid act.tmps ps a b D q.2.pend with state:=.exhausted }),kept:=qag l (.loop { q5q fid act.tmps ps a b D q.2.pend with state:=.exhausted }) X'.kept }
    have hsim:Sim E B { X3 with y:=B.y } { q.2 with pend:=none } { act with defers:=[qfg D]++act.defers }:=by
      have hfs':=hF'.fs.ext0 m2
      have hold:∀p,p∈(D,(.deferred (some []):Obj))::X.kept→p∈X3.kept:=fun p hp=>q0a (hpin p (List.mem_cons_of_mem _ hp)) (hlt p hp)
      have hfs2:RepLL X3 (q.2.t::q.2.fs) (act.tmps.toList::B.fs):=hfs'
      refine⟨((m1.base (B':=B) rfl rfl rfl).setY B.y (by show X'.h.all Blk.noY=true;rw[hF'.h];exact u3)),hF'.h,?_,?_,qpi (qd8 m2 hF'.glob) B.y,?_,hs.ni,rfl,?_⟩
      · cases hfs2 with|cons z1 z2=>exact z1.setY B.y u2
      · show RepLL _ q.2.fs B.fs
        rw[u1,hBfs];exact .cons .nil .nil
      · obtain⟨Ds,d1,d2,d3⟩:=hs.df
        rw[t2] at d3
        refine⟨D::Ds,by rw[d1];rfl,List.nodup_cons.2 ⟨fun hD=>?_,d2⟩,fun D' hD'=>?_⟩
        · have:=qrl hs.hs (d3 D hD).1
          simp[D] at this
        · rcases List.mem_cons.1 hD' with rfl|hD'
          · refine⟨hold _ List.mem_cons_self,fun p hp=>?_⟩
            have hp':=hs.pin p (by rw[t2];exact hp)
            have:=qrl hs.hs hp'
            simp only[D];omega
          · exact⟨hold _ (List.mem_cons_of_mem _ (d3 D' hD').1),(d3 D' hD').2⟩
      · intro p hp
        exact hold p (List.mem_cons_of_mem _ (hs.pin p (by rw[t2];exact hp)))
    cases hpe:q.2.pend with
    | none =>
      rw[hpe] at h2
      simp only[Tree.run,Option.some.injEq] at h2
      subst h2
      exact⟨rfl,{ X3 with y:=B.y },by show X'.w.putObj l _=_;rw[hpe],hsim⟩
    | some e =>
      rw[hpe] at h2
      cases e with
      | normal=>cases h2
      | ret =>
        simp only[Tree.run,Option.some.injEq] at h2
        subst h2
        exact wpIn_ret ⟨rfl,{ X3 with y:=B.y },by show X'.w.putObj l _=_;rw[hpe],hsim⟩
      | exit i =>
        simp only[Tree.run,Option.some.injEq] at h2
        subst h2
        exact wpIn_exit ⟨rfl,{ X3 with y:=B.y },by show X'.w.putObj l _=_;rw[hpe],hsim⟩
theorem q9g{E:Env}{P:Program}(hm:P.follows .mixedOrders=true)(hE:E.tok P)(hS:E.specs P)(hL:E.loopsOK P){f:FuncId}{fn:Func}(hf:P.funcs[f]?=some fn){cb:Code}(hb:fn.body=some cb)
  {callH:q6r} (hcH:∀B,qu P E.iter f B→CallOK E P callH B) {callS:List Blk→q8U} (hc:qfO E P callS) (hmo:q8k E callS) {rangeH:qaE} (hrg:qfF E P rangeH) :
  ∀(c:Code) (k:Nat),(∀j c',(za c)[j]?=some c'→(za cb)[k+j]?=some c') →
  ∀{B:Base} {X:Ctx} {st:St} {a:Act} {r:Ex×St} {n0:Nat},qu P E.iter f B→Sim E B X st a→(ju E callH callS rangeH f c k st).run=some r→c.wpIn (q2L B.ro) n0 P (qrT E B r) a X.w:=by
 intro c
 induction c with
 | skip=>
  intro k _ B X st a r n0 hbo hs h
  simp only[ju,Tree.run,Option.some.injEq] at h
  subst h
  exact wpIn_skip ⟨rfl,X,rfl,hs⟩
 | label _=>
  intro k _ B X st a r n0 hbo hs h
  simp only[ju,Tree.run,Option.some.injEq] at h
  subst h
  exact wpIn_label ⟨rfl,X,rfl,hs⟩
 | region id ops draw=>
  intro k _ B X st a r n0 hbo hs h
  simp only[ju] at h
  obtain⟨s,h1,h2⟩:=bind_some h
  simp only[Tree.run,Option.some.injEq] at h2
  subst h2
  cases draw with
  | true=>exact qqD hm hE hS (hcH B hbo) hc hmo hs h1 fun X' a' hs'=>⟨rfl,X',rfl,hs'⟩
  | false=>exact qmP hE (hcH B hbo) hs h1 fun X' a' hs'=>⟨rfl,X',rfl,hs'⟩
 | seq c d ihc ihd=>
  intro k hl B X st a r n0 hbo hs h
  simp only[ju] at h
  cases hfn:q7a E.loops f k with
  | some L=>
   rw[hfn] at h
   obtain⟨fn',c1,c2,q1,q2,q3,q4⟩:=hL _ (qdx hfn)
   simp only at q1 q3 q4
   rw[hf] at q1;cases q1
   rw[hb] at q2;cases q2
   have:=hl 0 (.seq c d) (by simp[za])
   rw[Nat.add_zero,q3] at this
   cases this
   exact q4 E B X st a r rfl rfl hbo hs h n0
  | none=>
  rw[hfn] at h
  obtain⟨r1,h1,h2⟩:=bind_some h
  apply wpIn_seq
  have g1:=ihc (k+1) (fun j c' hj=>by
   have:=hl (1+j) c' (by simp only[za];rw[Nat.add_comm,List.getElem?_cons_succ,List.getElem?_append_left (qw hj)];exact hj)
   rw[show k+1+j=k+(1+j) by omega];exact this) (n0:=n0) hbo hs h1
  refine wpIn_mono g1 fun e a' w' ⟨he,X',hw,hs'⟩=>?_
  subst hw
  obtain⟨x1,s1⟩:=r1
  cases x1 with
  | normal=>
   subst he
   refine ihd (k+1+zB c) (fun j c' hj=>?_) hbo hs' h2
   have:=hl (1+zB c+j) c' (by
    simp only[za]
    rw[show 1+zB c+j=(zB c+j)+1 by omega,List.getElem?_cons_succ,List.getElem?_append_right (by rw[ue];omega),ue]
    rw[show zB c+j-zB c=j by omega];exact hj)
   rw[show k+1+zB c+j=k+(1+zB c+j) by omega];exact this
  | exit i=>
   simp only[Tree.run,Option.some.injEq] at h2
   subst he h2
   exact⟨rfl,X',rfl,hs'⟩
  | ret=>
   simp only[Tree.run,Option.some.injEq] at h2
   subst he h2
   exact⟨rfl,X',rfl,hs'⟩
 | cond x c d ihc ihd=>
  intro k hl B X st a r n0 hbo hs h
  simp only[ju] at h
  have hlc:=fun j c' (hj:(za c)[j]?=some c')=>hl j c' (by simp only[za];rw[List.getElem?_append_left (qw hj)];exact hj)
  have hld:∀j c',(za d)[j]?=some c'→(za cb)[k+zB c+j]?=some c':=fun j c' hj=>by
   have:=hl (zB c+j) c' (by
    simp only[za]
    rw[List.getElem?_append_right (by rw[ue];omega),ue]
    rw[show zB c+j-zB c=j by omega];exact hj)
   rw[show k+zB c+j=k+(zB c+j) by omega];exact this
  have hx:=q6k hs x
  cases hv:E.opd st.t x with
  | blit b=>
   rw[hv] at h hx
   generalize hev:a.eval x=vx at hx
   cases hx
   cases b with
   | true=>exact wpIn_cond_true hev (ihc k hlc hbo hs h)
   | false=>exact wpIn_cond_false hev (ihd _ hld hbo hs h)
  | bool b=>
   rw[hv] at h hx
   generalize hev:a.eval x=vx at hx
   cases hx
   cases x with
   | tmp t=>
    simp only at h
    have ht:st.t[t]?=some (.bool b):=by
     simp only[Env.opd,List.getD_eq_getElem?_getD] at hv
     cases hg:st.t[t]? with
     | none=>rw[hg] at hv;cases hv
     | some y=>rw[hg] at hv;simp at hv;rw[hv]
    have hs':=hs.lit ht
    cases b with
    | true=>exact wpIn_cond_true hev (ihc k hlc hbo hs' h)
    | false=>exact wpIn_cond_false hev (ihd _ hld hbo hs' h)
   | _=>cases h
  | _=>rw[hv] at h;cases h
 | block id c ihc=>
  intro k hl B X st a r n0 hbo hs h
  simp only[ju] at h
  obtain⟨r1,h1,h2⟩:=bind_some h
  apply wpIn_block
  have g1:=@ihc k hl _ _ _ _ _ n0 hbo hs h1
  refine wpIn_mono g1 fun e a' w' ⟨he,X',hw,hs'⟩=>?_
  subst hw he
  obtain⟨x1,s1⟩:=r1
  cases x1 with
  | normal=>
   simp only[Tree.run,Option.some.injEq] at h2
   subst h2
   exact⟨rfl,X',rfl,hs'⟩
  | ret=>
   simp only[Tree.run,Option.some.injEq] at h2
   subst h2
   exact⟨rfl,X',rfl,hs'⟩
  | exit i=>
   simp only[Ex.out,Exit.inBlock]
   simp only at h2
   by_cases hi:i=id
   ·rw[if_pos hi] at h2 ⊢
    simp only[Tree.run,Option.some.injEq] at h2
    subst h2
    exact⟨rfl,X',rfl,hs'⟩
   ·rw[if_neg hi] at h2 ⊢
    simp only[Tree.run,Option.some.injEq] at h2
    subst h2
    exact⟨rfl,X',rfl,hs'⟩
 | loop c ihc=>
  intro k hl B X st a r n0 hbo hs h
  simp only[ju] at h
  cases hfn:q7a E.loops f k with
  | none=>rw[hfn] at h;cases h
  | some L=>
   rw[hfn] at h
   obtain⟨fn',c1,c2,q1,q2,q3,q4⟩:=hL _ (qdx hfn)
   simp only at q1 q3 q4
   rw[hf] at q1;cases q1
   rw[hb] at q2;cases q2
   have:=hl 0 (.loop c) (by simp[za])
   rw[Nat.add_zero,q3] at this
   cases this
   exact q4 E B X st a r rfl rfl hbo hs h n0
 | exit id=>
  intro k _ B X st a r n0 hbo hs h
  simp only[ju,Tree.run,Option.some.injEq] at h
  subst h
  exact wpIn_exit ⟨rfl,X,rfl,hs⟩
 | ret  =>
  intro k _ B X st a r n0 hbo hs h
  simp only[ju,Tree.run,Option.some.injEq] at h
  subst h
  exact wpIn_ret ⟨rfl,X,rfl,hs⟩
 | goto _=>
  intro k _ B X st a r n0 hbo hs h
  simp only[ju] at h;cases h
 | scope _ ihc=>
  intro k _ B X st a r n0 hbo hs h
  simp only[ju] at h;cases h
 | rangeFunc x ps c d ihc ihd=>
  intro k hl B X st a r n0 hbo hs h
  simp only[ju] at h
  cases hx:E.opd st.t x with
  | fn g first caps=>
   rw[hx] at h
   simp only at h
   cases hcd:qnD E.iter g f k&&q5T E.iter f&&qrF st with
   | false=>rw[hcd] at h;cases h
   | true=>
    rw[hcd] at h
    simp only at h
    refine qxd hrg hf hb (hl 0 _ (by simp[za])) (fun B X st act r hbo hs hr n=>?_) (fun B X st act r hbo hs hr n=>?_) hbo hs hx hcd h
    ·refine ihc (k+1) (fun j c' hj=>?_) hbo hs hr
     have:=hl (1+j) c' (by simp only[za];rw[Nat.add_comm,List.getElem?_cons_succ,List.getElem?_append_left (qw hj)];exact hj)
     rw[show k+1+j=k+(1+j) by omega];exact this
    ·refine ihd (k+1+zB c) (fun j c' hj=>?_) hbo hs hr
     have:=hl (1+zB c+j) c' (by
      simp only[za]
      rw[show 1+zB c+j=(zB c+j)+1 by omega,List.getElem?_cons_succ,List.getElem?_append_right (by rw[ue];omega),ue]
      rw[show zB c+j-zB c=j by omega];exact hj)
     rw[show k+1+zB c+j=k+(1+zB c+j) by omega];exact this
  | _=>rw[hx] at h;cases h
 | _=>
  intro k hl B X st a r n0 hbo hs h
  simp only[ju] at h;cases h
theorem qrC{P:Program}{w:World}{t:TypeId}{v u:Value}(h:(Instr.loadAt t v).run P w=.ok u w):∃ad,v=.pointer (some ad)∧(loadVar t ad).run P w=.ok u w:=by
 cases v with
 | pointer p=>
  cases p with
  | some ad=>exact⟨ad,rfl,by simpa[Instr.loadAt,Instr.sureAddr] using h⟩
  | none=>simp[Instr.loadAt,Instr.sureAddr] at h
 | _=>simp[Instr.loadAt,Instr.sureAddr] at h
def qyW(tmps:Array Value):ResultVar→Sem Value
 | .tmp t=>pure (tmps.getD t undef)
 | .cell a t=>do loadVar t (←asAddr (tmps.getD a undef))
theorem qty(fn:Func)(tmps:Array Value):results fn tmps=(fn.results.mapM (qyW tmps) >>= fun vs=>pure (if h:vs.size=1 then vs[0] else .tuple vs)):=by
 unfold results
 congr 1
theorem qg5{E:Env}{P:Program}(hE:E.tok P){B:Base}{X:Ctx}{st:St}{a:Act}(hs:Sim E B X st a):∀(l:List ResultVar) (vs:List AV),qjY E st.h st.t l=some vs →
  ∃us,(l.mapM (qyW a.tmps)).run P X.w=.ok us X.w∧RepL X vs us
 | [],vs,h=>by simp only[qjY,Option.some.injEq] at h;subst h;exact⟨[],by simp,.nil⟩
 | .tmp i::l,vs,h=>by
  simp only[qjY] at h
  split at h
  ·rename_i r hr
   cases h
   obtain⟨us,h1,h2⟩:=qg5 hE hs l r hr
   have:=q6k hs (.tmp i)
   simp only[Env.opd,Act.eval] at this
   exact⟨_::us,by simp[List.mapM_cons,qyW,h1],.cons this h2⟩
  ·cases h
 | .cell i ty::l,vs,h=>by
  simp only[qjY] at h
  split at h
  ·rename_i v h' n r hld hr
   cases h
   obtain⟨us,h1,h2⟩:=qg5 hE hs l r hr
   have hv:=q6k hs (.tmp i)
   simp only[Env.opd,Act.eval] at hv
   rw[←hs.h] at hld
   obtain⟨av,u,g1,g2,g3⟩:=qdh hE hs.hs hv (r:=(v,h',n)) (by rw[hld];rfl)
   obtain⟨ad,g4,g5⟩:=qrC g2
   have:v=av:=congrArg Prod.fst g1
   subst this
   refine⟨u::us,?_,.cons g3 h2⟩
   simp only[List.mapM_cons,qyW,Sem.run_bind,g4,asAddr,Sem.run_pure,Result.andThen_ok,g5,h1]
  ·cases h
theorem RepL.len{X:Ctx}:∀{azz:List AV} {vs:List Value},RepL X azz vs→azz.length=vs.length
 | _,_,.nil=>rfl
 | _,_,.cons _ t=>by simp[t.len]
theorem qoY{E:Env}{P:Program}(hE:E.tok P){B:Base}{X:Ctx}{st:St}{a:Act}(hs:Sim E B X st a){fn:Func}{vs:List AV}(h:qjY E st.h st.t fn.results.toList=some vs) :
  ∃u,(results fn a.tmps).run P X.w=.ok u X.w∧Rep X (qw1 vs) u:=by
 obtain⟨us,h1,h2⟩:=qg5 hE hs _ _ h
 have hm:(fn.results.mapM (qyW a.tmps)).run P X.w=.ok us.toArray X.w:=by
  rw[Array.mapM_eq_mapM_toList,Sem.run_map,h1];rfl
 rw[qty,Sem.run_bind,hm]
 simp only[Result.andThen_ok,Sem.run_pure]
 have hl:=h2.len
 cases h2 with
 | nil=>exact⟨_,rfl,.tuple [] [] .nil⟩
 | cons g1 g2=>
  cases g2 with
  | nil=>exact⟨_,rfl,by simpa[qw1] using g1⟩
  | cons g3 g4=>
   refine⟨_,rfl,?_⟩
   rw[dif_neg (by simp)]
   exact .tuple _ _ (.cons g1 (.cons g3 g4))
theorem qvt{X:Ctx}{fn:Func}{args:List AV}{vargs:List Value}(h:RepL X args vargs):RepL X (qtT fn args) (vargs.toArray++Array.replicate (fn.ntmps-vargs.toArray.size) undef).toList:=by
 have hrep:∀n,RepL X (List.replicate n .skip) (List.replicate n undef):=by
  intro n
  induction n with
  | zero=>exact .nil
  | succ n ih=>simp only[List.replicate_succ];exact .cons .skip ih
 unfold qtT
 simp only[Array.toList_append,Array.toList_replicate,List.size_toArray]
 rw[h.len]
 exact h.append (hrep _)
def Env.bodies(E:Env)(P:Program):Prop:=∀x,x∈E.body→P.funcs[x.1]?=some x.2∧(x.2.name == "runtime.NumGoroutine")=false
theorem qhH{E:Env}{P:Program}(hm:P.follows .mixedOrders=true)(hE:E.tok P)(hS:E.specs P)(hL:E.loopsOK P){f:FuncId}{fn:Func}(hf:P.funcs[f]?=some fn)
  {callH:q6r} (hcH:∀B,qu P E.iter f B→CallOK E P callH B) {callS:List Blk→q8U} (hc:qfO E P callS) (hmo:q8k E callS) {rangeH:qaE} (hrg:qfF E P rangeH)
  {args:List AV} {st:St} {r:AV×St} {B:Base} {X:Ctx} {vargs:List Value} (hro:B.ro=none) (hbo:qu P E.iter f B) (hs:SimF E B X st) (ha:RepL X args vargs) (h:(qoV E callS callH rangeH f fn args st).run=some r) :
  fn.body.isNone=false∧Calls P f vargs.toArray X.w fun e w'=>∃v X',e=.returned v∧X'.w=w'∧Rep X' r.1 v∧SimF E B X' r.2:=by
 unfold qoV at h
 cases hb:fn.body with
 | none=>rw[hb] at h;cases h
 | some c=>
  rw[hb] at h
  refine⟨rfl,quA.1 (callsIn_of_wp_marks (F:=q2L none) (n:=0) hf hb trivial ?_)⟩
  obtain⟨r1,h1,h2⟩:=bind_some h
  have hsim:Sim E B X { t:=qtT fn args,fs:=st.t::st.fs,h:=st.h,pend:=st.pend } { tmps:=vargs.toArray++Array.replicate (fn.ntmps-vargs.toArray.size) undef,defers:=[] }:=
   ⟨hs.hs,hs.h,qvt ha,hs.fs,hs.glob,qrR.nil,hs.ni,hs.y,hs.pin⟩
  have hcode:=q9g (n0:=0) hm hE hS hL hf hb hcH hc hmo hrg c 0 (fun j c' hj=>by rw[Nat.zero_add];exact hj) hbo hsim h1
  rw[hro] at hcode
  refine wpIn_mono hcode fun e a' w' ⟨he,X',hw,hs'⟩=>?_
  subst he hw
  obtain⟨x1,s1⟩:=r1
  have fin:∀{vs:List AV} {caller:List AV} {fs:List (List AV)},qjY E s1.h s1.t fn.results.toList=some vs→s1.fs=caller::fs→r=(qw1 vs,{ t:=caller,fs:=fs,h:=s1.h,pend:=s1.pend }) →
    LeavesInM (q2L none) 0 P fn a'.tmps (fun e w'=>∃v X',e=.returned v∧X'.w=w'∧Rep X' r.1 v∧SimF E B X' r.2) a'.defers .returning X'.w:=by
   intro vs caller fs hr hfs hre
   obtain⟨Ds,d1,_⟩:=hs'.df
   rw[d1]
   refine qpl Ds hs' d1 fun X2 hs2=>?_
   obtain⟨u,g1,g2⟩:=qoY hE hs2 hr
   refine⟨u,g1,u,X2,rfl,rfl,by rw[hre];exact g2,?_⟩
   rw[hre]
   exact⟨hs2.hs,hs2.h,by rw[←hfs];exact hs2.fs,hs2.glob,hs2.ni,hs2.y,hs2.pin⟩
  unfold qx5 at h2
  cases x1 with
  | exit i=>simp only at h2;cases h2
  | normal=>
   simp only at h2
   split at h2
   ·rename_i vs caller fs hr hfs;cases h2;exact fin hr hfs rfl
   ·cases h2
  | ret=>
   simp only at h2
   split at h2
   ·rename_i vs caller fs hr hfs;cases h2;exact fin hr hfs rfl
   ·cases h2
theorem q1B {P:Program} {f:FuncId} {fn:Func} (hf:P.funcs[f]?=some fn) (hn:(fn.name == "runtime.NumGoroutine")=false) (hb:fn.body.isNone=false):qhW P f:=by
 intro args w
 unfold callFunc
 rw[Sem.run_bind]
 show (Result.ok P w).andThen _=_
 simp only[Result.andThen_ok,hf,hn,hb,Bool.false_eq_true,if_false,Sem.run_pure]
theorem qxL{all:Array Oper}{k:Nat}{o:Oper}{s s':St}(h:(qmG all k o s).run=some s')(u:St)(hu:u.t=s.t):(qmG all k o u).run=some { u with t:=s'.t }:=by
 unfold qmG at h ⊢
 split at h
 ·rename_i hg
  rw[if_pos hg]
  split at h
  ·rename_i d hd
   simp only[hu]
   split at h
   ·rename_i b hb
    simp only[Tree.run] at h ⊢
    cases b<;>(simp only[Option.some.injEq] at h ⊢;subst h;rfl)
   ·rename_i hb
    cases hx:s.t[d]? with
    | none=>simp only[Tree.run,Option.some.injEq] at h ⊢;subst h;rw[←hu]
    | some v=>
     rw[hx] at hb
     cases v<;>first|(exact absurd rfl (hb _))|(simp only[Tree.run,Option.some.injEq] at h ⊢;subst h;rw[←hu])
  ·simp only[Tree.run,Option.some.injEq] at h ⊢;subst h;rw[←hu]
 ·rename_i hg
  rw[if_neg hg]
  simp only[Tree.run,Option.some.injEq] at h ⊢;subst h;rw[←hu]
theorem qip{E:Env}{callH:q6r}{all:Array Oper}{st0:St}:∀(l:List Oper) (k:Nat) (t t':List AV),(qnl E st0.h all k l t).run=some t'→(qg1 E callH all k l { st0 with t:=t }).run=some { st0 with t:=t' }
 | [],k,t,t',h=>by simp only[qnl,Tree.run,Option.some.injEq] at h;subst h;rfl
 | o::rest,k,t,t',h=>by
  simp only[qnl] at h
  simp only[qg1]
  cases hw:q1t all o t with
  | none=>rw[hw] at h;cases h
  | some b=>
   rw[hw] at h
   cases b with
   | false=>
    simp only at h ⊢
    exact qip rest (k+1) _ t' h
   | true=>
    simp only at h ⊢
    cases hst:qac E o.op with
    | false=>rw[hst] at h;cases h
    | true=>
     rw[hst] at h
     obtain⟨r,h1,h2⟩:=bind_some h
     obtain⟨s,h3,h4⟩:=bind_some h2
     have hr:=qny hst h1
     have hstep:(ql7 E callH o { st0 with t:=t }).run=some { st0 with t:=qeN t o.dst r.1 }:=by
      unfold ql7
      split
      ·rename_i x args tys hop;rw[hop] at hst;cases hst
      ·rw[Tree.run_bind,h1]
       obtain⟨r1,r2⟩:=r
       simp only at hr
       subst hr
       rfl
     rw[Tree.run_bind,hstep]
     simp only[Option.bind_some]
     rw[Tree.run_bind,qxL h3 { st0 with t:=qeN t o.dst r.1 } rfl]
     exact qip rest (k+1) _ t' h4
theorem qpQ{E:Env}{callH:q6r}{callS:List Blk→q8U}{rangeH:qaE}{f:FuncId}{st0:St}:∀(c:Code) (k:Nat) (t:List AV) (r:Ex×List AV),(q0S E st0.h f c k t).run=some r →
  (ju E callH callS rangeH f c k { st0 with t:=t }).run=some (r.1,{ st0 with t:=r.2 }):=by
 intro c
 induction c with
 | skip=>intro k t r h;simp only[q0S,Tree.run,Option.some.injEq] at h;subst h;rfl
 | label _=>intro k t r h;simp only[q0S,Tree.run,Option.some.injEq] at h;subst h;rfl
 | region id ops draw=>
  intro k t r h
  simp only[q0S] at h
  cases draw with
  | true=>cases h
  | false=>
   obtain⟨s,h1,h2⟩:=bind_some h
   simp only[Tree.run,Option.some.injEq] at h2
   subst h2
   simp only[ju]
   rw[Tree.run_bind,qip (callH:=callH) _ _ _ _ h1]
   rfl
 | seq c d ihc ihd=>
  intro k t r h
  simp only[q0S] at h
  simp only[ju]
  cases hfn:q7a E.loops f k with
  | some L=>rw[hfn] at h;cases h
  | none=>
   rw[hfn] at h
   simp only at h ⊢
   obtain⟨s,h1,h2⟩:=bind_some h
   rw[Tree.run_bind,ihc _ _ _ h1]
   simp only[Option.bind_some]
   obtain⟨e,s2⟩:=s
   cases e with
   | normal=>exact ihd _ _ _ h2
   | ret=>simp only[Tree.run,Option.some.injEq] at h2 ⊢;subst h2;rfl
   | exit i=>simp only[Tree.run,Option.some.injEq] at h2 ⊢;subst h2;rfl
 | cond x c d ihc ihd=>
  intro k t r h
  simp only[q0S] at h
  simp only[ju]
  split at h
  ·exact ihc _ _ _ h
  ·exact ihd _ _ _ h
  ·rename_i b hx
   cases x with
   | tmp d'=>
    simp only[Tree.run] at h ⊢
    cases b with
    | true=>exact ihc _ _ _ h
    | false=>exact ihd _ _ _ h
   | _=>cases h
  ·cases h
 | block id c ihc=>
  intro k t r h
  simp only[q0S] at h
  simp only[ju]
  obtain⟨s,h1,h2⟩:=bind_some h
  rw[Tree.run_bind,ihc _ _ _ h1]
  simp only[Option.bind_some]
  obtain⟨e,s2⟩:=s
  cases e with
  | normal=>simp only[Tree.run,Option.some.injEq] at h2 ⊢;subst h2;rfl
  | ret=>simp only[Tree.run,Option.some.injEq] at h2 ⊢;subst h2;rfl
  | exit i=>
   simp only at h2 ⊢
   split at h2
   ·rename_i hi;rw[if_pos hi];simp only[Tree.run,Option.some.injEq] at h2 ⊢;subst h2;rfl
   ·rename_i hi;rw[if_neg hi];simp only[Tree.run,Option.some.injEq] at h2 ⊢;subst h2;rfl
 | exit id=>intro k t r h;simp only[q0S,Tree.run,Option.some.injEq] at h;subst h;rfl
 | ret=>intro k t r h;simp only[q0S,Tree.run,Option.some.injEq] at h;subst h;rfl
 | _=>intro k t r h;simp only[q0S] at h;cases h
theorem qq7{E:Env}{callH:q6r}{rangeH:qaE}{f:FuncId}{fn:Func}{args:List AV}{st:St}{v:AV}(h:(qrd E st.h f fn args).run=some v):(qoV E qod callH rangeH f fn args st).run=some (v,st):=by
 unfold qrd at h
 unfold qoV
 cases hb:fn.body with
 | none=>rw[hb] at h;cases h
 | some c=>
  rw[hb] at h
  simp only at h ⊢
  obtain⟨r,h1,h2⟩:=bind_some h
  rw[Tree.run_bind,qpQ (callH:=callH) (callS:=qod) (rangeH:=rangeH) (st0:={ t:=[],fs:=st.t::st.fs,h:=st.h,pend:=st.pend }) c 0 _ r h1]
  simp only[Option.bind_some]
  obtain⟨e,t'⟩:=r
  unfold qx5
  cases e with
  | exit i=>cases h2
  | normal=>
   simp only at h2 ⊢
   cases hr:qjY E st.h t' fn.results.toList with
   | none=>rw[hr] at h2;cases h2
   | some vs=>rw[hr] at h2;cases h2;rfl
  | ret=>
   simp only at h2 ⊢
   cases hr:qjY E st.h t' fn.results.toList with
   | none=>rw[hr] at h2;cases h2
   | some vs=>rw[hr] at h2;cases h2;rfl
theorem qg6{P:Program}{it:List (FuncId×FuncId×Nat)}{f:FuncId}(h:q5T it f=true){B:Base}(hB:B.ro.isSome=true→2≤B.fs.length):qu P it f B:=by
 refine⟨hB,?_⟩
 unfold q5T at h
 split at h
 ·cases h
 ·rename_i hn;rw[hn];trivial
theorem qiw(E:Env)(P:Program):qfF E P qoE:=fun _ _ _ _ _ _ _ _ _ _ _ _ _ h=>by cases h
theorem quC{E:Env}{P:Program}(B:Base):CallOK E P (fun _ _ _=>.fail) B:=⟨(fun f args st r X a vargs _ _ h=>by cases h),(fun args st r X a vargs _ _ h=>by cases h)⟩
theorem q9n{E:Env}{P:Program}(hm:P.follows .mixedOrders=true)(hE:E.tok P)(hS:E.specs P)(hL:E.loopsOK P)(hb:E.bodies P):qfO E P (q5S E):=by
 intro f args st v B X a vargs hs ha h
 unfold q5S at h
 cases hsp:E.spec.find? fun x=>x.1==f with
 | some G=>rw[hsp] at h;exact qpf hS f args st v B X a vargs hs ha h
 | none=>
  rw[hsp] at h
  simp only at h
  cases hbd:E.body.find? fun x=>x.1==f with
  | none=>rw[hbd] at h;cases h
  | some fn=>
   rw[hbd] at h
   simp only at h
   cases hni:q5T E.iter f with
   | false=>rw[hni] at h;cases h
   | true=>
   rw[hni] at h
   simp only at h
   have hx:=hb fn (List.mem_of_find?_eq_some hbd)
   have hfe:fn.1=f:=by simpa using List.find?_some hbd
   rw[hfe] at hx
   let B':Base:={ B with fs:=a.tmps.toList::B.fs,ro:=none,pin:=fun _=>X.kept }
   have hF:SimF E B' X st:=⟨hs.hs.base rfl rfl rfl,hs.h,.cons hs.t hs.fs,hs.glob,hs.ni,hs.y,fun p hp=>hp⟩
   have h1:=qq7 (callH:=fun _ _ _=>.fail) (rangeH:=qoE) h
   obtain⟨g1,g2⟩:=qhH hm hE hS hL hx.1 (fun B _=>quC B) (callS:=qod) (fun _ _ _ _ _ _ _ _ _ _ h=>by cases h) (qpU E) (qiw E P) (B:=B') rfl (qg6 hni (fun h=>by cases h)) hF ha h1
   refine⟨q1B hx.1 hx.2 g1 _,g2.mono fun e w' ⟨u,X',e1,e2,e3,e4⟩=>⟨u,X',e1,e2,e3,?_⟩⟩
   have hpin:∀p,p∈X.kept→p∈X'.kept:=e4.pin
   have hfs:RepLL X' (st.t::st.fs) (a.tmps.toList::B.fs):=e4.fs
   obtain⟨Ds,d1,d2,d3⟩:=hs.df
   refine⟨e4.hs.base rfl rfl rfl,e4.h,?_,?_,e4.glob,⟨Ds,d1,d2,fun D hD=>⟨hpin _ (d3 D hD).1,(d3 D hD).2⟩⟩,hs.ni,e4.y,fun p hp=>hpin p (hs.pin p hp)⟩
   ·cases hfs with|cons k1 k2=>exact k1
   ·cases hfs with|cons k1 k2=>exact k2
theorem qdB{E:Env}{P:Program}(hm:P.follows .mixedOrders=true)(hE:E.tok P)(hS:E.specs P)(hL:E.loopsOK P)(hbs:E.bodies P){f:FuncId}{fn:Func}(hf:P.funcs[f]?=some fn)
  {callH:q6r} (hcH:∀B,qu P E.iter f B→CallOK E P callH B) {rangeH:qaE} (hrg:qfF E P rangeH)
  {args:List AV} {st:St} {r:AV×St} {B:Base} {X:Ctx} {vargs:List Value} (hro:B.ro=none) (hbo:qu P E.iter f B) (hs:SimF E B X st) (ha:RepL X args vargs) (h:(qsd E callH rangeH f fn args st).run=some r) :
  fn.body.isNone=false∧Calls P f vargs.toArray X.w fun e w'=>∃v X',e=.returned v∧X'.w=w'∧Rep X' r.1 v∧SimF E B X' r.2:=
 qhH hm hE hS hL hf hcH (q9n hm hE hS hL hbs) (q5J E) hrg hro hbo hs ha h
theorem qaS{E:Env}{P:Program}(hm:P.follows .mixedOrders=true)(hE:E.tok P)(hS:E.specs P)(hL:E.loopsOK P)(hb:E.bodies P){callH:q6r}(hcH:∀B,CallOK E P callH B):qfF E P (qg8 E callH):=by
 intro g y args st r B X vargs hs hbo hy hro ha h
 unfold qg8 at h
 cases hbd:E.body.find? fun x=>x.1==g with
 | none=>rw[hbd] at h;cases h
 | some fn=>
  rw[hbd] at h
  have hx:=hb fn (List.mem_of_find?_eq_some hbd)
  have hfe:fn.1=g:=by simpa using List.find?_some hbd
  rw[hfe] at hx
  obtain⟨g1,g2⟩:=qdB hm hE hS hL hb hx.1 (callH:=qxj y callH) (fun B' hB'=>⟨(hcH B').fn,hy B' hB'⟩) (qiw E P) hro hbo hs ha h
  exact⟨q1B hx.1 hx.2 g1 _,g2⟩
theorem qde{E:Env}{P:Program}(hm:P.follows .mixedOrders=true)(hE:E.tok P)(hS:E.specs P)(hL:E.loopsOK P)(hb:E.bodies P):∀n B,CallOK E P (q6U E n) B
 | 0,_=>⟨(fun f args st r X a vargs _ _ h=>by simp only[q6U] at h;cases h),(fun args st r X a vargs _ _ h=>by simp only[q6U] at h;cases h)⟩
 | n+1,B=>⟨(fun f args st r X a vargs hs ha h=>by
  simp only[q6U] at h
  cases hsp:E.spec.find? fun x=>x.1==f with
  | some G=>
   rw[hsp] at h
   have hG:=hS G (List.mem_of_find?_eq_some hsp)
   have hfe:G.1=f:=by simpa using List.find?_some hsp
   rw[hfe] at hG
   exact⟨hG.1 _,qa4 hG hs ha h⟩
  | none=>
   rw[hsp] at h
   cases hbd:E.body.find? fun x=>x.1==f with
   | none=>rw[hbd] at h;cases h
   | some fn=>
    rw[hbd] at h
    simp only at h
    cases hni:q5T E.iter f with
    | false=>rw[hni] at h;cases h
    | true=>
    rw[hni] at h
    simp only at h
    obtain⟨r1,h1,h2⟩:=bind_some h
    simp only[Tree.run,Option.some.injEq] at h2
    subst h2
    have hx:=hb fn (List.mem_of_find?_eq_some hbd)
    have hfe:fn.1=f:=by simpa using List.find?_some hbd
    rw[hfe] at hx
    let B':Base:={ B with fs:=a.tmps.toList::B.fs,ro:=none,pin:=fun _=>X.kept }
    have hF:SimF E B' X st:=⟨hs.hs.base rfl rfl rfl,hs.h,.cons hs.t hs.fs,hs.glob,hs.ni,hs.y,fun p hp=>hp⟩
    obtain⟨g1,g2⟩:=qdB hm hE hS hL hb hx.1 (fun B _=>qde hm hE hS hL hb n B) (qaS hm hE hS hL hb (qde hm hE hS hL hb n)) (B:=B') rfl (qg6 hni (fun h=>by cases h)) hF ha h1
    refine⟨q1B hx.1 hx.2 g1 _,g2.mono fun e w' ⟨v,X',e1,e2,e3,e4⟩=>⟨v,X',e1,e2,e3,?_⟩⟩
    have hpin:∀p,p∈X.kept→p∈X'.kept:=e4.pin
    have hfs:RepLL X' (r1.2.t::r1.2.fs) (a.tmps.toList::B.fs):=e4.fs
    obtain⟨Ds,d1,d2,d3⟩:=hs.df
    refine⟨e4.hs.base rfl rfl rfl,e4.h,?_,?_,e4.glob,⟨Ds,d1,d2,fun D hD=>⟨hpin _ (d3 D hD).1,(d3 D hD).2⟩⟩,hs.ni,e4.y,fun p hp=>hpin p (hs.pin p hp)⟩
    ·cases hfs with|cons k1 k2=>exact k1
    ·cases hfs with|cons k1 k2=>exact k2),
  (fun args st r X a vargs _ _ h=>by simp only[q6U] at h;cases h)⟩
theorem qpN{E:Env}{P:Program}(hm:P.follows .mixedOrders=true)(hE:E.tok P)(hS:E.specs P)(hL:E.loopsOK P)(hb:E.bodies P){f:FuncId}{fn:Func}(hf:P.funcs[f]?=some fn)
  {n:Nat} {B:Base} {X:Ctx} {args:List AV} {vargs:List Value} {r:AV×List Blk} (hs:HSim B X) (h0:B.imps.length≤E.nimp) (hgl:qaA E.glob X) (ha:RepL X args vargs)
  (h:(qsa E n f fn args X.h).run=some r) :
  Calls P f vargs.toArray X.w fun e w'=>∃v X',e=.returned v∧X'.w=w'∧Rep X' r.1 v∧X'.h=r.2∧HSim B X'∧X'.y=X.y:=by
 unfold qsa at h
 cases hni:q5T E.iter f with
 | false=>rw[hni] at h;cases h
 | true=>
 rw[hni] at h
 simp only at h
 obtain⟨r1,h1,h2⟩:=bind_some h
 simp only[Tree.run,Option.some.injEq] at h2
 subst h2
 let B0:Base:={ B with fs:=[[]],ro:=none,y:=X.y,pin:=fun _=>[] }
 have hF:SimF E B0 X { t:=[],fs:=[],h:=X.h,pend:=none }:=⟨hs.base rfl rfl rfl,rfl,.cons .nil .nil,hgl,h0,rfl,fun p hp=>by cases hp⟩
 obtain⟨_,g2⟩:=qdB hm hE hS hL hb hf (fun B _=>qde hm hE hS hL hb n B) (qaS hm hE hS hL hb (qde hm hE hS hL hb n)) (B:=B0) rfl (qg6 hni (fun h=>by cases h)) hF ha h1
 refine g2.mono fun e w' ⟨v,X',e1,e2,e3,e4⟩=>⟨v,X',e1,e2,e3,e4.h,e4.hs.base rfl rfl rfl,e4.y⟩
end Go.Eng

namespace Go.Eng
inductive PK where
 | i|b|s|r
inductive PV where
 | i (n:Int)|b (x:Bool)|s (l:List UInt8)|r (l:R)
def PV.kind:PV→PK|.i _=>.i|.b _=>.b|.s _=>.s|.r _=>.r
def PV.toI:PV→Int|.i n=>n|_=>0
def PV.toB:PV→Bool|.b x=>x|_=>false
def PV.toS:PV→List UInt8|.s x=>x|_=>[]
def PV.toR:PV→R|.r x=>x|_=>[]
inductive AP where
 | any|yld
 | int (k:IntKind)|bool|str|blit (b:Bool)
 | nilp|ptr (b off:Nat)|eptr (sh:List Sh) (off:Nat)|mptr (sh:List Sh) (off:Nat)|vptr (b off:Nat)
 | nils|imm (sh:List Sh)|vec (b:Nat)
 | nilf|fn (f:FuncId) (first caps:List AP)
 | agg (l:List AP)|tuple (l:List AP)
def qB:Nat→List AP→List AP
 | 0,l=>l
 | n+1,l=>.any::qB n l
def qug:Option (List PV)→Option (List PV)→Option (List PV)
 | some a,some b=>some (a++b)
 | _,_=>none
mutual
def AP.take:AP→AV→Option (List PV)
 | .any,_=>some []
 | .yld,.yld=>some []
 | .int k,.int k' n=>if k=k' then some [.i n] else none
 | .int k,.ilit k' n=>if k=k' then some [.i n] else none
 | .bool,.bool b=>some [.b b]
 | .bool,.blit b=>some [.b b]
 | .str,.str s=>some [.s s]
 | .blit b,.blit b'=>if b=b' then some [] else none
 | .nilp,.nilp=>some []
 | .ptr b off,.ptr b' off'=>if b=b'∧off=off' then some [] else none
 | .eptr sh off,.eptr sh' l i off'=>if Sh.beqL sh sh'=true∧off=off' then some [.r l,.i i] else none
 | .mptr _ _,.nilp=>some [.b false,.r [],.i 0]
 | .mptr sh off,.eptr sh' l i off'=>if Sh.beqL sh sh'=true∧off=off' then some [.b true,.r l,.i i] else none
 | .mptr sh off,.mptr c sh' l i off'=>if Sh.beqL sh sh'=true∧off=off' then some [.b c,.r l,.i i] else none
 | .vptr b off,.vptr b' i off'=>if b=b'∧off=off' then some [.i i] else none
 | .nils,.nils=>some []
 | .imm sh,.imm sh' l=>if Sh.beqL sh sh'=true then some [.r l] else none
 | .imm _,.nils=>some [.r []]
 | .vec b,.vec b'=>if b=b' then some [] else none
 | .nilf,.nilf=>some []
 | .fn f p q,.fn g a c=>if f=g then qug (AP.takeL p a) (AP.takeL q c) else none
 | .agg l,.agg a=>AP.takeL l a
 | .tuple l,.tuple a=>AP.takeL l a
 | _,_=>none
def AP.takeL:List AP→List AV→Option (List PV)
 | [],[]=>some []
 | p::l,a::azz=>qug (p.take a) (AP.takeL l azz)
 | _,_=>none
end
mutual
def AP.make:AP→List PV→AV×List PV
 | .any,ps=>(.undef,ps)
 | .yld,ps=>(.yld,ps)
 | .int k,.i n::ps=>(.int k n,ps)
 | .bool,.b x::ps=>(.bool x,ps)
 | .str,.s x::ps=>(.str x,ps)
 | .blit b,ps=>(.blit b,ps)
 | .nilp,ps=>(.nilp,ps)
 | .ptr b off,ps=>(.ptr b off,ps)
 | .eptr sh off,.r l::.i i::ps=>(.eptr sh l i off,ps)
 | .mptr sh off,.b c::.r l::.i i::ps=>(.mptr c sh l i off,ps)
 | .vptr b off,.i i::ps=>(.vptr b i off,ps)
 | .nils,ps=>(.nils,ps)
 | .imm sh,.r l::ps=>(.imm sh l,ps)
 | .vec b,ps=>(.vec b,ps)
 | .nilf,ps=>(.nilf,ps)
 | .fn f p q,ps=>let x:=AP.makeL p ps;let y:=AP.makeL q x.2;(.fn f x.1 y.1,y.2)
 | .agg l,ps=>let x:=AP.makeL l ps;(.agg x.1,x.2)
 | .tuple l,ps=>let x:=AP.makeL l ps;(.tuple x.1,x.2)
 | _,ps=>(.undef,ps)
def AP.makeL:List AP→List PV→List AV×List PV
 | [],ps=>([],ps)
 | p::l,ps=>let x:=p.make ps;let y:=AP.makeL l x.2;(x.1::y.1,y.2)
end
mutual
def AP.kinds:AP→List PK
 | .int _=>[.i]|.bool=>[.b]|.str=>[.s]
 | .eptr _ _=>[.r,.i]|.mptr _ _=>[.b,.r,.i]|.vptr _ _=>[.i]|.imm _=>[.r]
 | .fn _ p q=>AP.kindsL p++AP.kindsL q
 | .agg l=>AP.kindsL l
 | .tuple l=>AP.kindsL l
 | _=>[]
def AP.kindsL:List AP→List PK
 | []=>[]
 | p::l=>p.kinds++AP.kindsL l
end
theorem q2N{a b:Option (List PV)}{c:List PV}(h:qug a b=some c):∃x y,a=some x∧b=some y∧c=x++y:=by
 cases a<;>cases b<;>simp[qug] at h
 exact⟨_,_,rfl,rfl,h.symm⟩
mutual
theorem AP.take_ok{X:Ctx}:∀(p:AP) (a:AV) (ps rest:List PV),p.take a=some ps→(p.make (ps++rest)).2=rest∧ps.map PV.kind=p.kinds∧∀v,Rep X a v→Rep X (p.make (ps++rest)).1 v
 | .any,a,ps,rest,h=>by simp only[AP.take,Option.some.injEq] at h;subst h;exact⟨rfl,rfl,fun v _=>.undef v⟩
 | .yld,a,ps,rest,h=>by
  cases a<;>simp only[AP.take] at h<;>first|(cases h;done)|skip
  cases h;exact⟨rfl,rfl,fun v hv=>hv⟩
 | .int k,a,ps,rest,h=>by
  cases a<;>simp only[AP.take] at h<;>first|(cases h;done)|skip
  all_goals
   split at h
   ·rename_i hk;cases h;subst hk
    refine⟨rfl,rfl,fun v hv=>?_⟩
    cases hv
    exact .int _ _
   ·cases h
 | .bool,a,ps,rest,h=>by
  cases a<;>simp only[AP.take] at h<;>first|(cases h;done)|skip
  all_goals
   cases h
   refine⟨rfl,rfl,fun v hv=>?_⟩
   cases hv
   exact .bool _
 | .str,a,ps,rest,h=>by
  cases a<;>simp only[AP.take] at h<;>first|(cases h;done)|skip
  cases h
  exact⟨rfl,rfl,fun v hv=>hv⟩
 | .blit b,a,ps,rest,h=>by
  cases a<;>simp only[AP.take] at h<;>first|(cases h;done)|skip
  split at h
  ·rename_i hb;cases h;subst hb;exact⟨rfl,rfl,fun v hv=>hv⟩
  ·cases h
 | .nilp,a,ps,rest,h=>by
  cases a<;>simp only[AP.take] at h<;>first|(cases h;done)|skip
  cases h;exact⟨rfl,rfl,fun v hv=>hv⟩
 | .ptr b off,a,ps,rest,h=>by
  cases a<;>simp only[AP.take] at h<;>first|(cases h;done)|skip
  split at h
  ·rename_i hb;cases h;obtain⟨rfl,rfl⟩:=hb;exact⟨rfl,rfl,fun v hv=>hv⟩
  ·cases h
 | .eptr sh off,a,ps,rest,h=>by
  cases a<;>simp only[AP.take] at h<;>first|(cases h;done)|skip
  split at h
  ·rename_i hb;cases h;obtain⟨hb,rfl⟩:=hb;have:=Sh.beqL_eq _ _ hb;subst this;exact⟨rfl,rfl,fun v hv=>hv⟩
  ·cases h
 | .mptr sh off,a,ps,rest,h=>by
  cases a<;>simp only[AP.take] at h<;>first|(cases h;done)|skip
  ·cases h
   refine⟨rfl,rfl,fun v hv=>?_⟩
   cases hv
   exact .mnil _ _ _ _
  ·split at h
   ·rename_i hb;cases h;obtain⟨hb,rfl⟩:=hb;have:=Sh.beqL_eq _ _ hb;subst this
    refine⟨rfl,rfl,fun v hv=>?_⟩
    cases hv with
    | eptr _ _ _ _ a h1 h2 h3 h4=>exact .mptr _ _ _ _ a h1 h2 h3 h4
   ·cases h
  ·split at h
   ·rename_i hb;cases h;obtain⟨hb,rfl⟩:=hb;have:=Sh.beqL_eq _ _ hb;subst this;exact⟨rfl,rfl,fun v hv=>hv⟩
   ·cases h
 | .vptr b off,a,ps,rest,h=>by
  cases a<;>simp only[AP.take] at h<;>first|(cases h;done)|skip
  split at h
  ·rename_i hb;cases h;obtain⟨rfl,rfl⟩:=hb;exact⟨rfl,rfl,fun v hv=>hv⟩
  ·cases h
 | .nils,a,ps,rest,h=>by
  cases a<;>simp only[AP.take] at h<;>first|(cases h;done)|skip
  cases h;exact⟨rfl,rfl,fun v hv=>hv⟩
 | .imm sh,a,ps,rest,h=>by
  cases a<;>simp only[AP.take] at h<;>first|(cases h;done)|skip
  ·cases h
   refine⟨rfl,rfl,fun v hv=>?_⟩
   cases hv
   exact .imm _ _ _ (.inl ⟨rfl,rfl⟩)
  ·split at h
   ·rename_i hb;cases h;have:=Sh.beqL_eq _ _ hb;subst this;exact⟨rfl,rfl,fun v hv=>hv⟩
   ·cases h
 | .vec b,a,ps,rest,h=>by
  cases a<;>simp only[AP.take] at h<;>first|(cases h;done)|skip
  split at h
  ·rename_i hb;cases h;subst hb;exact⟨rfl,rfl,fun v hv=>hv⟩
  ·cases h
 | .nilf,a,ps,rest,h=>by
  cases a<;>simp only[AP.take] at h<;>first|(cases h;done)|skip
  cases h;exact⟨rfl,rfl,fun v hv=>hv⟩
 | .fn f p q,a,ps,rest,h=>by
  cases a<;>simp only[AP.take] at h<;>first|(cases h;done)|skip
  rename_i g a c
  split at h
  ·rename_i hf;subst hf
   obtain⟨x,y,h1,h2,rfl⟩:=q2N h
   obtain⟨a1,a2,a3⟩:=AP.takeL_ok (X:=X) p a x (y++rest) h1
   obtain⟨b1,b2,b3⟩:=AP.takeL_ok (X:=X) q c y rest h2
   simp only[AP.make,List.append_assoc,a1,b1,AP.kinds,List.map_append,a2,b2,true_and]
   intro v hv
   cases hv with
   | fn _ _ _ vf vc g1 g2=>exact .fn _ _ _ vf vc (a3 _ g1) (b3 _ g2)
  ·cases h
 | .agg l,a,ps,rest,h=>by
  cases a<;>simp only[AP.take] at h<;>first|(cases h;done)|skip
  obtain⟨a1,a2,a3⟩:=AP.takeL_ok (X:=X) l _ ps rest h
  simp only[AP.make,a1,AP.kinds,a2,true_and]
  intro v hv
  cases hv with
  | agg _ vs g=>exact .agg _ vs (a3 _ g)
 | .tuple l,a,ps,rest,h=>by
  cases a<;>simp only[AP.take] at h<;>first|(cases h;done)|skip
  obtain⟨a1,a2,a3⟩:=AP.takeL_ok (X:=X) l _ ps rest h
  simp only[AP.make,a1,AP.kinds,a2,true_and]
  intro v hv
  cases hv with
  | tuple _ vs g=>exact .tuple _ vs (a3 _ g)
theorem AP.takeL_ok{X:Ctx}:∀(p:List AP) (a:List AV) (ps rest:List PV),AP.takeL p a=some ps→(AP.makeL p (ps++rest)).2=rest∧ps.map PV.kind=AP.kindsL p∧∀v,RepL X a v→RepL X (AP.makeL p (ps++rest)).1 v
 | [],a,ps,rest,h=>by
  cases a<;>simp only[AP.takeL] at h<;>cases h
  exact⟨rfl,rfl,fun v hv=>hv⟩
 | p::l,a,ps,rest,h=>by
  cases a with
  | nil=>simp only[AP.takeL] at h;cases h
  | cons a azz=>
   simp only[AP.takeL] at h
   obtain⟨x,y,h1,h2,rfl⟩:=q2N h
   obtain⟨a1,a2,a3⟩:=AP.take_ok (X:=X) p a x (y++rest) h1
   obtain⟨b1,b2,b3⟩:=AP.takeL_ok (X:=X) l azz y rest h2
   simp only[AP.makeL,List.append_assoc,a1,b1,AP.kindsL,List.map_append,a2,b2,true_and]
   intro v hv
   cases hv with
   | cons g1 g2=>exact .cons (a3 _ g1) (b3 _ g2)
end
def AP.takeLL:List (List AP)→List (List AV)→Option (List PV)
 | [],[]=>some []
 | p::l,a::azz=>qug (AP.takeL p a) (AP.takeLL l azz)
 | _,_=>none
def AP.makeLL:List (List AP)→List PV→List (List AV)×List PV
 | [],ps=>([],ps)
 | p::l,ps=>let x:=AP.makeL p ps;let y:=AP.makeLL l x.2;(x.1::y.1,y.2)
def AP.kindsLL:List (List AP)→List PK
 | []=>[]
 | p::l=>AP.kindsL p++AP.kindsLL l
theorem AP.takeLL_ok{X:Ctx}:∀(p:List (List AP)) (a:List (List AV)) (ps rest:List PV),AP.takeLL p a=some ps→(AP.makeLL p (ps++rest)).2=rest∧ps.map PV.kind=AP.kindsLL p∧∀v,RepLL X a v→RepLL X (AP.makeLL p (ps++rest)).1 v
 | [],a,ps,rest,h=>by
  cases a<;>simp only[AP.takeLL] at h<;>cases h
  exact⟨rfl,rfl,fun v hv=>hv⟩
 | p::l,a,ps,rest,h=>by
  cases a with
  | nil=>simp only[AP.takeLL] at h;cases h
  | cons a azz=>
   simp only[AP.takeLL] at h
   obtain⟨x,y,h1,h2,rfl⟩:=q2N h
   obtain⟨a1,a2,a3⟩:=AP.takeL_ok (X:=X) p a x (y++rest) h1
   obtain⟨b1,b2,b3⟩:=AP.takeLL_ok (X:=X) l azz y rest h2
   simp only[AP.makeLL,List.append_assoc,a1,b1,AP.kindsLL,List.map_append,a2,b2,true_and]
   intro v hv
   cases hv with
   | cons g1 g2=>exact .cons (a3 _ g1) (b3 _ g2)
inductive BP where
 | cells (l:List AP)|big (l:List AP) (k:IntKind) (n:Nat)|vec (e:TypeId) (sh:List Sh)|frz (e:TypeId) (sh:List Sh)|dead
def BP.take:BP→Blk→Option (List PV)
 | .cells l,.cells cs=>AP.takeL l cs
 | .big l k n,.big cs k' n' r=>if k=k'∧n=n' then qug (AP.takeL l cs) (some [.r r]) else none
 | .vec e sh,.vec e' sh' l=>if e=e'∧Sh.beqL sh sh'=true then some [.r l] else none
 | .frz e sh,.frz e' sh' l=>if e=e'∧Sh.beqL sh sh'=true then some [.r l] else none
 | .dead,_=>some []
 | _,_=>none
def BP.make:BP→List PV→Blk×List PV
 | .cells l,ps=>let x:=AP.makeL l ps;(.cells x.1,x.2)
 | .big l k n,ps=>let x:=AP.makeL l ps;match x.2 with
  | .r r::qs=>(.big x.1 k n r,qs)
  | qs=>(.dead,qs)
 | .vec e sh,.r l::ps=>(.vec e sh l,ps)
 | .frz e sh,.r l::ps=>(.frz e sh l,ps)
 | _,ps=>(.dead,ps)
def BP.kinds:BP→List PK
 | .cells l=>AP.kindsL l
 | .big l _ _=>AP.kindsL l++[.r]
 | .vec _ _=>[.r]
 | .frz _ _=>[.r]
 | .dead=>[]
def BP.takeL:List BP→List Blk→Option (List PV)
 | [],[]=>some []
 | p::l,b::bs=>qug (p.take b) (BP.takeL l bs)
 | _,_=>none
def BP.makeL:List BP→List PV→List Blk×List PV
 | [],ps=>([],ps)
 | p::l,ps=>let x:=p.make ps;let y:=BP.makeL l x.2;(x.1::y.1,y.2)
def BP.kindsL:List BP→List PK
 | []=>[]
 | p::l=>p.kinds++BP.kindsL l
def BP.isCells:BP→Bool
 | .cells _|.big _ _ _=>true
 | _=>false
theorem BP.take_ok{X:Ctx}(p:BP)(k:Blk)(ps rest:List PV)(h:p.take k=some ps):(p.make (ps++rest)).2=rest∧ps.map PV.kind=p.kinds∧Wk X k (p.make (ps++rest)).1 ∧
  (p.isCells=true→(p.make (ps++rest)).1.solid=true):=by
 cases p with
 | cells l=>
  cases k<;>simp only[BP.take] at h<;>first|(cases h;done)|skip
  obtain⟨a1,a2,a3⟩:=AP.takeL_ok (X:=X) l _ ps rest h
  simp only[BP.make,a1,BP.kinds,a2,true_and]
  exact⟨.inr (.inr (.inl ⟨_,_,rfl,rfl,a3⟩)),fun _=>rfl⟩
 | big l kk n=>
  cases k<;>simp only[BP.take] at h<;>first|(cases h;done)|skip
  split at h
  ·rename_i hb;obtain⟨rfl,rfl⟩:=hb
   obtain⟨x,y,h1,h2,rfl⟩:=q2N h
   cases h2
   rename_i cs r
   obtain⟨a1,a2,a3⟩:=AP.takeL_ok (X:=X) l _ x ([.r r]++rest) h1
   simp only[List.cons_append,List.nil_append] at a1 a3
   simp only[BP.make,List.append_assoc,a1,List.cons_append,List.nil_append,BP.kinds,List.map_append,a2,List.map_cons,List.map_nil,PV.kind,true_and]
   exact⟨.inr (.inr (.inr ⟨_,_,_,_,_,rfl,rfl,a3⟩)),fun _=>rfl⟩
  ·cases h
 | vec e sh=>
  cases k<;>simp only[BP.take] at h<;>first|(cases h;done)|skip
  split at h
  ·rename_i hb;cases h;obtain⟨rfl,hb⟩:=hb;have:=Sh.beqL_eq _ _ hb;subst this;exact⟨rfl,rfl,.inr (.inl rfl),fun h=>by cases h⟩
  ·cases h
 | frz e sh=>
  cases k<;>simp only[BP.take] at h<;>first|(cases h;done)|skip
  split at h
  ·rename_i hb;cases h;obtain⟨rfl,hb⟩:=hb;have:=Sh.beqL_eq _ _ hb;subst this;exact⟨rfl,rfl,.inr (.inl rfl),fun h=>by cases h⟩
  ·cases h
 | dead=>
  have:ps=[]:=by cases k<;>simp[BP.take] at h<;>exact h
  subst this
  exact⟨rfl,rfl,.inl rfl,fun h=>by cases h⟩
theorem BP.takeL_ok{X:Ctx}:∀(p:List BP) (k:List Blk) (ps rest:List PV),BP.takeL p k=some ps→(BP.makeL p (ps++rest)).2=rest∧ps.map PV.kind=BP.kindsL p ∧
  (BP.makeL p (ps++rest)).1.length=k.length∧p.length=k.length∧∀(b:Nat) (k':Blk),(BP.makeL p (ps++rest)).1[b]?=some k'→∃k0,k[b]?=some k0∧Wk X k0 k'∧∀q:BP,p[b]?=some q→q.isCells=true→k'.solid=true
 | [],k,ps,rest,h=>by
  cases k<;>simp only[BP.takeL] at h<;>cases h
  exact⟨rfl,rfl,rfl,rfl,fun b k' hb=>by simp[BP.makeL] at hb⟩
 | p::l,k,ps,rest,h=>by
  cases k with
  | nil=>simp only[BP.takeL] at h;cases h
  | cons k ks=>
   simp only[BP.takeL] at h
   obtain⟨x,y,h1,h2,rfl⟩:=q2N h
   obtain⟨a1,a2,a3,a4⟩:=BP.take_ok (X:=X) p k x (y++rest) h1
   obtain⟨b1,b2,b3,b4,b5⟩:=BP.takeL_ok (X:=X) l ks y rest h2
   simp only[BP.makeL,List.append_assoc,a1,b1,BP.kindsL,List.map_append,a2,b2,List.length_cons,b3,b4,true_and]
   intro b k' hb
   cases b with
   | zero=>
    simp only[List.getElem?_cons_zero,Option.some.injEq] at hb
    subst hb
    exact⟨k,rfl,a3,fun q hq hc=>by simp only[List.getElem?_cons_zero,Option.some.injEq] at hq;subst hq;exact a4 hc⟩
   | succ b=>
    simp only[List.getElem?_cons_succ] at hb ⊢
    exact b5 b k' hb
def qqN(n:Nat):Nat→Option Nat:=fun b=>if Nat.blt b n then some b else none
theorem quv{n b b':Nat}(h:qqN n b=some b'):b'=b∧b<n:=by
 unfold qqN at h
 split at h
 ·rename_i hb;cases h;exact⟨rfl,by simpa[Nat.blt_eq] using hb⟩
 ·cases h
def Ctx.cut(X:Ctx)(n:Nat):Ctx:={ X with h:=(X.h.take n).map (Blk.ren (qqN n)) }
theorem Ctx.cut_get{X:Ctx}{n b:Nat}{k:Blk}(h:(X.cut n).h[b]?=some k):b<n∧∃k0,X.h[b]?=some k0∧k=k0.ren (qqN n):=by
 have h':((X.h.take n).map (Blk.ren (qqN n)))[b]?=some k:=h
 rw[List.getElem?_map,List.getElem?_take] at h'
 split at h'
 ·rename_i hb
  refine⟨hb,?_⟩
  cases hk:X.h[b]? with
  | none=>rw[hk] at h';cases h'
  | some k0=>rw[hk] at h';exact⟨k0,rfl,(Option.some.inj h').symm⟩
 ·cases h'
theorem qsg{B:Base}{X:Ctx}(hs:HSim B X){n:Nat}(hn:B.imps.length≤n):HSim B (X.cut n)∧Move X (X.cut n) (qqN n):=by
 have hvec:∀b sh m,(X.cut n).isVec b sh m→X.isVec b sh m:=by
  intro b sh m ⟨e,l,h1,h2⟩
  refine⟨e,l,?_,h2⟩
  rcases h1 with h1|h1
  ·obtain⟨_,k0,h3,h4⟩:=Ctx.cut_get h1
   cases k0<;>simp[Blk.ren] at h4
   obtain⟨rfl,rfl,rfl⟩:=h4;exact .inl h3
  ·obtain⟨_,k0,h3,h4⟩:=Ctx.cut_get h1
   cases k0<;>simp[Blk.ren] at h4
   obtain⟨rfl,rfl,rfl⟩:=h4;exact .inr h3
 have hm:Move X (X.cut n) (qqN n):=by
  refine Move.of (fun _ h=>h) (fun _ _=>rfl) (fun b b' hb hf=>?_)
  obtain⟨rfl,hlt⟩:=quv hf
  exact⟨by simp[Ctx.cut];omega,rfl,hvec b',fun sh m _ k hk c T fr hc=>⟨c,T,fr,hc,rfl⟩⟩
 have hown:∀b m,(X.cut n).own b m→X.own b m:=by
  intro b m ⟨h1,k,h2,h3⟩
  obtain⟨_,k0,h4,h5⟩:=Ctx.cut_get h2
  exact⟨h1,k0,h4,by rw[h5,Blk.mut_ren] at h3;exact h3⟩
 refine⟨⟨?_,fun b b' m h h'=>hs.inj b b' m (hown _ _ h) (hown _ _ h'),fun b m h=>hs.notM b m (hown _ _ h),hs.ltM,hs.M0,hs.newM,hs.os,hs.tape,hs.output,hs.size,hs.frame,hs.imps,?_,fun b m h=>hs.fresh b m (hown _ _ h),hs.kept⟩,hm⟩
 ·intro b k hk
  obtain⟨_,k0,h1,h2⟩:=Ctx.cut_get hk
  rw[h2]
  exact yl.move hm.toMove0 rfl (fun _ _=>rfl) (hs.blk b k0 h1)
 ·intro b hb
  obtain⟨cs,h1,h2⟩:=hs.impc b hb
  refine⟨cs.ren (qqN n),?_,by rw[Blk.solid_ren];exact h2⟩
  show ((X.h.take n).map (Blk.ren (qqN n)))[b]?=_
  rw[List.getElem?_map,List.getElem?_take,if_pos (by omega),h1]
  rfl
end Go.Eng

namespace Go.Eng
def Ex.beq:Ex→Ex→Bool
 | .normal,.normal=>true
 | .ret,.ret=>true
 | .exit i,.exit j=>Nat.beq i j
 | _,_=>false
theorem Ex.beq_eq{x y:Ex}(h:x.beq y=true):x=y:=by
 cases x<;>cases y<;>simp[Ex.beq] at h ⊢
 exact h
def peq:Option Ex→Option Ex→Bool
 | none,none=>true
 | some x,some y=>x.beq y
 | _,_=>false
theorem qyY{x y:Option Ex}(h:peq x y=true):x=y:=by
 cases x<;>cases y<;>simp[peq] at h ⊢
 exact Ex.beq_eq h
structure Tmpl where
 t:List AP
 h:List BP
 pro:List (Nat×TypeId×List Sh):=[]
 fs:List (List AP):=[[]]
 pend:Option Ex:=none
 sw:List (Nat×Nat):=[]
 swn:Nat:=0
def qtI:List (Nat×TypeId×List Sh)→St→St
 | [],st=>st
 | (i,e,sh)::l,st=>match st.t[i]? with
  | some .nils=>qtI l { st with t:=st.t.set i (.vec st.h.length),h:=st.h++[.vec e sh []] }
  | _=>qtI l st
def q9L(n:Nat)(h:List BP):Bool:=Nat.ble n h.length&&(h.take n).all BP.isCells
def swp(b c x:Nat):Nat:=if Nat.beq x b then c else if Nat.beq x c then b else x
def swB(b c:Nat):Nat→Option Nat:=fun x=>some (swp b c x)
def qre(b c:Nat)(h:List Blk):List Blk:=(h.set b (h.getD c .dead)).set c (h.getD b .dead)
def St.swap(b c:Nat)(st:St):St:={ t:=AV.renL (swB b c) st.t,fs:=st.fs.map (AV.renL (swB b c)),h:=(qre b c st.h).map (Blk.ren (swB b c)),pend:=st.pend }
def qA6:AV→Option Nat
 | .ptr b _=>some b
 | .vec b=>some b
 | _=>none
def qm1(n:Nat):List (Nat×Nat)→St→St
 | [],st=>st
 | (i,b)::l,st=>match (st.t[i]?).bind qA6 with
  | some c=>(match Nat.ble n b&&Nat.ble n c&&Nat.blt b st.h.length&&Nat.blt c st.h.length&&!(Nat.beq b c) with
   | true=>qm1 n l (st.swap b c)
   | false=>qm1 n l st)
  | none=>qm1 n l st
def Tmpl.take1(tm:Tmpl)(st:St):Option (List PV):=match peq tm.pend st.pend with
 | true=>qug (AP.takeL tm.t (AV.renL (qqN tm.h.length) st.t)) (qug (AP.takeLL tm.fs (st.fs.map (AV.renL (qqN tm.h.length)))) (BP.takeL tm.h ((st.h.take tm.h.length).map (Blk.ren (qqN tm.h.length)))))
 | false=>none
def Tmpl.take(tm:Tmpl)(st:St):Option (List PV):=tm.take1 (qm1 tm.swn tm.sw (qtI tm.pro st))
def Tmpl.ok(n:Nat)(tm:Tmpl):Bool:=q9L n tm.h&&(tm.sw.isEmpty||Nat.ble n tm.swn)
def Tmpl.make(tm:Tmpl)(ps:List PV):St:=let x:=AP.makeL tm.t ps;let y:=AP.makeLL tm.fs x.2;{ t:=x.1,fs:=y.1,h:=(BP.makeL tm.h y.2).1,pend:=tm.pend }
def Tmpl.kinds(tm:Tmpl):List PK:=AP.kindsL tm.t++(AP.kindsLL tm.fs++BP.kindsL tm.h)
theorem qlp{n:Nat}{h:List BP}(hc:q9L n h=true):n≤h.length∧∀b,b<n→∃q,h[b]?=some q∧q.isCells=true:=by
 simp only[q9L,Bool.and_eq_true,Nat.ble_eq,List.all_eq_true] at hc
 refine⟨hc.1,fun b hb=>?_⟩
 have hlt:b<h.length:=by omega
 refine⟨h[b],List.getElem?_eq_getElem hlt,hc.2 _ ?_⟩
 rw[List.mem_take_iff_getElem]
 exact⟨b,by omega,rfl⟩
theorem qm0{E:Env}{X X':Ctx}(hM:∀n,X.M n→X'.M n)(hw:X'.w=X.w)(hy:X'.y=X.y)
  (h:∀x,x∈E.glob→(∃sh l i off,x.2=.eptr sh l i off)∧qwS X x) :
  ∀x,x∈E.glob→(∃sh l i off,x.2=.eptr sh l i off)∧qwS X' x:=by
 intro x hx
 obtain⟨⟨sh,l,i,off,he⟩,hr⟩:=h x hx
 refine⟨⟨sh,l,i,off,he⟩,hr.move hM (fun _ _=>by rw[hw]) ?_⟩
 have hr:=hr.1
 rw[he] at hr ⊢
 exact hr.noMen rfl hM (fun _ _=>by rw[hw]) hy
theorem qiH{E:Env}{B:Base}{a:Act}:∀(l:List (Nat×TypeId×List Sh)) {X:Ctx} {st:St},Sim E B X st a→∃X',X'.w=X.w∧Sim E B X' (qtI l st) a
 | [],X,st,hs=>⟨X,rfl,hs⟩
 | (i,e,sh)::l,X,st,hs=>by
  simp only[qtI]
  split
  ·rename_i hi
   have hw:=PushW.same X
   have hk:yl (X.pushW (.vec e sh []) none X.w) X.h.length (.vec e sh []):=.inl ⟨by simp[Ctx.pushW],rfl⟩
   have hs1:=HSim.push hs.hs hw hk
   have hx:=Ctx.push_ext hs.hs (.vec e sh []) hw
   have hsim:=hs.ext hx hs1
   obtain⟨v,g1,g2⟩:=hs.t.get i _ hi
   have hv:v=.slice none 0 0:=by cases g2;rfl
   subst hv
   have hrep:Rep (X.pushW (.vec e sh []) none X.w) (.vec st.h.length) (.slice none 0 0):=by
    rw[←hs.h]
    refine .vec _ _ _ _ (by simp[Ctx.pushW]) fun sh' m hv=>?_
    unfold qsB
    simp[Ctx.pushW]
   have hset:=RepL.set hrep hsim.t i
   have he:a.tmps.toList.set i (.slice none 0 0)=a.tmps.toList:=by
    apply List.ext_getElem?
    intro j
    by_cases hj:j=i
    ·subst hj;rw[List.getElem?_set_self (qw g1),g1]
    ·rw[List.getElem?_set_ne (Ne.symm hj)]
   rw[he] at hset
   obtain⟨X2,q1,q2⟩:=qiH l (X:=X.pushW (.vec e sh []) none X.w) (st:={ st with t:=st.t.set i (.vec st.h.length),h:=st.h++[.vec e sh []] })
    ⟨hs1,by simp[Ctx.pushW,hs.h],hset,hsim.fs,hsim.glob,hsim.df,hsim.ni,hsim.y,hsim.pin⟩
   exact⟨X2,q1,q2⟩
  ·exact qiH l hs
theorem qlB(b c x:Nat):swp b c (swp b c x)=x:=by
 unfold swp
 simp only[Nat.beq_eq]
 by_cases h1:x=b
 ·subst h1
  by_cases h2:c=x
  ·simp[h2]
  ·simp[h2]
 ·by_cases h2:x=c
  ·subst h2;simp[h1]
  ·simp[h1,h2]
theorem qzh{b c x n:Nat}(hb:n≤b)(hc:n≤c):n≤swp b c x↔n≤x:=by
 unfold swp
 simp only[Nat.beq_eq]
 split
 ·rename_i h;subst h;exact⟨fun _=>hb,fun _=>hc⟩
 ·split
  ·rename_i h;subst h;exact⟨fun _=>hc,fun _=>hb⟩
  ·exact Iff.rfl
theorem qzq{b c x n:Nat}(hb:b<n)(hc:c<n):swp b c x<n↔x<n:=by
 unfold swp
 simp only[Nat.beq_eq]
 split
 ·rename_i h;subst h;exact⟨fun _=>hb,fun _=>hc⟩
 ·split
  ·rename_i h;subst h;exact⟨fun _=>hc,fun _=>hb⟩
  ·exact Iff.rfl
theorem qxq{b c x n:Nat}(hb:n≤b)(hc:n≤c)(hx:x<n):swp b c x=x:=by
 unfold swp
 simp only[Nat.beq_eq]
 rw[if_neg (by omega),if_neg (by omega)]
theorem quE{b c:Nat}{h:List Blk}(hb:b<h.length)(hc:c<h.length)(hbc:b≠c)(i:Nat):(qre b c h)[i]?=h[swp b c i]?:=by
 have e1:h.getD c .dead=h[c]:=by simp[List.getD_eq_getElem?_getD,hc]
 have e2:h.getD b .dead=h[b]:=by simp[List.getD_eq_getElem?_getD,hb]
 unfold qre swp
 simp only[Nat.beq_eq]
 rw[e1,e2]
 by_cases h1:i=b
 ·subst h1
  rw[if_pos rfl,List.getElem?_set_ne (Ne.symm hbc),List.getElem?_set_self hb,List.getElem?_eq_getElem hc]
 ·by_cases h2:i=c
  ·subst h2
   rw[if_neg h1,if_pos rfl,List.getElem?_set_self (by simpa using hc),List.getElem?_eq_getElem hb]
  ·rw[if_neg h1,if_neg h2,List.getElem?_set_ne (Ne.symm h2),List.getElem?_set_ne (Ne.symm h1)]
def Ctx.swap(X:Ctx)(b c:Nat):Ctx:={ X with σ:=fun x=>X.σ (swp b c x),h:=(qre b c X.h).map (Blk.ren (swB b c)) }
theorem qvG{B:Base}{X:Ctx}(hs:HSim B X){b c:Nat}(hb:B.imps.length≤b)(hc:B.imps.length≤c)(hbl:b<X.h.length)(hcl:c<X.h.length)(hbc:b≠c) :
  HSim B (X.swap b c)∧Move X (X.swap b c) (swB b c):=by
 have hget:∀i,(X.swap b c).h[i]?=(X.h[swp b c i]?).map (Blk.ren (swB b c)):=fun i=>by
  show ((qre b c X.h).map _)[i]?=_
  rw[List.getElem?_map,quE hbl hcl hbc]
 have hget':∀i k,(X.swap b c).h[i]?=some k→∃k0,X.h[swp b c i]?=some k0∧k=k0.ren (swB b c):=by
  intro i k h
  rw[hget] at h
  cases hk:X.h[swp b c i]? with
  | none=>rw[hk] at h;cases h
  | some k0=>rw[hk] at h;exact⟨k0,rfl,(Option.some.inj h).symm⟩
 have hσ:∀i,(X.swap b c).σ i=X.σ (swp b c i):=fun _=>rfl
 have hm:Move X (X.swap b c) (swB b c):=by
  refine Move.of (fun _ h=>h) (fun _ _=>rfl) (fun b1 b2 hb1 hf=>?_)
  have hf':b2=swp b c b1:=(Option.some.inj hf).symm
  subst hf'
  refine⟨?_,by rw[hσ,qlB],fun sh m ⟨e,l,h1,h2⟩=>⟨e,l,?_,h2⟩,fun sh m _ n hn c T fr hc=>⟨c,T,fr,hc,rfl⟩⟩
  ·show _<((qre b c X.h).map _).length
   simp only[qre,List.length_map,List.length_set]
   exact(qzq hbl hcl).2 hb1
  ·rcases h1 with h1|h1
   ·obtain⟨k0,h3,h4⟩:=hget' _ _ h1
    rw[qlB] at h3
    rcases qij (.inl h4) with rfl|rfl
    ·exact .inl h3
    ·exact .inr h3
   ·obtain⟨k0,h3,h4⟩:=hget' _ _ h1
    rw[qlB] at h3
    rcases qij (.inr h4) with rfl|rfl
    ·exact .inl h3
    ·exact .inr h3
 have hown:∀i n,(X.swap b c).own i n→X.own (swp b c i) n:=by
  intro i n ⟨h1,k,h2,h3⟩
  obtain⟨k0,h4,h5⟩:=hget' i k h2
  exact⟨h1,k0,h4,by rw[h5,Blk.mut_ren] at h3;exact h3⟩
 refine⟨⟨?_,?_,fun i n h=>hs.notM _ n (hown _ _ h),hs.ltM,hs.M0,hs.newM,hs.os,hs.tape,hs.output,hs.size,hs.frame,?_,?_,?_,hs.kept⟩,hm⟩
 ·intro i k hk
  obtain⟨k0,h1,h2⟩:=hget' i k hk
  rw[h2]
  exact yl.move hm.toMove0 (hσ i) (fun _ _=>rfl) (hs.blk _ k0 h1)
 ·intro i j n h1 h2
  have:=hs.inj _ _ n (hown _ _ h1) (hown _ _ h2)
  rw[←qlB b c i,this,qlB]
 ·intro i hi
  rw[hσ,qxq hb hc hi];exact hs.imps i hi
 ·intro i hi
  obtain⟨k,h1,h2⟩:=hs.impc i hi
  exact⟨k.ren (swB b c),by rw[hget,qxq hb hc hi,h1];rfl,by rw[Blk.solid_ren];exact h2⟩
 ·intro i n h1 h2
  exact hs.fresh _ n (hown _ _ h1) ((qzh hb hc).2 h2)
theorem qbQ{E:Env}{B:Base}{a:Act}{n:Nat}(hn:B.imps.length≤n):∀(l:List (Nat×Nat)) {X:Ctx} {st:St},Sim E B X st a→∃X',X'.w=X.w∧Sim E B X' (qm1 n l st) a
 | [],X,st,hs=>⟨X,rfl,hs⟩
 | (i,b)::l,X,st,hs=>by
  simp only[qm1]
  split
  ·rename_i c hc
   split
   ·rename_i hcond
    simp only[Bool.and_eq_true,Nat.ble_eq,Nat.blt_eq,Bool.not_eq_true'] at hcond
    obtain⟨⟨⟨⟨c1,c2⟩,c3⟩,c4⟩,c5⟩:=hcond
    have hne:b≠c:=fun e=>by subst e;simp at c5
    obtain⟨g1,g2⟩:=qvG hs.hs (b:=b) (c:=c) (by omega) (by omega) (by rw[hs.h];exact c3) (by rw[hs.h];exact c4) hne
    obtain⟨X2,q1,q2⟩:=qbQ hn l (X:=X.swap b c) (st:=st.swap b c) ⟨g1,by simp[Ctx.swap,St.swap,hs.h],hs.t.ren g2.toMove0,hs.fs.ren g2.toMove0,qm0 (X:=X) (fun _ h=>h) rfl rfl hs.glob,hs.df,hs.ni,hs.y,hs.pin⟩
    exact⟨X2,q1,q2⟩
   ·exact qbQ hn l hs
  ·exact qbQ hn l hs
theorem Tmpl.weaken1{tm:Tmpl}{E:Env}{B:Base}{X:Ctx}{st:St}{a:Act}{ps:List PV}(hk:q9L E.nimp tm.h=true)(h:tm.take1 st=some ps)(hs:Sim E B X st a) :
  ps.map PV.kind=tm.kinds∧∃X',X'.w=X.w∧Sim E B X' (tm.make ps) a:=by
 unfold Tmpl.take1 at h
 split at h
 ·rename_i hpe
  have hpe':=qyY hpe
  obtain⟨x,yz,h1,h0,rfl⟩:=q2N h
  obtain⟨y,z,h2,h3,rfl⟩:=q2N h0
  obtain⟨hc1,hc2⟩:=qlp hk
  obtain⟨c1,c2⟩:=qsg hs.hs (n:=tm.h.length) (Nat.le_trans hs.ni hc1)
  obtain⟨a1,a2,a3⟩:=AP.takeL_ok (X:=X.cut tm.h.length) _ _ x (y++z) h1
  obtain⟨d1,d2,d3⟩:=AP.takeLL_ok (X:=X.cut tm.h.length) _ _ y z h2
  obtain⟨b1,b2,b3,b4,b5⟩:=BP.takeL_ok (X:=X.cut tm.h.length) _ _ z [] h3
  have hch:(X.cut tm.h.length).h=(st.h.take tm.h.length).map (Blk.ren (qqN tm.h.length)):=by rw[←hs.h];rfl
  rw[←hch] at b3 b5
  rw[List.append_nil] at b3 b5
  obtain⟨e1,e2⟩:=qb1 c1 (h':=(BP.makeL tm.h z).1) b3 (fun b k' hb=>by obtain⟨k0,e1,e2,_⟩:=b5 b k' hb;exact⟨k0,e1,e2⟩)
   (fun b hb k' hk'=>by
    obtain⟨q,q1,q2⟩:=hc2 b (by have:=hs.ni;omega)
    obtain⟨k0,_,_,e3⟩:=b5 b k' hk'
    exact e3 q q1 q2)
  refine⟨by simp[Tmpl.kinds,a2,d2,b2],{ X.cut tm.h.length with h:=(BP.makeL tm.h z).1 },rfl,⟨e1,?_,?_,?_,?_,?_,hs.ni,hs.y,?_⟩⟩
  ·simp only[Tmpl.make,a1,d1]
  ·simp only[Tmpl.make]
   exact(a3 _ (hs.t.ren c2.toMove0)).ext e2
  ·simp only[Tmpl.make,a1]
   exact(d3 _ (hs.fs.ren c2.toMove0)).ext e2
  ·exact qm0 (X:=X) (fun _ h=>h) rfl rfl hs.glob
  ·show qrR X.kept (B.pin tm.pend) a.defers
   rw[hpe'];exact hs.df
  ·show ∀p,p∈B.pin tm.pend→p∈X.kept
   rw[hpe'];exact hs.pin
 ·cases h
theorem Tmpl.weaken{tm:Tmpl}{E:Env}{B:Base}{X:Ctx}{st:St}{a:Act}{ps:List PV}(hk:tm.ok E.nimp=true)(h:tm.take st=some ps)(hs:Sim E B X st a) :
  ps.map PV.kind=tm.kinds∧∃X',X'.w=X.w∧Sim E B X' (tm.make ps) a:=by
 unfold Tmpl.ok at hk
 simp only[Bool.and_eq_true,Bool.or_eq_true,List.isEmpty_iff,Nat.ble_eq] at hk
 obtain⟨X1,h1,h2⟩:=qiH tm.pro hs
 have:∃X',X'.w=X1.w∧Sim E B X' (qm1 tm.swn tm.sw (qtI tm.pro st)) a:=by
  rcases hk.2 with h0|h0
  ·rw[h0];exact⟨X1,rfl,h2⟩
  ·exact qbQ (Nat.le_trans hs.ni h0) tm.sw h2
 obtain⟨X1',h1',h2'⟩:=this
 obtain⟨g1,X2,g2,g3⟩:=Tmpl.weaken1 hk.1 h h2'
 exact⟨g1,X2,(g2.trans h1').trans h1,g3⟩
structure Out where
 x:Ex
 tm:Tmpl
abbrev TR:=Tree (Nat×List PV)
def qyM:List Out→Nat→Ex×St→TR
 | [],_,_=>.fail
 | o::l,j,r=>match Ex.beq o.x r.1,o.tm.take r.2 with
  | true,some ps=>.leaf (j,ps)
  | _,_=>qyM l (j+1) r
def okR(R:TR):Bool:=R.run.isSome
def jR(R:TR):Nat:=match R.run with|some r=>r.1|none=>0
def pR(R:TR)(i:Nat):PV:=match R.run with|some r=>r.2.getD i (.i 0)|none=>.i 0
def gI(R:TR)(i:Nat):Int:=(pR R i).toI
def gB(R:TR)(i:Nat):Bool:=(pR R i).toB
def gS(R:TR)(i:Nat):List UInt8:=(pR R i).toS
def gR(R:TR)(i:Nat):Go.Eng.R:=(pR R i).toR
def jIs(R:TR)(j:Nat):Bool:=Nat.beq (jR R) j
def qjP(R:TR):List PK→Nat→List PV
 | [],_=>[]
 | .i::l,n=>.i (gI R n)::qjP R l (n+1)
 | .b::l,n=>.b (gB R n)::qjP R l (n+1)
 | .s::l,n=>.s (gS R n)::qjP R l (n+1)
 | .r::l,n=>.r (gR R n)::qjP R l (n+1)
theorem qhR{R:TR}{j:Nat}{ps:List PV}(hR:R.run=some (j,ps)):∀(ks:List PK) (n:Nat),(ps.drop n).map PV.kind=ks→qjP R ks n=ps.drop n
 | [],n,h=>by simp at h;simp[qjP];exact h
 | k::ks,n,h=>by
  cases hd:ps.drop n with
  | nil=>rw[hd] at h;cases h
  | cons v rest=>
   rw[hd] at h
   simp only[List.map_cons,List.cons.injEq] at h
   have hn:ps[n]?=some v:=by
    have:(ps.drop n)[0]?=some v:=by rw[hd];rfl
    rwa [List.getElem?_drop,Nat.add_zero] at this
   have hr:ps.drop (n+1)=rest:=by rw[←List.drop_drop,hd];rfl
   have ih:=qhR hR ks (n+1) (by rw[hr];exact h.2)
   have hp:pR R n=v:=by simp[pR,hR,List.getD_eq_getElem?_getD,hn]
   rw[hr] at ih
   cases v<;>simp only[PV.kind] at h<;>obtain⟨rfl,_⟩:=h<;>simp only[qjP,ih,gI,gB,gS,gR,hp,PV.toI,PV.toB,PV.toS,PV.toR]
def qzz(R:TR):List Out→Nat→Tree (Ex×St)
 | [],_=>.fail
 | o::l,j=>match l with
  | []=>.leaf (o.x,o.tm.make (qjP R o.tm.kinds 0))
  | _::_=>.br (jIs R j) (.leaf (o.x,o.tm.make (qjP R o.tm.kinds 0))) (qzz R l (j+1))
theorem qsF{R:TR}{j:Nat}{ps:List PV}(hR:R.run=some (j,ps)):∀(outs:List Out) (k:Nat) (o:Out) (r:Ex×St),k≤j→outs[j-k]?=some o→ps.map PV.kind=o.tm.kinds →
  (qzz R outs k).run=some r→r=(o.x,o.tm.make ps)
 | [],k,o,r,_,h,_,_=>by simp at h
 | o'::l,k,o,r,hk,h,hp,hr=>by
  have hj:jR R=j:=by simp[jR,hR]
  simp only[qzz] at hr
  cases l with
  | nil=>
   have:j-k=0:=by
    rcases Nat.eq_zero_or_pos (j-k) with h0|h0
    ·exact h0
    ·rw[List.getElem?_eq_none (by simp;omega)] at h;cases h
   rw[this] at h
   simp only[List.getElem?_cons_zero,Option.some.injEq] at h
   subst h
   simp only[Tree.run,Option.some.injEq] at hr
   rw[←hr,qhR hR _ 0 (by simpa using hp)];rfl
  | cons o2 l=>
   simp only[Tree.run] at hr
   by_cases hjk:j=k
   ·have hb:jIs R k=true:=by simp[jIs,hj,hjk]
    rw[hb] at hr
    simp only[Option.some.injEq] at hr
    subst hjk
    simp only[Nat.sub_self,List.getElem?_cons_zero,Option.some.injEq] at h
    subst h
    rw[←hr,qhR hR _ 0 (by simpa using hp)];rfl
   ·have hb:jIs R k=false:=by
     simp only[jIs,hj]
     cases hq:Nat.beq j k with
     | false=>rfl
     | true=>exact absurd (Nat.eq_of_beq_eq_true hq) hjk
    rw[hb] at hr
    simp only at hr
    refine qsF hR (o2::l) (k+1) o r (by omega) ?_ hp hr
    rw[show j-k=(j-(k+1))+1 by omega,List.getElem?_cons_succ] at h
    exact h
theorem qsU:∀(outs:List Out) (k:Nat) (r:Ex×St) (j:Nat) (ps:List PV),(qyM outs k r).run=some (j,ps)→k≤j∧∃o,outs[j-k]?=some o∧o.x=r.1∧o.tm.take r.2=some ps
 | [],k,r,j,ps,h=>by simp only[qyM] at h;cases h
 | o::l,k,r,j,ps,h=>by
  simp only[qyM] at h
  split at h
  ·rename_i ps' hb ht
   simp only[Tree.run,Option.some.injEq,Prod.mk.injEq] at h
   obtain⟨rfl,rfl⟩:=h
   exact⟨Nat.le_refl _,o,by simp,Ex.beq_eq hb,ht⟩
  ·obtain⟨h1,o',h2,h3,h4⟩:=qsU l (k+1) r j ps h
   refine⟨by omega,o',?_,h3,h4⟩
   rw[show j-k=(j-(k+1))+1 by omega,List.getElem?_cons_succ]
   exact h2
def qj(tin:Tmpl)(outs:List Out)(T:List PV→TR):St→Tree (Ex×St):=fun st=>match tin.take st with
 | none=>.fail
 | some ps=>.br (okR (T ps)) (qzz (T ps) outs 0) .fail
theorem qt3{tin:Tmpl}{outs:List Out}{T:List PV→TR}{st:St}{r:Ex×St}(h:(qj tin outs T st).run=some r) :
  ∃ps j qs,tin.take st=some ps∧(T ps).run=some (j,qs)∧(qzz (T ps) outs 0).run=some r:=by
 unfold qj at h
 cases ht:tin.take st with
 | none=>rw[ht] at h;cases h
 | some ps=>
  rw[ht] at h
  simp only[Tree.run] at h
  cases hr:(T ps).run with
  | none=>simp[okR,hr] at h
  | some q=>
   obtain⟨j,qs⟩:=q
   simp only[okR,hr,Option.isSome_some] at h
   exact⟨ps,j,qs,rfl,hr,h⟩
theorem qrT.env{E E':Env}(he:E.glob=E'.glob)(hn:E.nimp=E'.nimp){B:Base}{r:Ex×St}{e:Exit}{a:Act}{w:World}(h:qrT E B r e a w):qrT E' B r e a w:=by
 obtain⟨h1,X',h2,h3⟩:=h
 exact⟨h1,X',h2,h3.env he hn⟩
theorem qyo{ni:Nat}{outs:List Out}(h:(outs.all fun o=>o.tm.ok ni)=true){j:Nat}{o:Out}(ho:outs[j]?=some o):o.tm.ok ni=true:=
 List.all_eq_true.1 h o (List.mem_of_getElem? ho)
theorem qo8{p:Nat→Prop}(h:∃n,p n):∃n,p n∧∀m,p m→n≤m:=by
 obtain⟨n,hn⟩:=h
 induction n using Nat.strongRecOn with
 | _ n ih=>
  by_cases hlt:∃m,m<n∧p m
  ·obtain⟨m,h1,h2⟩:=hlt;exact ih m h1 h2
  ·exact⟨n,hn,fun m hm=>Nat.le_of_not_lt fun h=>hlt ⟨m,h,hm⟩⟩
open Classical in
noncomputable def qoT(p:Nat→Prop):Nat:=if h:∃n,p n then Classical.choose (qo8 h) else 0
theorem qjh{p:Nat→Prop}(h:∃n,p n):p (qoT p)∧∀m,p m→qoT p≤m:=by
 unfold qoT
 rw[dif_pos h]
 exact Classical.choose_spec (qo8 h)
def qxk(tin:Tmpl)(outs:List Out)(r:Ex×St):TR:=match r.1 with
 | .normal=>match tin.take r.2 with
  | some ps=>.leaf (0,ps)
  | none=>.fail
 | _=>qyM outs 1 r
def qhY(S:List PV→TR):Nat→List PV→TR
 | 0,_=>.fail
 | n+1,ps=>(S ps).bind fun r=>match r.1 with
  | 0=>qhY S n r.2
  | j+1=>.leaf (j,r.2)
theorem qvo{E:Env}{P:Program}{c:Code}{BO:Base→Prop}{ev:St→Tree (Ex×St)}(hev:∀(n0:Nat) B X st a r,BO B→Sim E B X st a→(ev st).run=some r→c.wpIn (q2L B.ro) n0 P (qrT E B r) a X.w)
  {tin:Tmpl} {outs:List Out} {S T:List PV→TR} (hk:tin.ok E.nimp=true) (hko:(outs.all fun o=>o.tm.ok E.nimp)=true)
  (hS:∀ps r,ps.map PV.kind=tin.kinds→(S ps).run=some r→((ev (tin.make ps)).bind (qxk tin outs)).run=some r) (hT:∀ps,∃n,T ps=qhY S n ps) :
  qk P E.glob E.nimp BO (.loop c) (qj tin outs T):=by
 intro E' B X st a r he hn hbo hs h nf
 obtain⟨ps,j,qs,h1,h2,h3⟩:=qt3 h
 obtain⟨hkd,X',hw,hs'⟩:=Tmpl.weaken hk h1 (hs.env he hn)
 obtain⟨n0,hn0⟩:=hT ps
 have hend:∀(o:Out) (X3:Ctx) (a':Act),outs[j]?=some o→qs.map PV.kind=o.tm.kinds→Sim E B X3 (o.tm.make qs) a'→qrT E' B r o.x.out a' X3.w:=by
  intro o X3 a' q1 hkd2 hs3
  have hr:=qsF h2 outs 0 o r (Nat.zero_le _) q1 hkd2 h3
  subst hr
  exact qrT.env he.symm hn.symm ⟨rfl,X3,rfl,hs3⟩
 rw[hn0] at h2
 let I:Nat→Act→World→Prop:=fun n a' w'=>∃X1 ps1,X1.w=w'∧ps1.map PV.kind=tin.kinds∧Sim E B X1 (tin.make ps1) a'∧(qhY S n ps1).run=some (j,qs)
 have key:∀a' w',(∃n,I n a' w')→c.wpIn (q2L B.ro) nf P (Exit.then (fun a'' w''=>∃n,I n a'' w''∧∀m,I m a' w'→n<m) (qrT E' B r)) a' w':=by
  intro a' w' hex
  have hmin:=qo8 hex
  obtain⟨n,⟨X1,ps1,rfl,hk1,hs1,hit⟩,hleast⟩:=hmin
  cases n with
  | zero=>simp only[qhY] at hit;cases hit
  | succ n=>
   simp only[qhY] at hit
   obtain⟨s,g1,g2⟩:=bind_some hit
   obtain⟨r1,g3,g4⟩:=bind_some (hS ps1 s hk1 g1)
   refine wpIn_mono (hev nf B X1 _ a' r1 hbo hs1 g3) fun e a'' w'' ⟨p1,X2,p2,p3⟩=>?_
   subst p1 p2
   obtain⟨x1,s1⟩:=r1
   have other:∀(_:(qyM outs 1 (x1,s1)).run=some s),qrT E' B r x1.out a'' X2.w:=by
    intro hf
    obtain⟨sj,sps⟩:=s
    obtain⟨f1,o,f2,f3,f4⟩:=qsU _ _ _ _ _ hf
    cases sj with
    | zero=>omega
    | succ sj=>
     simp only[Tree.run,Option.some.injEq,Prod.mk.injEq] at g2
     obtain⟨rfl,rfl⟩:=g2
     simp only[Nat.add_sub_cancel] at f2
     obtain⟨hkd2,X3,hw3,hs3⟩:=Tmpl.weaken (qyo hko f2) f4 p3
     have f3':o.x=x1:=f3
     rw[←f3',←hw3]
     exact hend o X3 a'' f2 hkd2 hs3
   cases x1 with
   | normal=>
    simp only[qxk] at g4
    cases htk:tin.take s1 with
    | none=>rw[htk] at g4;cases g4
    | some ps2=>
     rw[htk] at g4
     simp only[Tree.run,Option.some.injEq] at g4
     subst g4
     obtain⟨hkd2,X3,hw3,hs3⟩:=Tmpl.weaken hk htk p3
     refine⟨n,⟨X3,ps2,hw3,hkd2,hs3,g2⟩,fun m hm=>?_⟩
     have:=hleast m hm
     omega
   | exit i=>exact other g4
   | ret=>exact other g4
 rw[←hw]
 have hI0:∃n,I n a X'.w:=⟨n0,X',ps,rfl,hkd,hs',h2⟩
 refine wpIn_loop (fun a' w'=>∃n,I n a' w') (fun a' w'=>qoT fun n=>I n a' w') hI0 fun a' w' hex=>?_
 refine wpIn_mono (key a' w' hex) fun e a'' w'' hq=>?_
 cases e with
 | normal=>
  obtain⟨n,hn1,hn2⟩:=hq
  exact⟨⟨n,hn1⟩,Nat.lt_of_le_of_lt ((qjh ⟨n,hn1⟩).2 n hn1) (hn2 _ (qjh hex).1)⟩
 | exit i=>exact hq
 | goto i=>exact hq
 | ret=>exact hq
 | panic ch=>exact hq
 | outgrown=>exact hq
end Go.Eng

namespace Go.Eng
structure FOut where
 res:AP
 h:List BP
 pro:Option (Nat×TypeId×List Sh):=none
def qxP:Nat→AV→Bool
 | i,.tuple vs=>match vs[i]? with|some .nils=>true|_=>false
 | 0,.nils=>true
 | _,_=>false
def qA4(i:Nat)(v:AV):AV→AV
 | .tuple vs=>.tuple (vs.set i v)
 | .nils=>v
 | x=>x
def qzP(p:Option (Nat×TypeId×List Sh))(r:AV×List Blk):AV×List Blk:=match p with
 | none=>r
 | some (i,e,sh)=>match qxP i r.1 with
  | true=>(qA4 i (.vec r.2.length) r.1,r.2++[.vec e sh []])
  | false=>r
def qqY(h:List Blk):Blk→Blk
 | .cells cs=>.cells (AV.lendL h cs)
 | k=>k
def qaU(fz:Bool)(r:AV×List Blk):AV×List Blk:=match fz with
 | false=>r
 | true=>let h1:=zn r.2 (List.range r.2.length);(r.1.lend h1,h1.map (qqY h1))
def FOut.take1(o:FOut)(r:AV×List Blk):Option (List PV):=
 qug (o.res.take (r.1.ren (qqN o.h.length))) (BP.takeL o.h ((r.2.take o.h.length).map (Blk.ren (qqN o.h.length))))
def FOut.take(o:FOut)(r:AV×List Blk):Option (List PV):=o.take1 (qzP o.pro r)
def FOut.make(o:FOut)(ps:List PV):AV×List Blk:=let x:=o.res.make ps;(x.1,(BP.makeL o.h x.2).1)
def FOut.kinds(o:FOut):List PK:=o.res.kinds++BP.kindsL o.h
def qyK:List FOut→Nat→AV×List Blk→TR
 | [],_,_=>.fail
 | o::l,j,r=>match o.take r with
  | some ps=>.leaf (j,ps)
  | none=>qyK l (j+1) r
def qyL(R:TR):List FOut→Nat→Tree (AV×List Blk)
 | [],_=>.fail
 | o::l,j=>match l with
  | []=>.leaf (o.make (qjP R o.kinds 0))
  | _::_=>.br (jIs R j) (.leaf (o.make (qjP R o.kinds 0))) (qyL R l (j+1))
structure FIn where
 args:List AP
 h:List BP
def FIn.take(i:FIn)(args:List AV)(h:List Blk):Option (List PV):=qug (AP.takeL i.args args) (BP.takeL i.h h)
def FIn.make(i:FIn)(ps:List PV):List AV×List Blk:=let x:=AP.makeL i.args ps;(x.1,(BP.makeL i.h x.2).1)
def FIn.kinds(i:FIn):List PK:=AP.kindsL i.args++BP.kindsL i.h
def q9(i:FIn)(outs:List FOut)(T:List PV→TR):q0c:=fun args h=>match i.take args h with
 | none=>.fail
 | some ps=>.br (okR (T ps)) (qyL (T ps) outs 0) .fail
theorem qp8{R:TR}{j:Nat}{ps:List PV}(hR:R.run=some (j,ps)):∀(outs:List FOut) (k:Nat) (o:FOut) (r:AV×List Blk),k≤j→outs[j-k]?=some o→ps.map PV.kind=o.kinds →
  (qyL R outs k).run=some r→r=o.make ps
 | [],k,o,r,_,h,_,_=>by simp at h
 | o'::l,k,o,r,hk,h,hp,hr=>by
  have hj:jR R=j:=by simp[jR,hR]
  simp only[qyL] at hr
  cases l with
  | nil=>
   have:j-k=0:=by
    rcases Nat.eq_zero_or_pos (j-k) with h0|h0
    ·exact h0
    ·rw[List.getElem?_eq_none (by simp;omega)] at h;cases h
   rw[this] at h
   simp only[List.getElem?_cons_zero,Option.some.injEq] at h
   subst h
   simp only[Tree.run,Option.some.injEq] at hr
   rw[←hr,qhR hR _ 0 (by simpa using hp)];rfl
  | cons o2 l=>
   simp only[Tree.run] at hr
   by_cases hjk:j=k
   ·have hb:jIs R k=true:=by simp[jIs,hj,hjk]
    rw[hb] at hr
    simp only[Option.some.injEq] at hr
    subst hjk
    simp only[Nat.sub_self,List.getElem?_cons_zero,Option.some.injEq] at h
    subst h
    rw[←hr,qhR hR _ 0 (by simpa using hp)];rfl
   ·have hb:jIs R k=false:=by
     simp only[jIs,hj]
     cases hq:Nat.beq j k with
     | false=>rfl
     | true=>exact absurd (Nat.eq_of_beq_eq_true hq) hjk
    rw[hb] at hr
    simp only at hr
    refine qp8 hR (o2::l) (k+1) o r (by omega) ?_ hp hr
    rw[show j-k=(j-(k+1))+1 by omega,List.getElem?_cons_succ] at h
    exact h
theorem qsE:∀(outs:List FOut) (k:Nat) (r:AV×List Blk) (j:Nat) (ps:List PV),(qyK outs k r).run=some (j,ps)→k≤j∧∃o,outs[j-k]?=some o∧o.take r=some ps
 | [],k,r,j,ps,h=>by simp only[qyK] at h;cases h
 | o::l,k,r,j,ps,h=>by
  simp only[qyK] at h
  split at h
  ·rename_i ps' ht
   simp only[Tree.run,Option.some.injEq,Prod.mk.injEq] at h
   obtain⟨rfl,rfl⟩:=h
   exact⟨Nat.le_refl _,o,by simp,ht⟩
  ·obtain⟨h1,o',h2,h4⟩:=qsE l (k+1) r j ps h
   refine⟨by omega,o',?_,h4⟩
   rw[show j-k=(j-(k+1))+1 by omega,List.getElem?_cons_succ]
   exact h2
theorem qpy{i:FIn}{outs:List FOut}{T:List PV→TR}{args:List AV}{h:List Blk}{r:AV×List Blk}(hr:(q9 i outs T args h).run=some r) :
  ∃ps j qs,i.take args h=some ps∧(T ps).run=some (j,qs)∧(qyL (T ps) outs 0).run=some r:=by
 unfold q9 at hr
 cases ht:i.take args h with
 | none=>rw[ht] at hr;cases hr
 | some ps=>
  rw[ht] at hr
  simp only[Tree.run] at hr
  cases hq:(T ps).run with
  | none=>simp[okR,hq] at hr
  | some q=>
   obtain⟨j,qs⟩:=q
   simp only[okR,hq,Option.isSome_some] at hr
   exact⟨ps,j,qs,rfl,hq,hr⟩
theorem qn6{B:Base}{X:Ctx}(hs:HSim B X)(fz:Bool){r:AV×List Blk}{v:Value}(hr:Rep X r.1 v)(hh:X.h=r.2) :
  ∃X',X'.w=X.w∧X'.h=(qaU fz r).2∧HSim B X'∧Rep X' (qaU fz r).1 v∧X'.y=X.y:=by
 cases fz with
 | false=>exact⟨X,rfl,hh,hs,hr,rfl⟩
 | true=>
  obtain⟨X1,f⟩:=q5Z (List.range r.2.length) hs
  have hf:X1.h=zn r.2 (List.range r.2.length):=by rw[f.h,hh]
  obtain⟨d1,d2⟩:=qb1 f.hs (h':=X1.h.map (qqY X1.h)) (by simp) (fun b k' hb=>by
   rw[List.getElem?_map] at hb
   cases hk:X1.h[b]? with
   | none=>rw[hk] at hb;cases hb
   | some k0=>
    rw[hk] at hb
    simp only[Option.map_some,Option.some.injEq] at hb
    refine⟨k0,rfl,?_⟩
    cases k0 with
    | cells cs=>exact .inr (.inr (.inl ⟨cs,_,rfl,hb.symm,fun vs hv=>qbh f.hs hv⟩))
    | _=>exact .inr (.inl hb.symm)) (fun b hb k' hk'=>by
   obtain⟨cs,hc,hc2⟩:=f.hs.impc b hb
   rw[List.getElem?_map,hc] at hk'
   simp only[Option.map_some,Option.some.injEq] at hk'
   subst hk'
   cases cs<;>first|(cases hc2;done)|rfl)
  refine⟨{ X1 with h:=X1.h.map (qqY X1.h) },f.w,?_,d1,?_,f.ext.y⟩
  ·simp only[qaU,hf]
  ·have:=(qsO f.hs (hr.ext f.ext)).ext d2
   simp only[qaU]
   rw[←hf]
   exact this
theorem qus{B:Base}{X:Ctx}(hs:HSim B X)(p:Option (Nat×TypeId×List Sh)){r:AV×List Blk}{v:Value}(hr:Rep X r.1 v)(hh:X.h=r.2) :
  ∃X',X'.w=X.w∧X'.h=(qzP p r).2∧HSim B X'∧Rep X' (qzP p r).1 v∧X'.y=X.y:=by
 cases p with
 | none=>exact⟨X,rfl,hh,hs,hr,rfl⟩
 | some p=>
  obtain⟨i,e,sh⟩:=p
  obtain⟨a,h⟩:=r
  simp only at hr hh
  subst hh
  simp only[qzP]
  cases hn:qxP i a with
  | false=>exact⟨X,rfl,rfl,hs,hr,rfl⟩
  | true=>
   simp only
   have hw:=PushW.same X
   have hk:yl (X.pushW (.vec e sh []) none X.w) X.h.length (.vec e sh []):=.inl ⟨by simp[Ctx.pushW],rfl⟩
   have hs1:=HSim.push hs hw hk
   have hx:=Ctx.push_ext hs (.vec e sh []) hw
   have hrep:Rep (X.pushW (.vec e sh []) none X.w) (.vec X.h.length) (.slice none 0 0):=by
    refine .vec _ _ _ _ (by simp[Ctx.pushW]) fun sh' m hv=>?_
    unfold qsB
    simp[Ctx.pushW]
   refine⟨X.pushW (.vec e sh []) none X.w,rfl,by simp[Ctx.pushW],hs1,?_,rfl⟩
   cases a with
   | nils=>
    cases hr
    exact hrep
   | tuple vs=>
    cases hr with
    | tuple _ us hu=>
     simp only[qxP] at hn
     cases hg:vs[i]? with
     | none=>rw[hg] at hn;cases hn
     | some x=>
      rw[hg] at hn
      cases x<;>first|(cases hn;done)|skip
      obtain⟨u,g1,g2⟩:=hu.get i _ hg
      have hue:u=.slice none 0 0:=by cases g2;rfl
      subst hue
      have hset:=RepL.set hrep (hu.ext hx) i
      have he:us.set i (.slice none 0 0)=us:=by
       apply List.ext_getElem?
       intro j
       by_cases hj:j=i
       ·subst hj;rw[List.getElem?_set_self (qw g1),g1]
       ·rw[List.getElem?_set_ne (Ne.symm hj)]
      rw[he] at hset
      exact .tuple _ _ hset
   | _=>cases i<;>cases hn
theorem FOut.weaken1{o:FOut}{B:Base}{X:Ctx}{r:AV×List Blk}{ps:List PV}{v:Value}(hk:q9L B.imps.length o.h=true)(h:o.take1 r=some ps)(hs:HSim B X)(hr:Rep X r.1 v)(hh:X.h=r.2) :
  ps.map PV.kind=o.kinds∧∃X',X'.w=X.w∧X'.h=(o.make ps).2∧HSim B X'∧Rep X' (o.make ps).1 v∧X'.y=X.y:=by
 unfold FOut.take1 at h
 obtain⟨x,y,h1,h2,rfl⟩:=q2N h
 obtain⟨hc1,hc2⟩:=qlp hk
 obtain⟨c1,c2⟩:=qsg hs (n:=o.h.length) hc1
 obtain⟨a1,a2,a3⟩:=AP.take_ok (X:=X.cut o.h.length) _ _ x y h1
 obtain⟨b1,b2,b3,b4,b5⟩:=BP.takeL_ok (X:=X.cut o.h.length) _ _ y [] h2
 have hch:(X.cut o.h.length).h=(r.2.take o.h.length).map (Blk.ren (qqN o.h.length)):=by rw[←hh];rfl
 rw[←hch] at b3 b5
 rw[List.append_nil] at b3 b5
 obtain⟨d1,d2⟩:=qb1 c1 (h':=(BP.makeL o.h y).1) b3 (fun b k' hb=>by obtain⟨k0,e1,e2,_⟩:=b5 b k' hb;exact⟨k0,e1,e2⟩)
  (fun b hb k' hk'=>by
   obtain⟨q,q1,q2⟩:=hc2 b hb
   obtain⟨k0,_,_,e3⟩:=b5 b k' hk'
   exact e3 q q1 q2)
 refine⟨by simp[FOut.kinds,a2,b2],{ X.cut o.h.length with h:=(BP.makeL o.h y).1 },rfl,?_,d1,?_,rfl⟩
 ·simp only[FOut.make,a1]
 ·simp only[FOut.make]
  exact(a3 _ (hr.ren c2.toMove0)).ext d2
theorem FOut.weaken{o:FOut}{B:Base}{X:Ctx}{r:AV×List Blk}{ps:List PV}{v:Value}(hk:q9L B.imps.length o.h=true)(h:o.take r=some ps)(hs:HSim B X)(hr:Rep X r.1 v)(hh:X.h=r.2) :
  ps.map PV.kind=o.kinds∧∃X',X'.w=X.w∧X'.h=(o.make ps).2∧HSim B X'∧Rep X' (o.make ps).1 v∧X'.y=X.y:=by
 obtain⟨X1,h1,h2,h3,h4,h5⟩:=qus hs o.pro hr hh
 obtain⟨g1,X2,g2,g3,g4,g5,g6⟩:=FOut.weaken1 hk h h3 h4 h2
 exact⟨g1,X2,g2.trans h1,g3,g4,g5,g6.trans h5⟩
theorem quG{E:Env}{P:Program}(hm:P.follows .mixedOrders=true)(hE:E.tok P)(hS:E.specs P)(hL:E.loopsOK P)(hb:E.bodies P){f:FuncId}{fn:Func}(hf:P.funcs[f]?=some fn)
  (hn:(fn.name == "runtime.NumGoroutine")=false) (hbd:fn.body.isNone=false) {n:Nat} {fz:Bool} {i:FIn} {outs:List FOut} {T:List PV→TR}
  (hi:i.h.length=E.nimp∧i.h.all BP.isCells=true) (ho:(outs.all fun o=>q9L E.nimp o.h)=true)
  (hT:∀ps r,ps.map PV.kind=i.kinds→(T ps).run=some r→((qsa E n f fn (i.make ps).1 (i.make ps).2).bind fun q=>qyK outs 0 (qaU fz q)).run=some r) :
  zh P E.glob f (q9 i outs T):=by
 refine⟨q1B hf hn hbd,fun B X args vargs r hs hen hgl ha h=>?_⟩
 obtain⟨ps,j,qs,h1,h2,h3⟩:=qpy h
 unfold FIn.take at h1
 obtain⟨x,y,g1,g2,rfl⟩:=q2N h1
 obtain⟨a1,a2,a3⟩:=AP.takeL_ok (X:=X) _ _ x y g1
 obtain⟨b1,b2,b3,b4,b5⟩:=BP.takeL_ok (X:=X) _ _ y [] g2
 rw[List.append_nil] at b3 b5
 have himp:B.imps.length=X.h.length:=by rw[hen.imps];simp
 obtain⟨d1,d2⟩:=qb1 hs (h':=(BP.makeL i.h y).1) b3 (fun b k' hb=>by obtain⟨k0,e1,e2,_⟩:=b5 b k' hb;exact⟨k0,e1,e2⟩)
  (fun b hb k' hk'=>by
   obtain⟨k0,_,_,e3⟩:=b5 b k' hk'
   have hlt:b<i.h.length:=by omega
   exact e3 i.h[b] (List.getElem?_eq_getElem hlt) (List.all_eq_true.1 hi.2 _ (List.getElem_mem hlt)))
 have hkd:(x++y).map PV.kind=i.kinds:=by simp[FIn.kinds,a2,b2]
 have hgl1:qaA E.glob ({ X with h:=(BP.makeL i.h y).1 }:Ctx):=qm0 (X:=X) (fun _ h=>h) rfl rfl hgl
 obtain⟨q,k1,k2⟩:=bind_some (hT _ _ hkd h2)
 have hmk:i.make (x++y)=((AP.makeL i.args (x++y)).1,(BP.makeL i.h y).1):=by simp only[FIn.make,a1]
 rw[hmk] at k1
 have hcalls:=qpN hm hE hS hL hb hf (n:=n) d1 (by omega) hgl1 ((a3 _ ha).ext d2) k1
 refine hcalls.mono fun e w' ⟨v,X',e1,e2,e3,e4,e5,e6⟩=>?_
 obtain⟨X2,p1,p2,p3,p4,p5⟩:=qn6 e5 fz e3 e4
 obtain⟨_,o,q1,q2⟩:=qsE _ _ _ _ _ k2
 have hco:q9L B.imps.length o.h=true:=by
  rw[himp,←b4,hi.1]
  exact List.all_eq_true.1 ho o (List.mem_of_getElem? q1)
 obtain⟨m1,X3,m2,m3,m4,m5,m6⟩:=FOut.weaken hco q2 p3 p4 p2
 have hre:=qp8 h2 outs 0 o r (Nat.zero_le _) q1 m1 h3
 subst hre
 exact⟨v,X3,e1,by rw[m2,p1,e2],m5,m3,m4,(m6.trans p5).trans e6⟩
def qzS(l:List (FIn×q0c)):q0c:=fun args h=>match l.find? fun c=>(c.1.take args h).isSome with
 | some c=>c.2 args h
 | none=>.fail
theorem qwJ{P:Program}{gl:List (Nat×AV)}{f:FuncId}{l:List (FIn×q0c)}(he:qhW P f)(hl:∀c,c∈l→zh P gl f c.2):zh P gl f (qzS l):=by
 refine⟨he,fun B X args vargs r hs hen hg ha h=>?_⟩
 unfold qzS at h
 cases hc:l.find? fun c=>(c.1.take args X.h).isSome with
 | none=>rw[hc] at h;cases h
 | some c=>
  rw[hc] at h
  exact(hl c (List.mem_of_find?_eq_some hc)).2 B X args vargs r hs hen hg ha h
theorem qyy{P:Program}{gl:List (Nat×AV)}{f:FuncId}:∀c,c∈([]:List (FIn×q0c))→zh P gl f c.2:=fun _ h=>by cases h
theorem qsr{P:Program}{gl:List (Nat×AV)}{f:FuncId}{i:FIn}{G:q0c}{l:List (FIn×q0c)}(h:zh P gl f G)(t:∀c,c∈l→zh P gl f c.2):∀c,c∈(i,G)::l→zh P gl f c.2:=fun c hc=>by
 rcases List.mem_cons.1 hc with rfl|hc
 ·exact h
 ·exact t c hc
end Go.Eng

namespace Go.Eng
def q47(fn:Func):Code:=fn.body.getD .skip
def zd(fn:Func)(k:Nat):Code:=((za (q47 fn))[k]?).getD .skip
def qhk:Code→Code
 | .loop c=>c
 | c=>c
def qAb(E:Env)(f:FuncId)(fn:Func)(k:Nat):qtN:=match zd fn k with
 | .rangeFunc _ ps a b=>qpZ (ju E (q6U E 9) (q5S E) (qg8 E (q6U E 9)) f a (k+1)) (ju E (q6U E 9) (q5S E) (qg8 E (q6U E 9)) f b (k+1+zB a)) ps.toList
 | _=>fun _ _=>.fail
def hdl(E:Env):Option (FuncId×Func×Nat)→q6r
 | none=>q6U E 9
 | some (fc,fnc,kc)=>qxj (qAb E fc fnc kc) (q6U E 9)
def rgh(E:Env):Option (FuncId×Func×Nat)→qaE
 | none=>qg8 E (q6U E 9)
 | some _=>qoE
def qin(E:Env)(y:Option (FuncId×Func×Nat))(f:FuncId)(fn:Func)(k:Nat)(st:St):Tree (Ex×St):=ju E (hdl E y) (q5S E) (rgh E y) f (qhk (zd fn k)) (k+1) st
def wX(E:Env)(f:FuncId)(fn:Func)(k:Nat)(tin:Tmpl)(outs:List Out)(ps:List PV):TR:=(qin E none f fn k (tin.make ps)).bind (qxk tin outs)
def qpI(E:Env)(y:Option (FuncId×Func×Nat))(f:FuncId)(fn:Func)(k:Nat)(tin:Tmpl)(outs:List Out)(ps:List PV):TR:=(qin E y f fn k (tin.make ps)).bind (qxk tin outs)
def qp(E:Env)(f:FuncId)(fn:Func)(fz:Bool)(i:FIn)(outs:List FOut)(ps:List PV):TR:=(qsa E 9 f fn (i.make ps).1 (i.make ps).2).bind fun q=>qyK outs 0 (qaU fz q)
def qdk:Nat:=2^70
def qg(S:List PV→TR)(ps:List PV):TR:=qhY S qdk ps
structure EnvOK (E:Env) (P:Program):Prop where
 tok:E.tok P
 specs:E.specs P
 loops:E.loopsOK P
 bodies:E.bodies P
theorem qcZ{P:Program}{E:Env}(h:E.tt.map (fun x=>qqA P x.1)=E.tt.map (·.2)):E.tok P:=by
 intro x hx
 have:∀(l:List (TypeId×TI)),l.map (fun x=>qqA P x.1)=l.map (·.2)→∀x,x∈l→qqA P x.1=x.2:=by
  intro l
  induction l with
  | nil=>intro _ x hx;cases hx
  | cons y l ih=>
   intro h x hx
   simp only[List.map_cons,List.cons.injEq] at h
   rcases List.mem_cons.1 hx with rfl|hx
   ·exact h.1
   ·exact ih h.2 x hx
 exact this _ h x hx
theorem aln{α:Type}{p:α→Prop}:∀x,x∈([]:List α)→p x:=fun _ h=>by cases h
theorem alc{α:Type}{p:α→Prop}{a:α}{l:List α}(h:p a)(t:∀x,x∈l→p x):∀x,x∈a::l→p x:=fun x hx=>by
 rcases List.mem_cons.1 hx with rfl|hx
 ·exact h
 ·exact t x hx
theorem qul {P:Program} {f:FuncId} {fn:Func} (h:P.funcs[f]?=some fn) (hn:(fn.name == "runtime.NumGoroutine")=false):P.funcs[(f,fn).1]?=some (f,fn).2∧((f,fn).2.name == "runtime.NumGoroutine")=false:=⟨h,hn⟩
theorem qy8{P:Program}{gl:List (Nat×AV)}{ni:Nat}{f k:Nat}{fn:Func}{L:St→Tree (Ex×St)}(hf:P.funcs[f]?=some fn)(hb:fn.body.isSome=true)
  (hn:((za (q47 fn))[k]?).isSome=true) {it:List (FuncId×FuncId×Nat)} (hg:qk P gl ni (qu P it f) (zd fn k) L) :
  ∃fn' c c',P.funcs[((f,k),L).1.1]?=some fn'∧fn'.body=some c∧(za c)[((f,k),L).1.2]?=some c'∧qk P gl ni (qu P it ((f,k),L).1.1) c' ((f,k),L).2:=by
 refine⟨fn,q47 fn,zd fn k,hf,?_,?_,hg⟩
 ·unfold q47
  cases h:fn.body with
  | none=>rw[h] at hb;cases hb
  | some c=>rfl
 ·show (za (q47 fn))[k]?=some (zd fn k)
  unfold zd
  cases h:(za (q47 fn))[k]? with
  | none=>rw[h] at hn;cases hn
  | some c=>rfl
def qq4:Code→Bool
 | .loop _=>true
 | _=>false
theorem qqQ{A C:List Code}(hA:∀(k:Nat) (d:Code),A[k]?=some d→∀(j:Nat) (c':Code),(za d)[j]?=some c'→A[k+j]?=some c')(hC:∀(k:Nat) (d:Code),C[k]?=some d→∀(j:Nat) (c':Code),(za d)[j]?=some c'→C[k+j]?=some c') :
  ∀(k:Nat) (d:Code),(A++C)[k]?=some d→∀(j:Nat) (c':Code),(za d)[j]?=some c'→(A++C)[k+j]?=some c':=by
 intro k d hd j c' hc
 rcases Nat.lt_or_ge k A.length with h|h
 ·rw[List.getElem?_append_left h] at hd
  have:=hA k d hd j c' hc
  rw[List.getElem?_append_left (qw this)];exact this
 ·rw[List.getElem?_append_right h] at hd
  have:=hC _ d hd j c' hc
  rw[List.getElem?_append_right (by omega),show k+j-A.length=k-A.length+j by omega];exact this
theorem qoB{c:Code}{l:List Code}(hc:za c=c::l)(hl:∀(k:Nat) (d:Code),l[k]?=some d→∀(j:Nat) (c':Code),(za d)[j]?=some c'→l[k+j]?=some c') :
  ∀(k:Nat) (d:Code),(c::l)[k]?=some d→∀(j:Nat) (c':Code),(za d)[j]?=some c'→(c::l)[k+j]?=some c':=by
 intro k d hd j c' hj
 cases k with
 | zero=>
  simp only[List.getElem?_cons_zero,Option.some.injEq] at hd
  subst hd
  rw[hc] at hj
  simpa using hj
 | succ k=>
  simp only[List.getElem?_cons_succ] at hd
  have:=hl k d hd j c' hj
  rw[show k+1+j=(k+j)+1 by omega,List.getElem?_cons_succ];exact this
theorem qpq:∀(c:Code) (k:Nat) (d:Code),(za c)[k]?=some d→∀(j:Nat) (c':Code),(za d)[j]?=some c'→(za c)[k+j]?=some c':=by
 intro c
 induction c with
 | seq a b iha ihb=>exact qoB rfl (qqQ iha ihb)
 | cond x a b iha ihb=>exact qqQ iha ihb
 | block id c ih=>exact ih
 | scope c ih=>exact ih
 | loop c ih=>exact qoB rfl ih
 | rangeFunc x ps a b iha ihb=>exact qoB rfl (qqQ iha ihb)
 | _=>intro k d hd;simp[za] at hd
theorem quh{fn:Func}{k:Nat}(h:((za (q47 fn))[k]?).isSome=true):(za (q47 fn))[k]?=some (zd fn k):=by
 unfold zd
 cases h':(za (q47 fn))[k]? with
 | none=>rw[h'] at h;cases h
 | some c=>rfl
def qzf(E:Env)(P:Program)(f:FuncId):Option (FuncId×Func×Nat)→Prop
 | none=>q5T E.iter f=true
 | some (fc,fnc,kc)=>P.funcs[fc]?=some fnc∧(qnD E.iter f fc kc&&(q5T E.iter fc&&(fnc.body.isSome&&((za (q47 fnc))[kc]?).isSome)))=true
theorem qow{fn:Func}(h:fn.body.isSome=true):fn.body=some (q47 fn):=by
 unfold q47
 cases hb:fn.body with
 | none=>rw[hb] at h;cases h
 | some c=>rfl
theorem qyz{E:Env}{P:Program}(hm:P.follows .mixedOrders=true)(h:EnvOK E P){f:FuncId}{y:Option (FuncId×Func×Nat)}(hy:qzf E P f y):(∀B,qu P E.iter f B→CallOK E P (hdl E y) B)∧qfF E P (rgh E y):=by
 have hcall:=qde hm h.tok h.specs h.loops h.bodies 9
 cases y with
 | none=>exact⟨fun B _=>hcall B,qaS hm h.tok h.specs h.loops h.bodies hcall⟩
 | some y=>
  obtain⟨fc,fnc,kc⟩:=y
  obtain⟨hf,hc⟩:=hy
  simp only[Bool.and_eq_true] at hc
  obtain⟨c1,c2,c3,c4⟩:=hc
  refine⟨fun B hB=>⟨(hcall B).fn,?_⟩,qiw E P⟩
  have hfi:qej E.iter f=some (fc,kc):=by
   unfold qnD at c1
   split at c1
   ·rename_i z hz
    simp only[Bool.and_eq_true] at c1
    rw[hz]
    obtain⟨z1,z2⟩:=z
    have e1:z1=fc:=Nat.eq_of_beq_eq_true c1.1
    have e2:z2=kc:=Nat.eq_of_beq_eq_true c1.2
    rw[e1,e2]
   ·cases c1
  obtain⟨_,hI⟩:=hB
  rw[hfi] at hI
  have hnode:=quh c4
  have hsub:=qpq (q47 fnc) kc _ hnode
  intro args st r X a vargs hs ha hr
  simp only[hdl,qxj,qAb] at hr
  cases hn:zd fnc kc with
  | rangeFunc x ps c d=>
   rw[hn] at hr hnode hsub
   refine qsZ hf (qow c3) hnode c2 (fun B X st act r hbo hs hr n=>?_) (fun B X st act r hbo hs hr n=>?_) hI args st r X a vargs hs ha hr
   ·refine q9g hm h.tok h.specs h.loops hf (qow c3) (fun B _=>hcall B) (q9n hm h.tok h.specs h.loops h.bodies) (q5J E) (qaS hm h.tok h.specs h.loops h.bodies hcall) c (kc+1) (fun j c' hj=>?_) hbo hs hr
    have:=hsub (1+j) c' (by simp only[za];rw[Nat.add_comm,List.getElem?_cons_succ,List.getElem?_append_left (qw hj)];exact hj)
    rw[show kc+1+j=kc+(1+j) by omega];exact this
   ·refine q9g hm h.tok h.specs h.loops hf (qow c3) (fun B _=>hcall B) (q9n hm h.tok h.specs h.loops h.bodies) (q5J E) (qaS hm h.tok h.specs h.loops h.bodies hcall) d (kc+1+zB c) (fun j c' hj=>?_) hbo hs hr
    have:=hsub (1+zB c+j) c' (by
     simp only[za]
     rw[show 1+zB c+j=(zB c+j)+1 by omega,List.getElem?_cons_succ,List.getElem?_append_right (by rw[ue];omega),ue]
     rw[show zB c+j-zB c=j by omega];exact hj)
    rw[show kc+1+zB c+j=kc+(1+zB c+j) by omega];exact this
  | _=>rw[hn] at hr;cases hr
theorem q65{E:Env}{P:Program}(hm:P.follows .mixedOrders=true)(h:EnvOK E P){f k:Nat}{fn:Func}(hf:P.funcs[f]?=some fn)
  (hlp:qq4 (zd fn k)=true) {tin:Tmpl} {outs:List Out} {S:List PV→TR} {y:Option (FuncId×Func×Nat)} (hy:qzf E P f y)
  (hk:(tin.ok E.nimp&&outs.all fun o=>o.tm.ok E.nimp)=true)
  (hnk:(fn.body.isSome&&((za (q47 fn))[k]?).isSome)=true)
  (hS:∀ps,S ps=qpI E y f fn k tin outs ps):qk P E.glob E.nimp (qu P E.iter f) (zd fn k) (qj tin outs (qg S)):=by
 simp only[Bool.and_eq_true] at hk hnk
 have hnode:=quh hnk.2
 have hsub:∀j c',(za (qhk (zd fn k)))[j]?=some c'→(za (q47 fn))[k+1+j]?=some c':=by
  intro j c' hj
  have:=qpq (q47 fn) k _ hnode (1+j) c' (by
   cases hn:zd fn k<;>simp[hn,qq4] at hlp
   rw[hn] at hj
   simp only[za,qhk] at hj ⊢
   rw[Nat.add_comm,List.getElem?_cons_succ];exact hj)
  rw[show k+1+j=k+(1+j) by omega];exact this
 have hc:zd fn k=.loop (qhk (zd fn k)):=by
  cases hn:zd fn k<;>simp[hn,qq4] at hlp
  rfl
 rw[hc]
 refine qvo (ev:=qin E y f fn k) (S:=S) ?_ hk.1 hk.2 (fun ps r _ hr=>by rw[hS] at hr;exact hr) (fun ps=>⟨qdk,rfl⟩)
 intro n0 B X st a r hbo hs hr
 obtain⟨w1,w2⟩:=qyz hm h hy
 exact q9g hm h.tok h.specs h.loops hf (qow hnk.1) w1 (q9n hm h.tok h.specs h.loops h.bodies) (q5J E) w2 (qhk (zd fn k)) (k+1) hsub hbo hs hr
theorem qrJ{E:Env}{P:Program}(hm:P.follows .mixedOrders=true)(h:EnvOK E P){f k:Nat}{fn:Func}(hf:P.funcs[f]?=some fn)
  (hlp:qq4 (zd fn k)=true) {tin:Tmpl} {outs:List Out} {S:List PV→TR} (hni:q5T E.iter f=true)
  (hk:(tin.ok E.nimp&&outs.all fun o=>o.tm.ok E.nimp)=true)
  (hnk:(fn.body.isSome&&((za (q47 fn))[k]?).isSome)=true)
  (hS:∀ps,S ps=wX E f fn k tin outs ps):qk P E.glob E.nimp (qu P E.iter f) (zd fn k) (qj tin outs (qg S)):=
 q65 hm h hf hlp (y:=none) hni hk hnk hS
theorem qkD{E:Env}{P:Program}(hm:P.follows .mixedOrders=true)(h:EnvOK E P){f:FuncId}{fn:Func}(hf:P.funcs[f]?=some fn)
  (hn:((fn.name == "runtime.NumGoroutine")||fn.body.isNone)=false) {fz:Bool} {i:FIn} {outs:List FOut} {T:List PV→TR}
  (hk:(Nat.beq i.h.length E.nimp&&i.h.all BP.isCells&&outs.all fun o=>q9L E.nimp o.h)=true)
  (hT:∀ps,T ps=qp E f fn fz i outs ps):zh P E.glob f (q9 i outs T):=by
 simp only[Bool.or_eq_false_iff] at hn
 simp only[Bool.and_eq_true] at hk
 exact quG hm h.tok h.specs h.loops h.bodies hf hn.1 hn.2 (n:=9) (fz:=fz) ⟨Nat.eq_of_beq_eq_true hk.1.1,hk.1.2⟩ hk.2 (fun ps r _ hr=>by rw[hT] at hr;exact hr)
theorem b1 {P:Program} {f:FuncId} {fn:Func} (h:P.funcs[f]?=some fn) (hn:(fn.name == "runtime.NumGoroutine")=false:=by kernel_rfl):∀x,x∈[(f,fn)]→P.funcs[x.1]?=some x.2∧(x.2.name == "runtime.NumGoroutine")=false:=alc (qul h hn) aln
theorem bk {P:Program} {f:FuncId} {fn:Func} (h:P.funcs[f]?=some fn) (hn:(fn.name == "runtime.NumGoroutine")=false:=by kernel_rfl):P.funcs[(f,fn).1]?=some (f,fn).2∧((f,fn).2.name == "runtime.NumGoroutine")=false:=qul h hn
theorem lk{P:Program}{gl:List (Nat×AV)}{ni:Nat}{f k:Nat}{fn:Func}{L:St→Tree (Ex×St)}(hf:P.funcs[f]?=some fn)
  {it:List (FuncId×FuncId×Nat)} (hg:qk P gl ni (qu P it f) (zd fn k) L) (hb:fn.body.isSome=true:=by kernel_rfl) (hn:((za (q47 fn))[k]?).isSome=true:=by kernel_rfl) :
  ∃fn' c c',P.funcs[((f,k),L).1.1]?=some fn'∧fn'.body=some c∧(za c)[((f,k),L).1.2]?=some c'∧qk P gl ni (qu P it ((f,k),L).1.1) c' ((f,k),L).2:=qy8 hf hb hn hg
theorem sk(E:Env){P:Program}(hm:P.follows .mixedOrders=true)(ht:E.tt.map (fun x=>qqA P x.1)=E.tt.map (·.2))(hs:E.specs P)(hl:E.loopsOK P)(hb:E.bodies P){f:FuncId}{fn:Func}(hf:P.funcs[f]?=some fn)
  {i:FIn} {outs:List FOut} {T:List PV→TR} (hT:∀ps,T ps=qp E f fn true i outs ps:=by exact fun _=>rfl) (hn:((fn.name == "runtime.NumGoroutine")||fn.body.isNone)=false:=by kernel_rfl)
  (hk:(Nat.beq i.h.length E.nimp&&i.h.all BP.isCells&&outs.all fun o=>q9L E.nimp o.h)=true:=by kernel_rfl):zh P E.glob f (q9 i outs T):=
 qkD hm ⟨qcZ ht,hs,hl,hb⟩ hf hn hk hT
theorem gk(E:Env){P:Program}(hm:P.follows .mixedOrders=true)(ht:E.tt.map (fun x=>qqA P x.1)=E.tt.map (·.2))(hs:E.specs P)(hl:E.loopsOK P)(hb:E.bodies P){f k:Nat}{fn:Func}(hf:P.funcs[f]?=some fn)
  {tin:Tmpl} {outs:List Out} {S:List PV→TR} (hS:∀ps,S ps=wX E f fn k tin outs ps:=by exact fun _=>rfl) (hlp:qq4 (zd fn k)=true:=by kernel_rfl) (hni:q5T E.iter f=true:=by kernel_rfl)
  (hk:(tin.ok E.nimp&&outs.all fun o=>o.tm.ok E.nimp)=true:=by kernel_rfl) (hnk:(fn.body.isSome&&((za (q47 fn))[k]?).isSome)=true:=by kernel_rfl) :
  qk P E.glob E.nimp (qu P E.iter f) (zd fn k) (qj tin outs (qg S)):=
 qrJ hm ⟨qcZ ht,hs,hl,hb⟩ hf hlp hni hk hnk hS
end Go.Eng

