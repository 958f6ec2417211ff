/- Texts of the proof, merged: what the code computes, and plain laws. No statement stands here. -/
import Derived.Orders
import Derived.RangeFuncRecord
import Derived.Test.YtcngjnijbegcmaaGreatDoorF1
namespace Go.Eng
variable {B:Base}{X:Ctx}
structure Entry (B:Base) (X:Ctx):Prop where
 w0:B.w0=X.w
 imps:B.imps=(List.range X.h.length).map X.σ
 M0:∀n,X.M n->B.M0 n
def qbt(P:Program)(f:FuncId):Prop:=∀(args:Array Value) (w:World),(callFunc f args).run P w=.ok (.enter f args) w
def qT(P:Program)(gl:List (Nat×AV))(f:FuncId)(G:zE):Prop:=
 qbt P f/\∀(B:Base) (X:Ctx) (args:List AV) (vargs:List Value) (r:AV×List Blk),HSim B X->Entry B X->q5D gl X->RepL X args vargs->(G args X.h).run=some r ->
  Calls P f vargs.toArray X.w fun e w'=>∃v X',e=.returned v/\X'.w=w'/\Rep X' r.1 v/\X'.h=r.2/\HSim B X'/\X'.y=X.y
mutual
theorem qxM{B:Base}{X:Ctx}(hs:HSim B X):∀{av:AV} {v:Value},Rep X av v->Rep X (av.lend X.h) v
 | .vec b,v,h=>by
  unfold AV.lend;split
  ·rename_i e sh l hb;exact .imm _ _ _ (qh1 hs hb h)
  ·exact .undef v
 | .agg cs,_,.agg _ vs h=>.agg _ vs (qdw hs h)
 | .tuple cs,_,.tuple _ vs h=>.tuple _ vs (qdw hs h)
 | .undef,_,h|.skip,_,h|.yld,_,h|.blit _,_,h|.bool _,_,h|.ilit _ _,_,h|.int _ _,_,h|.str _,_,h|.nilp,_,h|.ptr _ _,_,h|.eptr _ _ _ _,_,h|.mptr _ _ _ _ _,_,h|.vptr _ _ _,_,h|.vsub _ _,_,h|.aptr _ _ _,_,h|.asub _ _ _ _ _,_,h|.bagg _ _ _ _,_,h
 | .nils,_,h|.imm _ _,_,h|.full _ _,_,h|.nilf,_,h|.fn _ _ _,_,h=>h
theorem qdw{B:Base}{X:Ctx}(hs:HSim B X):∀{azz:List AV} {vs:List Value},RepL X azz vs->RepL X (AV.lendL X.h azz) vs
 | _,_,.nil=>.nil
 | _,_,.cons h t=>.cons (qxM hs h) (qdw hs t)
end
def Wk(X:Ctx)(k k':Blk):Prop:=k'=.dead\/k'=k\/(∃cs cs',k=.cells cs/\k'=.cells cs'/\∀vs,RepL X cs vs->RepL X cs' vs)\/∃cs cs' kk n l,k=.big cs kk n l/\k'=.big cs' kk n l/\∀vs,RepL X cs vs->RepL X cs' vs
theorem qap (hs:HSim B X){h':List Blk}(hl:h'.length=X.h.length)(hw:∀(b:Nat) (k':Blk),h'[b]?=some k'->∃k0,X.h[b]?=some k0/\Wk X k0 k')(hc:∀b:Nat,b<B.imps.length->∀k':Blk,h'[b]?=some k'->k'.solid=true):HSim B { X with h:=h' }/\Ext X { X with h:=h' }:=by
 have hvec:∀b sh m,({ X with h:=h' }:Ctx).isVec b sh m->X.isVec b sh m:=by
  intro b sh m ⟨e,l,h1,h2⟩;refine⟨e,l,?_,h2⟩;rcases h1 with h1|h1
  ·obtain⟨k0,h3,h4⟩:=hw b _ h1;rcases h4 with h4|h4|⟨_,_,_,h4,_⟩|⟨_,_,_,_,_,_,h4,_⟩
   ·cases h4
   ·exact .inl (h4▸h3)
   ·cases h4
   ·cases h4
  ·obtain⟨k0,h3,h4⟩:=hw b _ h1;rcases h4 with h4|h4|⟨_,_,_,h4,_⟩|⟨_,_,_,_,_,_,h4,_⟩
   ·cases h4
   ·exact .inr (h4▸h3)
   ·cases h4
   ·cases h4
 have hx:Ext X { X with h:=h' }:=by refine Move.of (fun _ h=>h) (fun _ _=>rfl) (fun b b' hb hf=>?_);cases hf;exact⟨by show b<h'.length;omega,rfl,hvec b,fun sh m _ k hk c T fr hc=>⟨c,T,fr,hc,rfl⟩⟩
 have hown:∀b m,({ X with h:=h' }:Ctx).own b m->X.own b m:=by
  intro b m ⟨h1,k,h2,h3⟩;obtain⟨k0,h4,h5⟩:=hw b k h2;refine⟨h1,k0,h4,?_⟩;rcases h5 with h5|h5|⟨_,_,h5,_,_⟩|⟨_,_,_,_,_,h5,_,_⟩
  ·subst h5;cases h3
  ·exact h5▸h3
  ·subst h5;rfl
  ·subst h5;rfl
 refine⟨⟨?_,fun b b' m h h'=>hs.inj b b' m (hown _ _ h) (hown _ _ h'),fun b m h=>hs.notM b m (hown _ _ h),hs.ltM,hs.M0,hs.newM,hs.os,hs.tape,hs.output,hs.size,hs.frame,hs.imps,?_,fun b m h=>hs.fresh b m (hown _ _ h),hs.kept⟩,hx⟩
 ·intro b k hk;obtain⟨k0,h1,h2⟩:=hw b k hk;have h3:=hs.blk b k0 h1;rcases h2 with h2|h2|⟨cs,cs',h2,h4,h5⟩|⟨cs,cs',kk,N,l,h2,h4,h5⟩
  ·subst h2;trivial
  ·subst h2;exact jw.ext hx rfl (fun _ _=>rfl) h3
  ·subst h2 h4;obtain⟨m,c,T,e1,e2,e3⟩:=h3;exact⟨m,c,T,e1,e2,(h5 _ e3).ext hx⟩
  ·subst h2 h4;obtain⟨m,c,T,vs,e1,e2,e3,e4,e5⟩:=h3;exact⟨m,c,T,vs,e1,e2,(h5 _ e3).ext hx,e4,e5⟩
 ·intro b hb;have hlt:b<h'.length:=by have:=hs.hlen;omega
  exact⟨_,qJk hlt,hc b hb _ (qJk hlt)⟩
theorem Frozen.trans {X Y Z:Ctx}{h h':List Blk}(f:Frozen B X Y h)(g:Frozen B Y Z h'):Frozen B X Z h':=⟨g.h,g.w.trans f.w,g.σ.trans f.σ,g.hs,Move.trans f.ext g.ext⟩
theorem qiO{B:Base}:∀(l:List Nat) {X:Ctx} (_:HSim B X),∃X',Frozen B X X' (qbI X.h l)
 | [],X,hs=>⟨X,rfl,rfl,rfl,hs,Ext.refl X⟩
 | b::l,X,hs=>by
  simp only[qbI];split
  ·rename_i cs hb;obtain⟨d1,d2⟩:=qap hs (h':=X.h.set b (.cells (AV.lendL X.h cs))) (by simp) (fun b' k' hk=>by
    by_cases hbb:b'=b
    ·subst hbb;rw[qJv (qu hb)] at hk;exact⟨.cells cs,hb,.inr (.inr (.inl ⟨cs,_,rfl,(qJX hk).symm,fun vs hv=>qdw hs hv⟩))⟩
    ·rw[qJf (qJI hbb)] at hk;exact⟨k',hk,.inr (.inl rfl)⟩) (fun b' hb' k' hk=>by
    by_cases hbb:b'=b
    ·subst hbb;rw[qJv (qu hb)] at hk;rw[<-qJX hk];rfl
    ·rw[qJf (qJI hbb)] at hk;obtain⟨cs',h1,h2⟩:=hs.impc b' hb';rw[h1] at hk;rw[<-qJX hk];exact h2)
   obtain⟨X2,f⟩:=qiO l d1;have f0:Frozen B X { X with h:=X.h.set b (.cells (AV.lendL X.h cs)) } (X.h.set b (.cells (AV.lendL X.h cs))):=⟨rfl,rfl,rfl,d1,d2⟩;exact⟨X2,f0.trans f⟩
  ·exact qiO l hs
theorem qrE (args:List AV)(hs:HSim B X):∃X',Frozen B X X' (vM X.h args):=by unfold vM;obtain⟨X1,f1⟩:=q5p (args.flatMap we) hs;simp only;rw[<-f1.h];obtain⟨X2,f2⟩:=q5p (q7H X1.h (AV.menL (AV.lendL X1.h args))) f1.hs;rw[<-f2.h];obtain⟨X3,f3⟩:=qiO (AV.menL (AV.lendL X1.h args)) f2.hs;exact⟨X3,(f1.trans f2).trans f3⟩
mutual
theorem AV.ren_of_men(f:Nat->Option Nat):∀av:AV,av.men=[]->av.ren f=av
 | .undef,_|.skip,_|.yld,_|.blit _,_|.bool _,_|.ilit _ _,_|.int _ _,_|.str _,_|.nilp,_|.eptr _ _ _ _,_|.mptr _ _ _ _ _,_|.nils,_|.imm _ _,_|.full _ _,_|.nilf,_=>rfl
 | .ptr _ _,h=>by simp[AV.men] at h
 | .vptr _ _ _,h=>by simp[AV.men] at h
 | .vsub _ _,h=>by simp[AV.men] at h
 | .aptr _ _ _,h=>by simp[AV.men] at h
 | .asub _ _ _ _ _,h=>by simp[AV.men] at h
 | .bagg cs k n l,h=>by simp only[AV.men] at h;simp only[AV.ren,AV.renL_of_men f cs h]
 | .vec _,h=>by simp[AV.men] at h
 | .fn g a b,h=>by
  simp only[AV.men,List.append_eq_nil_iff] at h;simp only[AV.ren,AV.renL_of_men f a h.1,AV.renL_of_men f b h.2]
 | .agg cs,h=>by simp only[AV.men] at h;simp only[AV.ren,AV.renL_of_men f cs h]
 | .tuple cs,h=>by simp only[AV.men] at h;simp only[AV.ren,AV.renL_of_men f cs h]
theorem AV.renL_of_men(f:Nat->Option Nat):∀l:List AV,AV.menL l=[]->AV.renL f l=l
 | [],_=>rfl
 | a::l,h=>by
  simp only[AV.menL,List.append_eq_nil_iff] at h;simp only[AV.renL,AV.ren_of_men f a h.1,AV.renL_of_men f l h.2]
end
theorem RepL.noMen {X X':Ctx}{azz:List AV}{vs:List Value}(h:RepL X azz vs)(hm:AV.menL azz=[])(hM:∀n,X.M n->X'.M n)(hw:∀a:Addr,X.M a.block->X'.w.cell? a=X.w.cell? a)(hy:X'.y=X.y:=by rfl):RepL X' azz vs:=by
 have:=h.ren (X':=X') (f:=fun _=>none) ⟨hM,hw,(fun _ _ _ h=>by cases h),hy⟩
 rwa [AV.renL_of_men _ _ hm] at this
theorem Rep.noMen {X X':Ctx}{a:AV}{v:Value}(h:Rep X a v)(hm:a.men=[])(hM:∀n,X.M n->X'.M n)(hw:∀a:Addr,X.M a.block->X'.w.cell? a=X.w.cell? a)(hy:X'.y=X.y:=by rfl):Rep X' a v:=by
 have:=h.ren (X':=X') (f:=fun _=>none) ⟨hM,hw,(fun _ _ _ h=>by cases h),hy⟩
 rwa [AV.ren_of_men _ _ hm] at this
theorem qj9:∀l:List Nat,(qiI l).Nodup
 | []=>List.nodup_nil
 | a::l=>by
  simp only[qiI];split
  ·exact qj9 l
  ·rename_i h;exact List.nodup_cons.2 ⟨by simpa using h,qj9 l⟩
theorem qyZ {l:List Nat}{b k:Nat}(h:qAK l b=some k):l[k]?=some b:=by
 simp only[qAK] at h;split at h
 ·rename_i hlt;cases h;rw[qJk hlt];have:=List.findIdx_getElem (p:=(·==b)) (w:=hlt);simpa using this
 ·cases h
theorem qjD:∀{fp:List Nat} {h:List Blk} {hin:List Blk},q64 h fp=some hin->hin.length=fp.length /\
  ∀(k:Nat) (b:Nat),fp[k]?=some b->∃cs,h[b]?=some cs/\hin[k]?=some cs/\cs.plain=true
 | [],h,hin,e=>by simp[q64] at e;subst e;exact⟨rfl,fun k b hk=>by simp at hk⟩
 | b::l,h,hin,e=>by
  simp only[q64] at e;split at e
  ·rename_i cs r h1 h2;split at e
   ·rename_i hm;cases e;obtain⟨g1,g2⟩:=qjD h2;refine⟨by simp[g1],fun k b' hk=>?_⟩;cases k with
    | zero=>simp at hk;subst hk;exact⟨cs,h1,by simp,hm⟩
    | succ k=>
     obtain⟨cs',q1,q2,q3⟩:=g2 k b' (by simpa using hk);exact⟨cs',q1,by simpa using q2,q3⟩
   ·cases e
  ·cases e
theorem qmr:∀{fp:List Nat} {h hout h2:List Blk},q1g h fp hout=some h2->fp.Nodup->(∀b∈fp,b<h.length)->h2.length=h.length/\fp.length<=hout.length /\
  (∀b,b∉fp->h2[b]?=h[b]?)/\∀(k:Nat) (b:Nat),fp[k]?=some b->∃cs,hout[k]?=some cs/\h2[b]?=some cs/\cs.plain=true
 | [],h,hout,h2,e,_,_=>by
  simp[q1g] at e;subst e;exact⟨rfl,by simp,fun _ _=>rfl,fun k b hk=>by simp at hk⟩
 | b::l,h,hout,h2,e,hn,hl=>by
  cases hout with
  | nil=>simp[q1g] at e
  | cons cs r=>
    simp only[q1g] at e;by_cases hm:cs.plain=true
    ·rw[if_pos hm] at e;cases hp:q1g h l r with
     | none=>rw[hp] at e;cases e
     | some h'=>
      rw[hp] at e;simp only[qJR,qJc] at e;subst e;obtain⟨hn1,hn2⟩:=List.nodup_cons.1 hn;obtain⟨g1,g2,g3,g4⟩:=qmr hp hn2 (fun x hx=>hl x (qJy _ hx));have hb:=hl b qJs;refine⟨by simp[g1],by simp;omega,fun x hx=>?_,fun k b' hk=>?_⟩
      ·have:x≠b:=fun e=>hx (e▸qJs);rw[qJf (qJI this)];exact g3 x fun h=>hx (qJy _ h)
      ·cases k with
       | zero=>simp at hk;subst hk;exact⟨cs,by simp,by rw[qJv (by omega)],hm⟩
       | succ k=>
        have hk':l[k]?=some b':=by simpa using hk
        obtain⟨cs',q1,q2,q3⟩:=g4 k b' hk';have:b'≠b:=fun e=>hn1 (e▸qKt hk');exact⟨cs',by simpa using q1,by rw[qJf (qJI this)];exact q2,q3⟩
    ·rw[if_neg hm] at e;cases e
theorem qyM {b:Nat}{k:Blk}(hp:k.plain=true)(h:jw X b k):∃n,X.σ b=some n:=by
 cases k with
 | cells cs=>obtain⟨n,_,_,e,_⟩:=h;exact⟨n,e⟩
 | big cs k N l=>obtain⟨n,_,_,_,e,_⟩:=h;exact⟨n,e⟩
 | _=>cases hp
theorem qru {X X':Ctx}{b b':Nat}{k:Blk}(hp:k.plain=true)(h:jw X b k)(hσ:X'.σ b'=X.σ b)(hw:∀n,X.σ b=some n->X'.w.heap[n]?=X.w.heap[n]?)(hM:∀n,X.M n->X'.M n) (hc:∀a:Addr,X.M a.block->X'.w.cell? a=X.w.cell? a) (hy:X'.y=X.y):jw X' b' k:=by
 cases k with
 | cells cs=>
  obtain⟨n,c,T,e1,e2,e3⟩:=h;exact⟨n,c,T,by rw[hσ];exact e1,by rw[hw n e1];exact e2,e3.noMen (by simpa[Blk.plain] using hp) hM hc hy⟩
 | big cs k N l=>
  obtain⟨n,c,T,vs,e1,e2,e3,e4,e5⟩:=h;exact⟨n,c,T,vs,by rw[hσ];exact e1,by rw[hw n e1];exact e2,e3.noMen (by simpa[Blk.plain] using hp) hM hc hy,e4,e5⟩
 | _=>cases hp
theorem qiZ {k:Blk}(hp:k.plain=true):k.solid=true/\k.mut=true/\(∀e sh l,k≠.vec e sh l/\k≠.frz e sh l):=by cases k<;>first|(cases hp;done)|exact⟨rfl,rfl,fun _ _ _=>⟨(nomatch ·),(nomatch ·)⟩⟩
theorem q7x {E:Env}{P:Program}{f:FuncId}{G:zE}(hG:qT P E.glob f G){args:List AV}{st:St}{r:AV×St}{a:Act}{vargs:List Value}(hsim:Sim E B X st a) (hargs:RepL X args vargs) (h:(q16 G args st).run=some r) :Calls P f vargs.toArray X.w fun e w'=>∃v X',e=.returned v/\X'.w=w'/\Rep X' r.1 v/\Sim E B X' r.2 a:=by
 unfold q16 at h;obtain⟨X1,fz⟩:=qrE args hsim.hs;rw[<-hsim.h] at h;rw[<-fz.h] at h;simp only at h;have hs1:=fz.hs;generalize hfp:qiI (AV.menL (AV.lendL X1.h args))=fp at h;have hnd:fp.Nodup:=hfp▸qj9 _;cases htk:q64 X1.h fp with
 | none=>rw[htk] at h;cases h
 | some hin=>
  rw[htk] at h;obtain⟨r0,h1,h2⟩:=bind_some h;cases hput:q1g X1.h fp r0.2 with
  | none=>rw[hput] at h2;cases h2
  | some hh2=>
   rw[hput] at h2;cases h2;obtain⟨k1,k2⟩:=qjD htk;have hfpl:∀b∈fp,b<X1.h.length:=by intro b hb;obtain⟨k,hk⟩:=qLs hb;obtain⟨cs,q1,_⟩:=k2 k b hk;exact qu q1
   obtain⟨p1,p2,p3,p4⟩:=qmr hput hnd hfpl;have hcell:∀(k b:Nat),fp[k]?=some b->∃cs n,X1.h[b]?=some cs/\hin[k]?=some cs/\cs.plain=true/\X1.σ b=some n/\X1.own b n:=by intro k b hk;obtain⟨cs,q1,q2,q3⟩:=k2 k b hk;obtain⟨n,e1⟩:=qyM q3 (hs1.blk b _ q1);exact⟨cs,n,q1,q2,q3,e1,e1,_,q1,(qiZ q3).2.1⟩
   let X0:Ctx:={ σ:=fun k=>(fp[k]?).bind X1.σ,h:=hin,w:=X1.w,M:=X1.M,y:=X1.y }
   let B0:Base:={ w0:=X1.w,imps:=(List.range hin.length).map X0.σ,M0:=X1.M,fs:=[] }
   have hget0:∀(k:Nat) (blk:Blk),X0.h[k]?=some blk->∃(b:Nat) (cs:Blk) (n:Nat),fp[k]?=some b/\blk=cs/\X1.h[b]?=some cs/\cs.plain=true/\X1.σ b=some n/\X1.own b n:=by
    intro k blk hk;have hlt:k<fp.length:=by rw[<-k1];exact qu hk
    have hfk:fp[k]?=some fp[k]:=qJk hlt;obtain⟨cs,n,q1,q2,q3,q4,q5⟩:=hcell k _ hfk;have:blk=cs:=by have hk':hin[k]?=some blk:=hk;rw[q2] at hk';exact(qJX hk').symm
    exact⟨fp[k],cs,n,hfk,this,q1,q3,q4,q5⟩
   have hσ0:∀(k b:Nat),fp[k]?=some b->X0.σ k=X1.σ b:=by intro k b hk;show (fp[k]?).bind X1.σ=_;rw[hk];rfl
   have hown0:∀(k n:Nat),X0.own k n->∃b:Nat,fp[k]?=some b/\X1.own b n:=by intro k n ⟨e1,blk,e2,e3⟩;obtain⟨b,cs,n',q1,q2,q3,q4,q5,q6⟩:=hget0 k blk e2;rw[hσ0 k b q1,q5] at e1;cases e1;exact⟨b,q1,q6⟩
   have hs0:HSim B0 X0:=by
    constructor
    ·intro k blk hk;obtain⟨b,cs,n,q1,q2,q3,q4,q5,q6⟩:=hget0 k blk hk;subst q2;exact qru q4 (hs1.blk b _ q3) (hσ0 k b q1) (fun _ _=>rfl) (fun _ h=>h) (fun _ _=>rfl) rfl
    ·intro k k' n hk hk';obtain⟨b,q1,q2⟩:=hown0 k n hk;obtain⟨b',q3,q4⟩:=hown0 k' n hk';have:=hs1.inj b b' n q2 q4;subst this;have hlt:=qu q1;exact(List.getElem?_inj hlt hnd).1 (q1.trans q3.symm)
    ·intro k n hk;obtain⟨b,_,q2⟩:=hown0 k n hk;exact hs1.notM b n q2
    ·exact hs1.ltM
    ·exact fun n hn=>hn
    ·exact fun n hn=>.inl hn
    ·rfl
    ·rfl
    ·rfl
    ·exact qJe _
    ·intro _ _ _;rfl
    ·intro k hk;have hk':k<hin.length:=by simpa[B0] using hk
     simp[B0,hk']
    ·intro k hk;have hk':k<hin.length:=by simpa[B0] using hk
     obtain⟨b,cs,n,q1,q2,q3,q4,q5,q6⟩:=hget0 k _ (qJk hk');exact⟨cs,by rw[<-q2];exact qJk hk',(qiZ q4).1⟩
    ·intro k n hk hk2;obtain⟨b,q1,_⟩:=hown0 k n hk;have:k<hin.length:=by rw[k1];exact qu q1
     simp[B0] at hk2;omega
    ·intro p hp;cases hp
   have hent:Entry B0 X0:=⟨rfl,rfl,fun _ h=>h⟩;have hgl:q5D E.glob X0:=by intro x hx;obtain⟨⟨sh,l,i,off,he⟩,hr⟩:=hsim.glob x hx;refine⟨⟨sh,l,i,off,he⟩,hr.move fz.ext.M fz.ext.w ?_⟩;have h3:=hr.1.ext fz.ext;rw[he] at h3 ⊢;exact h3.noMen rfl (fun _ h=>h) (fun _ _=>rfl)
   have hmove:Move0 X1 X0 (qAK fp):=by
    refine⟨fun _ h=>h,fun _ _=>rfl,fun b k hb hk=>?_,rfl⟩;have hfk:=qyZ hk;have hnv:∀sh m,¬X0.isVec k sh m:=by intro sh m ⟨e,l,q1,_⟩;rcases q1 with q1|q1<;>obtain⟨_,_,_,_,q2,_,q4,_⟩:=hget0 k _ q1<;>subst q2<;>cases q4
    exact⟨by show k<hin.length;rw[k1];exact qu hfk,hσ0 k b hfk,fun sh m hv=>absurd hv (hnv sh m),fun sh m hv=>absurd hv (hnv sh m)⟩
   have hrep0:RepL X0 (AV.renL (qAK fp) (AV.lendL X1.h args)) vargs:=(qdw hs1 (hargs.ext fz.ext)).ren hmove;have hcalls:=hG.2 B0 X0 _ vargs r0 hs0 hent hgl hrep0 h1;have hw1:X0.w=X.w:=fz.w;rw[hw1] at hcalls;refine hcalls.mono fun e w' ⟨v,X0',e1,e2,e3,e4,e5,e6⟩=>?_;have hB0:B0.imps.length=fp.length:=by simp[B0,k1]
   have hσ0':∀(k b:Nat),fp[k]?=some b->X0'.σ k=X1.σ b:=by
    intro k b hk;have hlt:=qu hk;have:=e5.imps k (by rw[hB0];exact hlt);rw[this,<-hσ0 k b hk];have hk':k<hin.length:=by omega
    simp[B0,hk']
   let X':Ctx:={ σ:=fun b=>if b<X1.h.length then X1.σ b else X0'.σ (fp.length+(b-X1.h.length)),h:=hh2++(r0.2.drop fp.length).map (Blk.ren (qmJ fp X1.h.length)),w:=X0'.w,M:=X0'.M,kept:=X1.kept,y:=X1.y }
   have hM01:∀n,X1.M n->X0'.M n:=fun n hn=>e5.M0 n hn;have himp:∀n,some n∈B0.imps->∃(k b:Nat),fp[k]?=some b/\X1.own b n:=by
    intro n hn;obtain⟨k,hk,hk2⟩:=qK1.1 hn;have hk':k<fp.length:=by rw[<-k1];simpa using hk
    have hfk:fp[k]?=some fp[k]:=qJk hk';obtain⟨cs,n',q1,q2,q3,q4,q5⟩:=hcell k _ hfk;rw[hσ0 k _ hfk,q4] at hk2;cases hk2;exact⟨k,_,hfk,q5⟩
   have hkeep:∀n,n<X1.w.heap.size->(∀(k b:Nat),fp[k]?=some b->¬X1.own b n)->X0'.w.heap[n]?=X1.w.heap[n]?:=by intro n hn hno;refine e5.frame n hn fun hm=>?_;obtain⟨k,b,q1,q2⟩:=himp n hm;exact hno k b q1 q2
   have hh2l:hh2.length=X1.h.length:=p1;have hget':∀(b:Nat) (blk:Blk),X'.h[b]?=some blk ->
     (b<X1.h.length/\b∉fp/\X1.h[b]?=some blk)\/(b<X1.h.length/\∃(k:Nat) (cs:Blk),fp[k]?=some b/\blk=cs/\X0'.h[k]?=some cs/\cs.plain=true) \/
     (X1.h.length<=b/\∃k0,X0'.h[fp.length+(b-X1.h.length)]?=some k0/\blk=k0.ren (qmJ fp X1.h.length)):=by
    intro b blk hb;have hb':(hh2++(r0.2.drop fp.length).map (Blk.ren (qmJ fp X1.h.length)))[b]?=some blk:=hb;rcases qJl b X1.h.length with hlt|hge
    ·rw[qJp (by omega)] at hb';by_cases hbf:b∈fp
     ·obtain⟨k,hk⟩:=qLs hbf;obtain⟨cs,q1,q2,q3⟩:=p4 k b hk;rw[q2] at hb';cases hb';exact .inr (.inl ⟨hlt,k,blk,hk,rfl,by rw[e4];exact q1,q3⟩)
     ·rw[p3 b hbf] at hb';exact .inl ⟨hlt,hbf,hb'⟩
    ·rw[qJz (by omega),qJo,qKh] at hb';refine .inr (.inr ⟨hge,?_⟩);rw[hh2l] at hb';cases hq:r0.2[fp.length+(b-X1.h.length)]? with
     | none=>rw[hq] at hb';cases hb'
     | some k0=>
      rw[hq] at hb';simp only[qJR,qJc] at hb';exact⟨k0,by rw[e4];exact hq,hb'.symm⟩
   have hσlt:∀b,b<X1.h.length->X'.σ b=X1.σ b:=fun b hb=>by show (if b<X1.h.length then _ else _)=_;rw[if_pos hb]
   have hσge:∀b,X1.h.length<=b->X'.σ b=X0'.σ (fp.length+(b-X1.h.length)):=fun b hb=>by show (if b<X1.h.length then _ else _)=_;rw[if_neg (by omega)]
   have hnotin:∀b n,b∉fp->X1.own b n->∀(k b':Nat),fp[k]?=some b'->¬X1.own b' n:=by intro b n hb ho k b' hk ho';exact hb (hs1.inj b b' n ho ho'▸qKt hk)
   have hMnot:∀n,X1.M n->∀(k b':Nat),fp[k]?=some b'->¬X1.own b' n:=fun n hn k b' _ ho=>hs1.notM b' n ho hn;have hsz:=e5.size;have hback:Move0 X0' X' (qmJ fp X1.h.length):=by
    refine⟨fun _ h=>h,fun _ _=>rfl,fun k b hk hf=>?_,e6.symm⟩;simp only[qmJ] at hf;by_cases hlt:k<fp.length
    ·rw[if_pos hlt] at hf;have hbl:=hfpl b (qKt hf);have hnv:∀sh m,¬X'.isVec b sh m:=by
      intro sh m ⟨e,l,q1,_⟩;rcases q1 with q1|q1<;>rcases hget' b _ q1 with⟨_,h3,_⟩|⟨_,_,_,_,h3,_,h3p⟩|⟨h3,_⟩ <;>
       first|omega|exact absurd (qKt hf) h3|(subst h3;cases h3p)
     exact⟨by show b<List.length (_++_);simp;omega,by rw[hσlt b hbl,hσ0' k b hf],fun sh m hv=>absurd hv (hnv sh m),fun sh m hv=>absurd hv (hnv sh m)⟩
    ·rw[if_neg hlt] at hf;cases hf;have hk2:k<r0.2.length:=by rw[<-e4];exact hk
     have hidx:fp.length+(X1.h.length+(k-fp.length)-X1.h.length)=k:=by omega
     refine⟨?_,?_,fun sh m ⟨e,l,q1,q2⟩=>?_,fun sh m _ n hn c T fr hc=>⟨c,T,fr,hc,rfl⟩⟩
     ·show _<List.length (_++_);simp;omega
     ·rw[hσge _ (by omega),hidx]
     ·rcases q1 with q1|q1<;>rcases hget' _ _ q1 with⟨h3,_⟩|⟨h3,_⟩|⟨_,k0,h3,h4⟩<;>first|omega|skip
      ·rw[hidx] at h3;rcases ql8 (.inl h4) with rfl|rfl
       ·exact⟨e,l,.inl h3,q2⟩
       ·exact⟨e,l,.inr h3,q2⟩
      ·rw[hidx] at h3;rcases ql8 (.inr h4) with rfl|rfl
       ·exact⟨e,l,.inl h3,q2⟩
       ·exact⟨e,l,.inr h3,q2⟩
   have hext:Ext X1 X':=by
    refine Move.of hM01 (fun ad had=>qKf (hkeep _ (hs1.ltM _ had) (hMnot _ had))) (fun b b' hb hf=>?_);cases hf;have hvec:∀sh m,X'.isVec b sh m->b∉fp/\X1.isVec b sh m:=by
     intro sh m ⟨e,l,q1,q2⟩;rcases q1 with q1|q1<;>rcases hget' b _ q1 with⟨_,h3,h4⟩|⟨_,_,_,_,h3,_,h3p⟩|⟨h3,_⟩<;>first|omega|(subst h3;cases h3p;done)|skip
     ·exact⟨h3,e,l,.inl h4,q2⟩
     ·exact⟨h3,e,l,.inr h4,q2⟩
    refine⟨by show _<List.length (_++_);simp;omega,hσlt b hb,fun sh m hv=>(hvec sh m hv).2,fun sh m hv n hn c T fr hc=>⟨c,T,fr,?_,rfl⟩⟩;obtain⟨h3,e,l,h4,_⟩:=hvec sh m hv;refine(hkeep n (qJj.1 hc).1 ?_).trans hc;rcases h4 with h4|h4
    ·exact hnotin b n h3 ⟨hn,_,h4,rfl⟩
    ·rcases hs1.blk b _ h4 with⟨h5,_⟩|⟨n',c',h5,_,_,h6⟩
     ·rw[hn] at h5;cases h5
     ·rw[hn] at h5;cases h5;exact hMnot n h6
   have hown':∀(b n:Nat),X'.own b n->(b<X1.h.length/\X1.own b n)\/(X1.h.length<=b/\X0'.own (fp.length+(b-X1.h.length)) n):=by
    intro b n ⟨q1,blk,q2,q3⟩;rcases hget' b blk q2 with⟨h3,_,h4⟩|⟨h3,k,cs,h4,h5,_,_⟩|⟨h3,k0,h4,h5⟩
    ·exact .inl ⟨h3,by rw[<-hσlt b h3];exact q1,blk,h4,q3⟩
    ·obtain⟨cs',n',w1,_,_,w4,w5⟩:=hcell k b h4;rw[hσlt b h3,w4] at q1;cases q1;exact .inl ⟨h3,w5⟩
    ·subst h5;exact .inr ⟨h3,by rw[<-hσge b h3];exact q1,k0,h4,by rwa [Blk.mut_ren] at q3⟩
   have hnewge:∀k n,fp.length<=k->X0'.own k n->X1.w.heap.size<=n:=fun k n hk ho=>e5.fresh k n ho (by rw[hB0];exact hk);have hs':HSim B X':=by
    constructor
    ·intro b blk hb;rcases hget' b blk hb with⟨h3,h4,h5⟩|⟨h3,k,cs,h4,h5,h6,h7⟩|⟨h3,k0,h4,h5⟩
     ·by_cases hd:blk=.dead
      ·subst hd;trivial
      ·refine jw.ext hext (hσlt b h3) (fun n hn=>hkeep n (hs1.lt h5 hd hn) ?_) (hs1.blk b blk h5);by_cases hm1:blk.mut=true
       ·exact hnotin b n h4 ⟨hn,blk,h5,hm1⟩
       ·cases blk with
        | cells=>exact absurd rfl hm1
        | big=>exact absurd rfl hm1
        | vec=>exact absurd rfl hm1
        | dead=>exact absurd rfl hd
        | frz e sh l=>
         rcases hs1.blk b _ h5 with⟨h6,_⟩|⟨n',c',h6,_,_,h7⟩
         ·rw[hn] at h6;cases h6
         ·rw[hn] at h6;cases h6;exact hMnot n h7
     ·subst h5;exact qru h7 (e5.blk k _ h6) (by rw[hσlt b h3,<-hσ0' k b h4]) (fun _ _=>rfl) (fun _ h=>h) (fun _ _=>rfl) e6.symm
     ·subst h5;exact jw.move hback (hσge b h3) (fun _ _=>rfl) (e5.blk _ k0 h4)
    ·intro b b' n h3 h4;rcases hown' b n h3 with⟨w1,w2⟩|⟨w1,w2⟩<;>rcases hown' b' n h4 with⟨w3,w4⟩|⟨w3,w4⟩
     ·exact hs1.inj b b' n w2 w4
     ·have:=hnewge _ n (by omega) w4;have:=Ctx.own.lt hs1 w2;omega
     ·have:=hnewge _ n (by omega) w2;have:=Ctx.own.lt hs1 w4;omega
     ·have:=e5.inj _ _ n w2 w4;omega
    ·intro b n h3 h4;rcases hown' b n h3 with⟨w1,w2⟩|⟨w1,w2⟩
     ·rcases e5.newM n h4 with h5|h5
      ·exact hs1.notM b n w2 h5
      ·have h6:X1.w.heap.size<=n:=h5;have:=Ctx.own.lt hs1 w2;omega
     ·exact e5.notM _ n w2 h4
    ·exact e5.ltM
    ·exact fun n hn=>hM01 n (hs1.M0 n hn)
    ·intro n hn;rcases e5.newM n hn with h5|h5
     ·exact hs1.newM n h5
     ·have h6:X1.w.heap.size<=n:=h5;have:=hs1.size;exact .inr (by omega)
    ·exact e5.os.trans hs1.os
    ·exact e5.tape.trans hs1.tape
    ·exact e5.output.trans hs1.output
    ·have h6:X1.w.heap.size<=X0'.w.heap.size:=hsz;have:=hs1.size;show B.w0.heap.size<=X0'.w.heap.size;omega
    ·intro n hn hni;have h6:=hs1.size;have:X0'.w.heap[n]?=X1.w.heap[n]?:=by
      refine hkeep n (by omega) fun k b hk ho=>?_;rcases qJl b B.imps.length with hlt|hge
      ·have h7:=hs1.imps b hlt;rw[ho.1,qJk hlt] at h7;simp at h7;exact hni (h7▸qJT hlt)
      ·have:=hs1.fresh b n ho hge;omega
     exact this.trans (hs1.frame n hn hni)
    ·intro b hb;have:=hs1.hlen;rw[hσlt b (by omega)];exact hs1.imps b hb
    ·intro b hb;have:=hs1.hlen;obtain⟨cs,h3,h3s⟩:=hs1.impc b hb;by_cases hbf:b∈fp
     ·obtain⟨k,hk⟩:=qLs hbf;obtain⟨cs',q1,q2,q3⟩:=p4 k b hk;exact⟨cs',by show (_++_)[b]?=_;rw[qJp (by omega)];exact q2,(qiZ q3).1⟩
     ·exact⟨cs,by show (_++_)[b]?=_;rw[qJp (by omega),p3 b hbf];exact h3,h3s⟩
    ·intro b n h3 h4;rcases hown' b n h3 with⟨w1,w2⟩|⟨w1,w2⟩
     ·exact hs1.fresh b n w2 h4
     ·have:=hnewge _ n (by omega) w2;have:=hs1.size;omega
    ·intro p hp;obtain⟨q1,q2,q3⟩:=hs1.kept p hp;refine⟨(hkeep p.1 (qJj.1 q1).1 fun k b _ ho=>?_).trans q1,q2,q3⟩;obtain⟨c,T,fr,hc⟩:=ho.cells hs1;rw[hc] at q1;exact q2 _ _ _ (qJX q1).symm
   exact⟨v,X',e1,e2,e3.ren hback,(hsim.ext fz.ext hs1).ext hext hs'⟩
end Go.Eng

namespace Go.Eng
variable {E:Env}{t:TypeId}
def uF(h:List Blk):Tree Res->Prop
 | .leaf r=>r.2=(h,none)
 | .br _ t e=>uF h t/\uF h e
 | .fail=>True
theorem uF.run {h:List Blk}{t:Tree Res}{r:Res}(ht:uF h t)(hr:t.run=some r):r.2=(h,none):=by
 induction t with
 | leaf x=>cases hr;exact ht
 | br b t e iht ihe=>cases b<;>simp only[Tree.run] at hr<;>first|exact iht ht.1 hr|exact ihe ht.2 hr
 | fail=>cases hr
theorem qkr (h:List Blk)(k:IntKind)(f:Int->Int->Int)(l:Bool)(x y:Int):uF h (q6P h k f l x y):=by unfold q6P;split<;>rfl
theorem qvS (h:List Blk)(f:Int->Int->Bool)(l:Bool)(x y:Int):uF h (qz9 h f l x y):=by unfold qz9;split<;>rfl
theorem qyN (E:Env)(h:List Blk)(t:TypeId)(p:AV):uF h (qf5 E h t p):=by
 unfold qf5;dsimp only
 repeat' (first|exact rfl|exact trivial|split)
theorem qwx (E:Env)(h:List Blk)(t:TypeId)(ps:List (Nat×AV)):uF h (qg2 E h t ps):=by
 unfold qg2
 repeat' (first|exact rfl|exact trivial|split)
theorem qvu (E:Env)(h:List Blk)(t:TypeId)(p:AV):uF h (qc3 E h t p):=by
 unfold qc3 qBn
 repeat' (first|exact qyN _ _ _ _|exact rfl|exact trivial|exact⟨rfl,trivial⟩|split)
theorem quT (E:Env)(h:List Blk)(t:TypeId)(ps:List (Nat×AV)):uF h (qbD E h t ps):=by
 unfold qbD
 repeat' (first|exact qwx _ _ _ _|exact rfl|exact trivial|split)
theorem qoy (E:Env)(h:List Blk)(s:TypeId)(x:AV)(f:Nat):uF h (q2M E h s x f):=by
 unfold q2M
 repeat' (first|exact rfl|exact trivial|split)
theorem ql9 (E:Env)(h:List Blk)(t:TypeId)(cs:List AV)(o:Nat):uF h (qgH E h t cs o):=by
 unfold qgH
 repeat' (first|exact rfl|exact trivial|split)
theorem qwl (E:Env)(h:List Blk)(s:TypeId)(x:AV)(f:Nat):uF h (qfG E h s x f):=by
 unfold qfG
 repeat' (first|exact rfl|exact trivial|exact ql9 _ _ _ _ _|split)
theorem qk8(h:List Blk)(i:Int)(f:Nat->AV):∀n,uF h (qgv h i f n)
 | 0=>trivial
 | n+1=>⟨rfl,qk8 h i f n⟩
theorem qpv (E:Env)(h:List Blk)(t:TypeId)(x i:AV):uF h (uk E h t x i):=by
 unfold uk
 repeat' (first|exact qk8 _ _ _ _|exact rfl|exact trivial|exact⟨rfl,trivial⟩|split)
theorem qn4 (E:Env)(h:List Blk)(t:TypeId)(x i:AV):uF h (q14 E h t x i):=by
 unfold q14
 repeat' (first|exact qpv _ _ _ _ _|exact rfl|exact trivial|exact⟨rfl,trivial⟩|split)
theorem qr2(E:Env)(h:List Blk)(e:TypeId)(cs:List AV)(es:Nat)(i:Int):∀m j,uF h (qmp E h e cs es i j m)
 | 0,_=>trivial
 | m+1,j=>⟨ql9 _ _ _ _ _,qr2 E h e cs es i m (j+1)⟩
theorem qvs (E:Env)(h:List Blk)(t:TypeId)(x i:AV):uF h (qgg E h t x i):=by
 unfold qgg
 repeat' (first|exact rfl|exact trivial|exact⟨rfl,trivial⟩|exact ql9 _ _ _ _ _|exact qr2 _ _ _ _ _ _ _ _|split)
theorem qBK (d:TD)(h:List Blk)(op:BinOp)(x y:AV):uF h (quR d h op x y):=by
 unfold quR
 repeat' (first|exact rfl|exact trivial|exact qkr _ _ _ _ _ _|exact qvS _ _ _ _ _|exact⟨rfl,trivial⟩|exact⟨qkr _ _ _ _ _ _,trivial⟩|split)
theorem qwP (E:Env)(h:List Blk)(op:BinOp)(t:TypeId)(x y:AV):uF h (qiJ E h op t x y):=by
 unfold qiJ;split
 ·unfold qnQ
  repeat' (first|exact rfl|exact trivial|split)
 ·exact qBK _ _ _ _ _
theorem qDW (h:List Blk)(op:UnOp)(x:AV):uF h (qFy h op x):=by
 unfold qFy
 repeat' (first|exact rfl|exact trivial|split)
theorem qyX (E:Env)(h:List Blk)(s d:TypeId)(x:AV):uF h (qmN E h s d x):=by
 unfold qmN
 repeat' (first|exact rfl|exact trivial|split)
theorem qwI (E:Env)(h:List Blk)(s d:TypeId)(x:AV):uF h (qgm E h s d x):=by
 unfold qgm;split
 ·split
  ·unfold qpf
   repeat' (first|exact rfl|exact trivial|split)
  ·trivial
 ·exact qyX _ _ _ _ _
theorem qBb (E:Env)(h:List Blk)(ts:List TypeId)(azz:List AV):uF h (qnZ E h ts azz):=by
 unfold qnZ;split
 ·unfold qCk
  repeat' (first|exact rfl|exact trivial|split)
 ·trivial
theorem qxI (f:Int->Int->Int)(h:List Blk)(azz:List AV):uF h (qs3 f h azz):=by
 unfold qs3
 repeat' (first|exact rfl|exact trivial|split)
theorem qwt (ht:(E.ty t).d=.str)(h:List Blk)(x:AV)(lo hi mx:Option AV):uF h (qcl E h t x lo hi mx):=by
 unfold qcl;rw[ht];cases mx with
 | some _=>trivial
 | none=>
  cases x<;>first|trivial|skip
  simp only;split
  ·exact⟨⟨rfl,trivial⟩,trivial⟩
  ·trivial
theorem quG (ht:(E.ty t).d=.str)(h:List Blk)(x:AV)(lo hi mx:Option AV):uF h (uw E h t x lo hi mx):=by unfold uw;rw[ht];exact qwt ht _ _ _ _ _
theorem qul {n:Nat}{e:TypeId}{es:Nat}(ht:(E.ty t).d=.array n e es)(h:List Blk)(x:AV)(lo hi mx:Option AV):uF h (uw E h t x lo hi mx):=by
 unfold uw;rw[ht];simp only;unfold qDc qtV
 repeat' (first|exact rfl|exact trivial|exact⟨⟨rfl,trivial⟩,trivial⟩|exact⟨⟨⟨rfl,trivial⟩,trivial⟩,trivial⟩|split)
theorem qtf {e:TypeId}{es:Nat}(ht:(E.ty t).d=.slice e es)(h:List Blk)(x:AV)(lo hi:Option AV){mx:Option AV}(hm:mx.isSome=true):uF h (uw E h t x lo hi mx):=by
 unfold uw;rw[ht];simp only;unfold qcl;cases mx with
 | none=>cases hm
 | some m=>
  simp only;rw[ht]
  repeat' (first|exact rfl|exact trivial|exact⟨⟨⟨rfl,trivial⟩,trivial⟩,trivial⟩|split)
theorem qqK {h:List Blk}{ev:Operand->AV}{op:Op}(hs:qcp E op=true){r:Res}(hr:(qny E h ev op).run=some r):r.2=(h,none):=by
 have key:uF h (qny E h ev op):=by
  unfold qny;cases op<;>simp only[qcp] at hs<;>try (cases hs)
  case move=>rfl
  case assign=>rfl
  case pick=>simp only;split<;>first|rfl|exact⟨rfl,rfl⟩|trivial
  case build=>exact quT _ _ _ _
  case load=>exact qvu _ _ _ _
  case nilCheck=>simp only;repeat' (first|exact rfl|exact⟨rfl,trivial⟩|exact trivial|split)
  case binOp=>exact qwP _ _ _ _ _ _
  case unOp=>exact qDW _ _ _
  case convert=>exact qwI _ _ _ _ _
  case makeFunc fn _ _=>cases fn<;>first|rfl|trivial
  case slice t x lo hi mx=>
   split at hs
   ·rename_i ht;exact quG ht _ _ _ _ _
   ·rename_i ht;exact qul ht _ _ _ _ _
   ·rename_i ht;exact qtf ht _ _ _ _ (by simpa using hs)
   ·cases hs
  case fieldAddr=>exact qoy _ _ _ _ _
  case field=>exact qwl _ _ _ _ _
  case indexAddr=>exact qn4 _ _ _ _ _
  case index=>exact qvs _ _ _ _ _
  case extract=>simp only;repeat' (first|exact rfl|exact trivial|split)
  case call c=>
   obtain⟨callee,args,tys⟩:=c;cases callee with
   | builtin b=>
    cases b<;>simp only at hs<;>try (cases hs)
    ·exact qBb _ _ _ _
    ·exact qxI _ _ _
    ·exact qxI _ _ _
   | value x=>simp only at hs;cases hs
   | invoke x n=>simp only at hs;cases hs
 exact key.run hr
end Go.Eng

namespace Go.Eng
variable {E:Env}
theorem qsB {callS:q75}{h:List Blk}{f g:Operand->AV}{op:Op}(hfg:∀x∈op.operands.toList,f x=g x):qcG E callS h f op=qcG E callS h g op:=by
 have hmap:∀(l:List Operand),(∀x∈l,x∈op.operands.toList)->l.map f=l.map g:=fun l hl=>qKI fun x hx=>hfg x (hl x hx);have hop:qcp E op=true->qny E h f op=qny E h g op:=by
  intro hst;unfold qny;cases op<;>simp only[qcp] at hst<;>try (cases hst)
  case move x=>simp only;rw[hfg x (by simp[Op.operands])]
  case assign x=>simp only;rw[hfg x (by simp[Op.operands])]
  case pick c a b=>simp only;rw[hfg c (by simp[Op.operands]),hfg a (by simp[Op.operands]),hfg b (by simp[Op.operands])]
  case build t ps=>
   simp only;have:(ps.toList.map fun p=>(p.1,f p.2))=ps.toList.map fun p=>(p.1,g p.2):=qKI fun p hp=>by rw[hfg p.2 (by simp only[Op.operands];exact List.mem_map_of_mem hp)]
   rw[this]
  case load t a=>simp only;rw[hfg a (by simp[Op.operands])]
  case nilCheck a=>simp only;rw[hfg a (by simp[Op.operands])]
  case binOp o t x y ty=>simp only;rw[hfg x (by simp[Op.operands]),hfg y (by simp[Op.operands])]
  case unOp o t x=>simp only;rw[hfg x (by simp[Op.operands])]
  case convert s d x=>simp only;rw[hfg x (by simp[Op.operands])]
  case makeFunc fn a b=>cases fn<;>simp only;rw[hmap a.toList (fun x hx=>by simp only[Op.operands,qLi];exact qKb _ hx),hmap b.toList (fun x hx=>by simp only[Op.operands,qLi];exact qJY _ hx)]
  case slice t x lo hi mx=>
   simp only;have hlo:∀y,lo=some y->f y=g y:=fun y hy=>hfg y (by subst hy;simp[Op.operands]);have hhi:∀y,hi=some y->f y=g y:=fun y hy=>hfg y (by subst hy;simp[Op.operands]);have hmx:∀y,mx=some y->f y=g y:=fun y hy=>hfg y (by subst hy;simp[Op.operands]);have e1:lo.map f=lo.map g:=by
    cases lo with
    | none=>rfl
    | some y=>exact congrArg some (hlo y rfl)
   have e2:hi.map f=hi.map g:=by
    cases hi with
    | none=>rfl
    | some y=>exact congrArg some (hhi y rfl)
   have e3:mx.map f=mx.map g:=by
    cases mx with
    | none=>rfl
    | some y=>exact congrArg some (hmx y rfl)
   rw[e1,e2,e3,hfg x (by simp[Op.operands])]
  case fieldAddr s x i=>simp only;rw[hfg x (by simp[Op.operands])]
  case field s x i=>simp only;rw[hfg x (by simp[Op.operands])]
  case indexAddr t x i=>simp only;rw[hfg x (by simp[Op.operands]),hfg i (by simp[Op.operands])]
  case index t x i=>simp only;rw[hfg x (by simp[Op.operands]),hfg i (by simp[Op.operands])]
  case extract x i=>simp only;rw[hfg x (by simp[Op.operands])]
  case call c=>
   obtain⟨callee,args,tys⟩:=c;cases callee with
   | builtin b=>
    simp only;rw[hmap args.toList (fun x hx=>by simpa[Op.operands,Call.operands] using hx)]
   | value x=>simp only at hst;cases hst
   | invoke x n=>simp only at hst;cases hst
 unfold qcG;split
 ·rename_i x args tys;rw[hfg x (by simp[Op.operands,Call.operands]),hmap args.toList (fun y hy=>by simp only[Op.operands,Call.operands,qLi];exact qJY _ hy)]
 ·split
  ·rename_i hst;rw[hop hst]
  ·rfl
def qiV(E:Env)(P:Program)(callS:List Blk->q75):Prop:=
 ∀(f:FuncId) (args:List AV) (st:St) (v:AV) (B:Base) (X:Ctx) (a:Act) (vargs:List Value),Sim E B X st a->RepL X args vargs->(callS st.h f args).run=some v ->
  (∀w,(callFunc f vargs.toArray).run P w=.ok (.enter f vargs.toArray) w) /\
  Calls P f vargs.toArray X.w fun e w'=>∃u X',e=.returned u/\X'.w=w'/\Rep X' v u/\Sim E B X' st a
def q6C(E:Env)(callS:List Blk->q75):Prop:=∀(h h':List Blk) (f:FuncId) (args:List AV),(qga E f).isSome=true->(∀b,b∈AV.menL args->h'[b]?=h[b]?)->callS h' f args=callS h f args
def qlk(P:Program)(f:FuncId)(e:TypeId):Prop:=(∀args w,(callFunc f args).run P w=.ok (.enter f args) w) /\
 ∀(w:World) (n len cap i j:Nat) (c:Array Value) (T:TypeId),w.heap[n]?=some (.cells c T (0,0))->c.size=cap*P.cellsOf e->(∀k v,k<len*P.cellsOf e->c[k]?=some v->v.oneCell'=true)->0<P.cellsOf e ->
  len<=cap->cap<=9223372036854775807->i<=j->j<=len ->
  Calls P f #[.slice (some ⟨n,0,none⟩) len cap,.int .i64 i,.int .i64 j] w fun x w'=>x=.returned (.slice (some ⟨n,0,none⟩) (len-(j-i)) cap) /\
   ∃c',w'.heap[n]?=some (.cells c' T (0,0))/\c'.size=c.size/\(∀k,k<(len-(j-i))*P.cellsOf e->c'[k]?=if k<i*P.cellsOf e then c[k]? else c[k+(j-i)*P.cellsOf e]?) /\
    (∀m,m≠n->w'.heap[m]?=w.heap[m]?)/\w'.heap.size=w.heap.size/\w'.os=w.os/\w'.tape=w.tape/\w'.output=w.output
structure Env.specs (E:Env) (P:Program):Prop where
 sp:∀x,x∈E.spec->qT P E.glob x.1 x.2
 dl:∀x,x∈E.dels->qlk P x.1 x.2
theorem qhW:∀(l:List Nat) (h:List Blk),l.all (qjf h)=true->qO h l=h
 | [],_,_=>rfl
 | b::l,h,hl=>by
  simp only[qLe,qJx] at hl;have:zR h b=h:=by
   unfold zR;have:=hl.1;unfold qjf at this;split at this
   ·rename_i hb;rw[hb]
   ·cases this
  simp only[qO,this];exact qhW l h hl.2
theorem qsP {P:Program}(hS:E.specs P):qiV E P (q9L E):=by
 intro f args st v B X a vargs hsim hargs h;unfold q9L at h;cases hf:E.spec.find? fun x=>x.1==f with
 | none=>rw[hf] at h;cases h
 | some G=>
  rw[hf] at h;have hG:=hS.sp G (qK7 hf);have hfe:G.1=f:=by simpa using qKy hf
  simp only at h;split at h
  ·rename_i hc;obtain⟨r,h1,h2⟩:=bind_some h;have hr2:r.2=[]/\(r.1.men)=[]/\v=r.1:=by
    split at h2
    ·rename_i he;split at h2
     ·rename_i hm;cases h2;exact⟨he,by simpa using hm,rfl⟩
     ·cases h2
    ·cases h2
   obtain⟨q1,q2,rfl⟩:=hr2;have hfz:qO st.h (args.flatMap we)=st.h:=qhW _ _ hc.1;have hmen:AV.menL (AV.lendL st.h args)=[]:=by simpa using hc.2
   have hcs:(q16 G.2 args st).run=some (r.1,st):=by
    unfold q16;have hpr:vM st.h args=st.h:=by unfold vM;simp only[hfz,hmen,q7H,qO,qbI]
    simp only[hpr,hmen,qiI,q64];rw[AV.renL_of_men _ _ hmen,Tree.run_bind,h1];simp only[qJH,q1g,q1,qKr,List.drop_nil,List.map_nil,qKl];rw[AV.ren_of_men _ _ q2];rfl
   rw[hfe] at hG;refine⟨hG.1 _,?_⟩;exact q7x hG hsim hargs hcs
  ·cases h
theorem qsv {P:Program}(hE:E.tok P){callS:List Blk->q75}(hc:qiV E P callS){B:Base}{X:Ctx}{st:St}{a:Act}(hs:Sim E B X st a){o:Oper}{av:AV}(h:(qcG E (callS st.h) st.h (E.opd st.t) o.op).run=some av) {next:Act->World->Prop} {Q:Exit->Act->World->Prop}(hq:∀X' v,Sim E B X' st a->Rep X' av v->next (a.put o.dst v) X'.w):o.wp P a X.w next Q:=by
 unfold qcG at h;split at h
 ·rename_i x args tys hop;cases hx:E.opd st.t x with
  | fn f first caps=>
   rw[hx] at h;have hv:=q8l hs x;rw[hx] at hv;generalize hev:a.eval x=vx at hv;cases hv with
   | fn _ _ _ vf vc q1 q2=>
    have hargs:=q4q hs args.toList;have hall:RepL X (first++args.toList.map (E.opd st.t)++caps) (vf++args.toList.map a.eval++vc):=(q1.append hargs).append q2;obtain⟨g1,g2⟩:=hc f _ st av B X a _ hs hall h;unfold Oper.wp;have hrun:(execOp a.eval o).run P X.w=.ok (.enter f (vf++args.toList.map a.eval++vc).toArray) X.w:=by
     simp only[execOp,hop,resolve,hev,Deferred.ofValue,qJh,qJN,qJn,invoke];have:vf.toArray++args.map a.eval++vc.toArray=(vf++args.toList.map a.eval++vc).toArray:=by apply qKz;simp
     rw[this];exact g1 X.w
    rw[hrun];refine g2.mono fun e w' ⟨v,X',e1,e2,e3,e4⟩=>?_;subst e1 e2;exact hq X' _ e4 e3
  | _=>rw[hx] at h;cases h
 ·split at h
  ·rename_i hst;obtain⟨r,h1,h2⟩:=bind_some h;cases h2;have hr2:=qqK hst h1;obtain⟨nx,v,X',g1,g2,g3,g4,g5⟩:=qjz hE hs h1;have hrn:r.2.2=none:=by rw[hr2]
   rw[hrn] at g5;have hXh:X'.h=st.h:=by rw[g5.1,hr2]
   have hs':Sim E B X' st a:=by have:=hs.ext g5.2 g4;rw[hXh] at this;exact this
   unfold Oper.wp;rw[g1];rcases g2 with rfl|⟨rfl,rfl⟩
   ·exact hq X' _ hs' g3
   ·exact hq X' _ hs' g3
  ·cases h
theorem Sim.drawn {B:Base}{X:Ctx}{st:St}{a:Act}(hs:Sim E B X st a)(n:Nat):Sim E B { X with w:={ X.w with drawn:=n } } st a:=by
 have hx:Ext X { X with w:={ X.w with drawn:=n } }:=
  Move.of (fun _ h=>h) (fun _ _=>rfl) (fun b b' hb h=>by cases h;exact⟨hb,rfl,fun _ _ h=>h,fun _ _ _ _ _ c T fr h=>⟨c,T,fr,h,rfl⟩⟩)
 have h0:=hs.hs;have hs':HSim B { X with w:={ X.w with drawn:=n } }:=
  ⟨fun b k hk=>jw.ext hx rfl (fun _ _=>rfl) (h0.blk b k hk),h0.inj,h0.notM,h0.ltM,h0.M0,h0.newM,h0.os,h0.tape,h0.output,h0.size,h0.frame,h0.imps,h0.impc,h0.fresh,h0.kept⟩
 have:=hs.ext hx hs';have e:({ st with h:=X.h }:St)=st:=by rw[hs.h]
 exact e▸this
end Go.Eng

namespace Go.Eng
def qvm(all:Array Oper)(k:Nat)(v:AV):AV:=if qwc all k then (match v with|.bool b=>.blit b|v=>v) else v
theorem qox{X:Ctx}{all:Array Oper}{k:Nat}{v:AV}{u:Value}(h:Rep X v u):Rep X (qvm all k v) u:=by
 unfold qvm;split
 ·cases h with
  | bool b=>exact .blit b
  | undef=>exact .undef _
  | skip=>exact .skip
  | yld=>exact .yld
  | blit b=>exact .blit b
  | ilit k n=>exact .ilit k n
  | int k n=>exact .int k n
  | str s=>exact .str s
  | nilp=>exact .nilp
  | ptr b off n h1 h2=>exact .ptr b off n h1 h2
  | eptr sh l i off a h1 h2 h3 h4=>exact .eptr sh l i off a h1 h2 h3 h4
  | mnil sh l i off=>exact .mnil sh l i off
  | mptr sh l i off a h1 h2 h3 h4=>exact .mptr sh l i off a h1 h2 h3 h4
  | vptr b i off n k h1 h2 h3=>exact .vptr b i off n k h1 h2 h3
  | vsub b i n k m c h1 h2 h3=>exact .vsub b i n k m c h1 h2 h3
  | aptr b o i n h1 h2 h3=>exact .aptr b o i n h1 h2 h3
  | asub b o N i m n k c h1 h2 h3 h4 h5 h6=>exact .asub b o N i m n k c h1 h2 h3 h4 h5 h6
  | nils=>exact .nils
  | imm sh l _ h=>exact .imm sh l _ h
  | full sh l p n h=>exact .full sh l p n h
  | vec b p n c h1 h2=>exact .vec b p n c h1 h2
  | nilf=>exact .nilf
  | fn f a b c d h1 h2=>exact .fn f a b c d h1 h2
  | agg cs vs h=>exact .agg cs vs h
  | tuple cs vs h=>exact .tuple cs vs h
  | bagg cs k n l vs h hl=>exact .bagg cs k n l vs h hl
 ·exact h
theorem qzH{all:Array Oper}{k:Nat}{o:Oper}{st st':St}{v:AV}(h:(qpY all k o { st with t:=qhQ st.t o.dst v }).run=some st') :st'={ st with t:=qhQ st.t o.dst (qvm all k v) }:=by
 unfold qpY at h;unfold qvm;by_cases hg:qwc all k=true
 ·rw[if_pos hg] at h ⊢;cases hd:o.dst with
  | none=>rw[hd] at h;cases h;rfl
  | some d=>
   rw[hd] at h;simp only[qhQ] at h ⊢;rcases qJl d st.t.length with hlt|hge
   ·rw[qJv hlt] at h;cases v<;>simp only at h<;>try (cases h;rfl)
    rename_i b;cases b<;>(cases h;simp[List.set_set])
   ·rw[List.set_eq_of_length_le hge] at h;rw[qJC hge] at h;cases h;rw[List.set_eq_of_length_le hge]
 ·rw[if_neg hg] at h ⊢;cases h;rfl
def qdl(V:Nat->AV):Nat->List Oper->List AV->List AV
 | _,[],t=>t
 | k,o::rest,t=>qdl V (k+1) rest (qhQ t o.dst (V k))
theorem qoJ{V W:Nat->AV}:∀(l:List Oper) (k:Nat) (t:List AV),(∀j,k<=j->V j=W j)->qdl V k l t=qdl W k l t
 | [],_,_,_=>rfl
 | o::l,k,t,h=>by
  simp only[qdl];rw[h k (qJe _)];exact qoJ l (k+1) _ fun j hj=>h j (by omega)
section
variable (dst:Nat->Option Tmp) (V:Nat->AV) (T0:List AV)
def TLp(L:Nat->Bool):Nat->List AV
 | 0=>T0
 | m+1=>if L m then qhQ (TLp L m) (dst m) (V m) else TLp L m
variable {dst V T0}
theorem qvf(t:List AV)(d:Option Tmp)(v:AV):(qhQ t d v).length=t.length:=by cases d<;>simp[qhQ]
theorem qdt(L:Nat->Bool):∀m,(TLp dst V T0 L m).length=T0.length
 | 0=>rfl
 | m+1=>by simp only[TLp];split<;>simp[qvf,qdt L m]
theorem q9D{L:Nat->Bool}{t:Tmp}:∀m,(∀j,j<m->L j=true->dst j≠some t)->(TLp dst V T0 L m)[t]?=T0[t]?
 | 0,_=>rfl
 | m+1,h=>by
  simp only[TLp];split
  ·rename_i hl;have:=h m (qL4 m) hl;cases hd:dst m with
   | none=>exact q9D m fun j hj=>h j (by omega)
   | some d=>
    rw[hd] at this;simp only[qhQ];rw[qJf (fun e=>this (by rw[e]))];exact q9D m fun j hj=>h j (by omega)
  ·exact q9D m fun j hj=>h j (by omega)
theorem qhd{L:Nat->Bool}{t:Tmp}{j:Nat}(hj:L j=true)(hd:dst j=some t):∀m,j<m->(∀k,k<m->k≠j->dst k≠some t) ->
  (TLp dst V T0 L m)[t]?=if t<T0.length then some (V j) else none
 | 0,h,_=>by omega
 | m+1,h,hu=>by
  by_cases hm:j=m
  ·subst hm;simp only[TLp,hj,if_true,hd,qhQ];rw[List.getElem?_set];simp[qdt]
  ·simp only[TLp];split
   ·have:=hu m (qL4 m) (fun e=>hm e.symm);cases hdm:dst m with
    | none=>exact qhd hj hd m (by omega) fun k hk=>hu k (by omega)
    | some d=>
     rw[hdm] at this;simp only[qhQ];rw[qJf (fun e=>this (by rw[e]))];exact qhd hj hd m (by omega) fun k hk=>hu k (by omega)
   ·exact qhd hj hd m (by omega) fun k hk=>hu k (by omega)
theorem qFu{L:Nat->Bool}{i n:Nat}(hi:i<n)(hL:L i=false)(hu:∀k,k<n->k≠i->∀t,dst i=some t->dst k≠some t) :TLp dst V T0 (fun j=>if j=i then true else L j) n=qhQ (TLp dst V T0 L n) (dst i) (V i):=by
 apply qK9;intro t;cases hd:dst i with
 | none=>
  simp only[qhQ];by_cases hex:∃j,j<n/\L j=true/\dst j=some t
  ·
   clear hex;have:∀m,m<=n->TLp dst V T0 (fun j=>if j=i then true else L j) m=TLp dst V T0 L m:=by
    intro m;induction m with
    | zero=>intro _;rfl
    | succ m ih=>
     intro hm;simp only[TLp];by_cases hmi:m=i
     ·subst hmi;rw[ih (by omega)];simp[hL,hd,qhQ]
     ·rw[ih (by omega)];simp[hmi]
   rw[this n (qJe _)]
  ·have h1:∀j,j<n->L j=true->dst j≠some t:=fun j hj hl he=>hex ⟨j,hj,hl,he⟩;rw[q9D n h1];refine q9D n fun j hj hl he=>?_;by_cases hji:j=i
   ·subst hji;rw[hd] at he;cases he
   ·simp[hji] at hl;exact h1 j hj hl he
 | some d=>
  simp only[qhQ];by_cases htd:t=d
  ·subst htd;rw[qhd (j:=i) (by simp) hd n hi (fun k hk hki=>hu k hk hki t hd),List.getElem?_set];simp[qdt]
  ·rw[qJf (fun e=>htd e.symm)];have:∀m,m<=n->(TLp dst V T0 (fun j=>if j=i then true else L j) m)[t]?=(TLp dst V T0 L m)[t]?:=by
    intro m;induction m with
    | zero=>intro _;rfl
    | succ m ih=>
     intro hm;simp only[TLp];by_cases hmi:m=i
     ·subst hmi;simp only[if_true,hL,qJA,if_false,hd,qhQ];rw[qJf (fun e=>htd e.symm)];exact ih (by omega)
     ·simp only[hmi,if_false];split
      ·cases hdm:dst m with
       | none=>exact ih (by omega)
       | some d'=>
        simp only[qhQ,List.getElem?_set];rw[qdt,qdt,ih (by omega)]
      ·exact ih (by omega)
   exact this n (qJe _)
end
theorem qDI{V:Nat->AV}{l:List Oper}{T0:List AV}:∀j,j<=l.length->TLp (fun i=>(l[i]?).bind (·.dst)) V T0 (fun _=>true) j=qdl V 0 (l.take j) T0:=by
 have app:∀(l:List Oper) (o:Oper) (k:Nat) (t:List AV),qdl V k (l++[o]) t=qhQ (qdl V k l t) o.dst (V (k+l.length)):=by
  intro l;induction l with
  | nil=>intro o k t;simp[qdl]
  | cons a l ih=>intro o k t;simp only[qKc,qdl,ih];congr 2;simp;omega
 intro j;induction j with
 | zero=>intro _;simp[TLp,qdl]
 | succ j ih=>
  intro hj;have hlt:j<l.length:=by omega
  have ht:l.take (j+1)=l.take j++[l[j]]:=by rw[List.take_succ_eq_append_getElem hlt]
  rw[ht,app,<-ih (by omega)];simp only[TLp,if_true];rw[qJk hlt];simp only[qJH];congr 2;simp;omega
end Go.Eng

namespace Go.Eng
variable {all:Array Oper}
def qwL(acc:List Nat)(o:Oper):Nat:=o.after.toList.foldl (fun s e=>if Region.binds .any e then s ||| 2^e.on ||| acc.getD e.on 0 else s) 0
theorem qoA(acc:List Nat)(x:Nat):∀(es:List Edge) (s:Nat),(es.foldl (fun s e=>if Region.binds .any e then s ||| 2^e.on ||| acc.getD e.on 0 else s) s).testBit x=true ->
  s.testBit x=true\/∃e,e∈es/\Region.binds .any e=true/\(x=e.on\/(acc.getD e.on 0).testBit x=true)
 | [],s,h=>.inl h
 | e::es,s,h=>by
  simp only[qL5] at h;rcases qoA acc x es _ h with h1|⟨e',h1,h2,h3⟩
  ·split at h1
   ·rename_i hb;rw[Nat.testBit_or,Nat.testBit_or,qKJ,qKJ] at h1;rcases h1 with (h1|h1)|h1
    ·exact .inl h1
    ·rw[Nat.testBit_two_pow] at h1;have h2:e.on=x:=by simpa using h1
     exact .inr ⟨e,qJs,hb,.inl h2.symm⟩
    ·exact .inr ⟨e,qJs,hb,.inr h1⟩
   ·exact .inl h1
  ·exact .inr ⟨e',qJy _ h1,h2,h3⟩
def qFI(ops:List Oper)(acc:List Nat):Prop:=∀i x,(acc.getD i 0).testBit x=true->∃o e,ops[i]?=some o/\e∈o.after.toList/\Region.binds .any e=true/\(x=e.on\/(acc.getD e.on 0).testBit x=true)
theorem qqL:∀(rest done:List Oper) (acc:List Nat),acc.length=done.length->qFI done acc->qFI (done++rest) (rest.foldl (fun acc o=>acc++[qwL acc o]) acc)
 | [],done,acc,_,h=>by simpa using h
 | o::rest,done,acc,hl,h=>by
  simp only[qL5];have:=qqL rest (done++[o]) (acc++[qwL acc o]) (by simp[hl]) ?_
  ·simpa using this
  ·intro i x hb;have grow:∀(j x:Nat),(acc.getD j 0).testBit x=true->((acc++[qwL acc o]).getD j 0).testBit x=true:=by
    intro j x hj;rcases qJl j acc.length with hlt|hge
    ·rw[qJd,qJp hlt,<-qJd];exact hj
    ·rw[qJd,qJC hge] at hj;simp at hj
   rcases qJl i acc.length with hlt|hge
   ·rw[qJd,qJp hlt,<-qJd] at hb;obtain⟨o',e,h1,h2,h3,h4⟩:=h i x hb;refine⟨o',e,by rw[qJp (by omega)];exact h1,h2,h3,?_⟩;exact h4.elim .inl fun q=>.inr (grow _ _ q)
   ·rcases qKR hge with he|hgt
    ·rw[qJd,<-he,qJz (qJe _)] at hb;simp only[qK3,qKA,qKq] at hb;rcases qoA acc x _ _ hb with h1|⟨e,h1,h2,h3⟩
     ·simp at h1
     ·exact⟨o,e,by rw[<-he,qJz (by omega)];simp[hl],h1,h2,h3.elim .inl fun q=>.inr (grow _ _ q)⟩
    ·rw[qJd,qJC (by simp;omega)] at hb;simp at hb
theorem qsc (ops:List Oper):qFI ops (qfx ops):=by have:=qqL ops [] [] rfl (fun i x h=>by simp at h);exact this
structure DrawOk (all:Array Oper):Prop where
 edge:∀i o,all[i]?=some o->∀e,e∈o.after.toList->Region.binds .any e=true->e.on<i
 dst:∀i j oi oj,all[i]?=some oi->all[j]?=some oj->j≠i->∀t,oj.dst=some t->oi.dst≠some t /\
  (t∈qz1 all oi->((qfx all.toList).getD i 0).testBit j=true\/((qfx all.toList).getD j 0).testBit i=true)
theorem qCS (h:qAO all=true):DrawOk all:=by
 unfold qAO at h;simp only[qJL,qKu] at h;have main:∀i oi,all[i]?=some oi->(∀e,e∈oi.after.toList->Region.binds .any e=true->e.on<i) /\
   ∀j oj,all[j]?=some oj->j≠i->∀t,oj.dst=some t->oi.dst≠some t/\(t∈qz1 all oi->((qfx all.toList).getD i 0).testBit j=true\/((qfx all.toList).getD j 0).testBit i=true):=by
  intro i oi hi;have hi':all.toList[i]?=some oi:=by simpa using hi
  have:=h i (qu hi');rw[hi'] at this;simp only[qJx,qJL,qKu,qKJ,beq_iff_eq] at this;obtain⟨h1,h2⟩:=this;refine⟨fun e he hb=>?_,fun j oj hj hne t ht=>?_⟩
  ·have:=h1 e he;rw[hb] at this;simpa using this
  ·have hj':all.toList[j]?=some oj:=by simpa using hj
   have:=(h2 j (qu hj')).resolve_left hne;rw[hj'] at this;simp only[ht,qJx,bne_iff_ne,ne_eq,qKJ,qKU,List.contains_eq_mem,decide_eq_false_iff_not] at this;refine⟨this.1,fun hm=>?_⟩;rcases this.2 with (h3|h3)|h3
   ·exact absurd hm h3
   ·exact .inl h3
   ·exact .inr h3
 exact⟨fun i o hi=>(main i o hi).1,fun i j oi oj hi hj hne=>(main i oi hi).2 j oj hj hne⟩
theorem qEs (hd:DrawOk all):∀(i x:Nat),((qfx all.toList).getD i 0).testBit x=true->x<i:=by
 intro i;induction i using Nat.strongRecOn with
 | _ i ih=>
  intro x hx;obtain⟨o,e,h1,h2,h3,h4⟩:=qsc all.toList i x hx;have he:=hd.edge i o (by simpa using h1) e h2 h3;rcases h4 with rfl|h4
  ·exact he
  ·have:=ih e.on he x h4;omega
def qmy(all:Array Oper)(L:Nat->Bool):Prop:=∀i o,all[i]?=some o->L i=true->∀e,e∈o.after.toList->Region.binds .any e=true->L e.on=true
theorem qr3 (hd:DrawOk all){L:Nat->Bool}(hc:qmy all L):∀(i x:Nat),L i=true->((qfx all.toList).getD i 0).testBit x=true->L x=true:=by
 intro i;induction i using Nat.strongRecOn with
 | _ i ih=>
  intro x hi hx;obtain⟨o,e,h1,h2,h3,h4⟩:=qsc all.toList i x hx;have ho:all[i]?=some o:=by simpa using h1
  have he:=hc i o ho hi e h2 h3;rcases h4 with rfl|h4
  ·exact he
  ·exact ih e.on (hd.edge i o ho e h2 h3) x he h4
section
variable {E:Env} {callS:q75} {h:List Blk} {all:Array Oper} {V:Nat->AV} {T0:List AV}
def uf(all:Array Oper):Nat->Option Tmp:=fun i=>(all[i]?).bind (·.dst)
theorem qFk (hd:DrawOk all){L:Nat->Bool}(hc:qmy all L){n i:Nat}{o:Oper}(hi:all[i]?=some o)(hin:i<=n)(hL:L i=false)(hedge:∀e,e∈o.after.toList->Region.binds .any e=true->L e.on=true) {t:Tmp} (ht:t∈qz1 all o) :(TLp (uf all) V T0 L n)[t]?=(TLp (uf all) V T0 (fun _=>true) i)[t]?:=by
 by_cases hex:∃j oj,all[j]?=some oj/\j≠i/\oj.dst=some t
 ·obtain⟨j,oj,hj,hne,hjt⟩:=hex;have hdj:uf all j=some t:=by simp[uf,hj,hjt]
  have huniq:∀m k,k<m->k≠j->uf all k≠some t:=by
   intro m k _ hkj he;unfold uf at he;cases hk:all[k]? with
   | none=>rw[hk] at he;cases he
   | some ok=>
    rw[hk] at he;simp only[qJH] at he;exact(hd.dst j k oj ok hj hk hkj t he).1 hjt
  rcases (hd.dst i j o oj hi hj hne t hjt).2 ht with ha|ha
  ·
   have hji:=qEs hd i j ha;have hLj:L j=true:=by
    obtain⟨o',e,h1,h2,h3,h4⟩:=qsc all.toList i j ha;have:o'=o:=by
     have h1':all[i]?=some o':=by simpa using h1
     rw[hi] at h1';exact(qJX h1').symm
    subst this;have he:=hedge e h2 h3;rcases h4 with rfl|h4
    ·exact he
    ·exact qr3 hd hc _ _ he h4
   rw[qhd hLj hdj n (by omega) (huniq n),qhd rfl hdj i hji (huniq i)]
  ·
   have hij:=qEs hd j i ha;have hLj:L j=false:=by
    cases hLj:L j with
    | false=>rfl
    | true=>have:=qr3 hd hc _ _ hLj ha;rw[hL] at this;cases this
   have e1:(TLp (uf all) V T0 L n)[t]?=T0[t]?:=q9D n fun k hk hLk he=>by
    by_cases hkj:k=j
    ·subst hkj;rw[hLj] at hLk;cases hLk
    ·exact huniq n k hk hkj he
   have e2:(TLp (uf all) V T0 (fun _=>true) i)[t]?=T0[t]?:=q9D i fun k hk _ he=>by
    by_cases hkj:k=j
    ·omega
    ·exact huniq i k hk hkj he
   rw[e1,e2]
 ·have hno:∀k,k≠i->uf all k≠some t:=by
   intro k hki he;unfold uf at he;cases hk:all[k]? with
   | none=>rw[hk] at he;cases he
   | some ok=>
    rw[hk] at he;exact hex ⟨k,ok,hk,hki,he⟩
  have e1:(TLp (uf all) V T0 L n)[t]?=T0[t]?:=q9D n fun k hk hLk=>hno k (fun e=>by subst e;rw[hL] at hLk;cases hLk);have e2:(TLp (uf all) V T0 (fun _=>true) i)[t]?=T0[t]?:=q9D i fun k hk _=>hno k (by omega);rw[e1,e2]
end
def unl(listed:Array Bool):Nat->Nat
 | 0=>0
 | m+1=>unl listed m+if listed.getD m false then 0 else 1
theorem qsI{listed:Array Bool}:∀{m:Nat},unl listed m=0->∀i,i<m->listed.getD i false=true
 | 0,_,i,hi=>by omega
 | m+1,h,i,hi=>by
  simp only[unl] at h;by_cases him:i=m
  ·subst him;cases hl:listed.getD i false with
   | true=>rfl
   | false=>rw[hl] at h;simp at h
  ·exact qsI (Nat.add_eq_zero_iff.1 h).1 i (by omega)
theorem q1c {listed:Array Bool}{i j:Nat}(hi:i<listed.size):(listed.setIfInBounds i true).getD j false=if j=i then true else listed.getD j false:=by
 by_cases h:j=i
 ·subst h;simp[hi]
 ·simp[h,Array.getElem?_setIfInBounds_ne (qJI h)]
theorem qvy{listed:Array Bool}{i:Nat}(hi:i<listed.size)(hl:listed.getD i false=false):∀m,(m<=i->unl (listed.setIfInBounds i true) m=unl listed m)/\(i<m->unl (listed.setIfInBounds i true) m+1=unl listed m)
 | 0=>⟨fun _=>rfl,fun h=>by omega⟩
 | m+1=>by
  obtain⟨h1,h2⟩:=qvy hi hl m;refine⟨fun h=>?_,fun h=>?_⟩
  ·simp only[unl];rw[h1 (by omega),q1c hi,if_neg (show ¬m=i by omega)]
  ·simp only[unl];rw[q1c hi];by_cases him:m=i
   ·subst him;rw[h1 (qJe _),if_pos rfl,hl];simp
   ·rw[if_neg him];have:=h2 (by omega);omega
end Go.Eng

namespace Go.Eng
variable {E:Env}{op:Op}{t:TypeId}
def q0a(h':List Blk):Tree Res->Tree Res->Prop
 | .leaf r,t'=>t'=.leaf (r.1,h',none)
 | .br b t e,.br b' t' e'=>b=b'/\q0a h' t t'/\q0a h' e e'
 | .fail,_=>True
 | .br _ _ _,_=>False
theorem q0a.run{h':List Blk}:∀{t t':Tree Res} {r:Res},q0a h' t t'->t.run=some r->t'.run=some (r.1,h',none)
 | .leaf _,t',_,hm,hr=>by cases hr;simp only[q0a] at hm;subst hm;rfl
 | .fail,_,_,_,hr=>by cases hr
 | .br b t e,.br b' t' e',r,hm,hr=>by
  simp only[q0a] at hm;obtain⟨rfl,h1,h2⟩:=hm;cases b<;>simp only[Tree.run] at hr ⊢
  ·exact q0a.run h2 hr
  ·exact q0a.run h1 hr
 | .br _ _ _,.leaf _,_,hm,_=>by cases hm
 | .br _ _ _,.fail,_,hm,_=>by cases hm
section
variable {h h':List Blk}
def Agr(h h':List Blk)(p:AV):Prop:=∀b,b∈p.men->h'[b]?=h[b]?
theorem wh (v:AV):q0a h' (okv h v) (okv h' v):=rfl
theorem ym {b:Bool}{t t' e e':Tree Res}(h1:q0a h' t t')(h2:q0a h' e e'):q0a h' (.br b t e) (.br b t' e'):=⟨rfl,h1,h2⟩
theorem zC {c:Prop}[Decidable c]{t t' e e':Tree Res}(h1:q0a h' t t')(h2:q0a h' e e'):q0a h' (if c then t else e) (if c then t' else e'):=by split<;>assumption
theorem qal (kk:IntKind)(f:Int->Int->Int)(l:Bool)(x y:Int):q0a h' (q6P h kk f l x y) (q6P h' kk f l x y):=by unfold q6P;cases l<;>rfl
theorem qAr (f:Int->Int->Bool)(l:Bool)(x y:Int):q0a h' (qz9 h f l x y) (qz9 h' f l x y):=by unfold qz9;cases l<;>rfl
theorem qhq {v:AV}(H:Agr h h' v):vT h' v=vT h v:=by
 cases v<;>first|rfl|skip
 rename_i b;simp only[vT];rw[H b (by simp[AV.men])]
theorem qtr (E:Env)(t:TypeId)(p:AV)(H:Agr h h' p):q0a h' (qf5 E h t p) (qf5 E h' t p):=by
 unfold qf5;dsimp only;refine zC trivial ?_;cases p with
 | ptr b off=>
  simp only;rw[H b (by simp[AV.men])];cases hb:h[b]? with
  | none=>trivial
  | some x=>
   cases x with
   | cells cs=>
    simp only;refine zC (zC (wh _) trivial) ?_;cases cs[off]?<;>first|trivial|rfl
   | _=>trivial
 | eptr sh l i off=>
  simp only;refine zC ?_ ?_
  ·cases qaq sh l i off (E.ty t).size<;>first|trivial|rfl
  ·cases qeS sh l i off<;>first|trivial|rfl
 | vptr b i off=>
  simp only;rw[qhq (v:=.vec b) H];cases hb:vT h (.vec b) with
  | none=>trivial
  | some x=>
   obtain⟨sh,l⟩:=x;simp only;refine zC ?_ ?_
   ·cases qaq sh l i off (E.ty t).size<;>first|trivial|rfl
   ·cases qeS sh l i off<;>first|trivial|rfl
 | _=>trivial
theorem qyI (E:Env)(t:TypeId)(p:AV)(H:Agr h h' p):q0a h' (qc3 E h t p) (qc3 E h' t p):=by
 cases p with
 | ptr b off=>
  have hm:=qtr E t (.ptr b off) H;unfold qc3;simp only;rw[H b (by simp[AV.men])];cases hb:h[b]? with
  | none=>
   have:qf5 E h t (.ptr b off)=.fail:=by unfold qf5;simp only[hb];split<;>rfl
   simp only[this];trivial
  | some x=>
   cases x with
   | big cs kk n l=>
    simp only;unfold qBn;refine zC trivial (zC (zC (wh _) trivial) ?_);cases cs[off]? with
    | none=>exact zC (wh _) trivial
    | some v=>exact wh _
   | _=>exact hm
 | aptr b o i=>
  unfold qc3;simp only;rw[H b (by simp[AV.men])];cases hb:h[b]? with
  | none=>trivial
  | some x=>
   cases x with
   | big cs kk n l=>exact zC (ym (wh _) trivial) trivial
   | _=>trivial
 | _=>unfold qc3;exact qtr _ _ _ H
theorem qz7 (E:Env)(t:TypeId)(ps:List (Nat×AV)):q0a h' (qg2 E h t ps) (qg2 E h' t ps):=by
 unfold qg2;refine zC trivial ?_;cases (E.ty t).d with
 | struct fs=>
  simp only;refine zC ?_ trivial;cases qdi (fun i=>(fs[i]?).map fun f=>(f.1,f.2.2)) ((E.ty t).zero.map jx) ps<;>first|trivial|rfl
 | array n e es=>
  simp only;refine zC trivial ?_;cases qdi (fun i=>some (i*es,es)) ((E.ty t).zero.map jx) ps<;>first|trivial|rfl
 | _=>trivial
theorem qvT (E:Env)(t:TypeId)(ps:List (Nat×AV)):q0a h' (qbD E h t ps) (qbD E h' t ps):=by
 unfold qbD;cases qyU E t with
 | none=>exact qz7 _ _ _
 | some q=>
  obtain⟨o,kk,n⟩:=q;simp only;cases (E.ty t).d with
  | struct fs=>
   simp only;refine zC ?_ trivial;cases qdi (fun i=>(fs[i]?).map fun f=>(f.1,f.2.2)) (((E.ty t).zero.take o).map jx) ps<;>first|trivial|rfl
  | _=>trivial
theorem qq4 (E:Env)(s:TypeId)(x:AV)(f:Nat):q0a h' (q2M E h s x f) (q2M E h' s x f):=by
 unfold q2M;cases (E.ty s).d with
 | struct fs=>
  simp only;cases fs[f]? with
  | none=>trivial
  | some o=>
   obtain⟨o,tt,sz⟩:=o;simp only;refine zC trivial ?_;cases x<;>first|rfl|trivial
 | _=>trivial
theorem qor (E:Env)(t:TypeId)(cs:List AV)(o:Nat):q0a h' (qgH E h t cs o) (qgH E h' t cs o):=by unfold qgH;cases qf1 E t cs o<;>first|rfl|trivial
theorem qyF (E:Env)(s:TypeId)(x:AV)(f:Nat):q0a h' (qfG E h s x f) (qfG E h' s x f):=by
 unfold qfG;cases (E.ty s).d with
 | struct fs=>
  cases x with
  | agg cs=>
   simp only;cases fs[f]? with
   | none=>trivial
   | some o=>exact qor _ _ _ _
  | _=>trivial
 | _=>trivial
theorem qgQ(i:Int)(f:Nat->AV):∀n,q0a h' (qgv h i f n) (qgv h' i f n)
 | 0=>trivial
 | n+1=>⟨rfl,rfl,qgQ i f n⟩
theorem qqb (E:Env)(t:TypeId)(x i:AV)(H:Agr h h' x):q0a h' (uk E h t x i) (uk E h' t x i):=by
 unfold uk;cases (E.ty t).d with
 | slice e es=>
  cases x with
  | imm sh l=>
   cases asI i with
   | none=>trivial
   | some y=>exact zC (ym (wh _) trivial) trivial
  | vec b=>
   cases asI i with
   | none=>trivial
   | some y=>
    simp only;rw[qhq (v:=.vec b) H];cases hb:vT h (.vec b) with
    | none=>trivial
    | some z=>exact zC (ym (wh _) trivial) trivial
  | _=>trivial
 | array n e es=>
  cases x with
  | ptr b off=>
   simp only;cases i with
   | ilit kk j=>exact zC (wh _) trivial
   | int kk j=>exact zC (qgQ _ _ _) trivial
   | _=>trivial
  | eptr sh l i0 off=>
   simp only;cases i with
   | ilit kk j=>exact zC (wh _) trivial
   | int kk j=>exact zC (qgQ _ _ _) trivial
   | _=>trivial
  | _=>trivial
 | _=>trivial
theorem qpy (E:Env)(t:TypeId)(x i:AV)(H:Agr h h' x):q0a h' (q14 E h t x i) (q14 E h' t x i):=by
 have hm:=qqb E t x i H;unfold q14;split
 ·split
  ·split
   ·split
    ·exact zC (ym (wh _) trivial) trivial
    ·exact hm
   ·exact hm
  ·exact hm
 ·exact hm
theorem qtZ(E:Env)(e:TypeId)(cs:List AV)(es:Nat)(i:Int):∀m j,q0a h' (qmp E h e cs es i j m) (qmp E h' e cs es i j m)
 | 0,_=>trivial
 | m+1,j=>ym (qor _ _ _ _) (qtZ E e cs es i m (j+1))
theorem qyK (E:Env)(t:TypeId)(x i:AV):q0a h' (qgg E h t x i) (qgg E h' t x i):=by
 unfold qgg;cases (E.ty t).d with
 | array n e es=>
  cases x with
  | agg cs=>
   cases hi:asI i with
   | none=>trivial
   | some y=>
    cases i with
    | ilit kk j=>exact zC (qor _ _ _ _) trivial
    | int kk j=>
     simp only;cases (E.ty e).d with
     | int k2=>
      simp only;refine zC ?_ trivial;cases qkj k2 cs with
      | none=>trivial
      | some l=>exact ym (wh _) trivial
     | slice e2 es2=>
      simp only;refine zC ?_ trivial;split
      ·exact qtZ _ _ _ _ _ _ _
      ·trivial
     | _=>trivial
    | _=>cases hi
  | _=>trivial
 | str=>
  cases x with
  | str s=>
   cases asI i with
   | none=>trivial
   | some y=>exact ym (wh _) trivial
  | _=>trivial
 | _=>trivial
theorem qy0 (d:TD)(op:BinOp)(x y:AV)(H:Agr h h' x):q0a h' (quR d h op x y) (quR d h' op x y):=by
 unfold quR;cases hx:asI x with
 | some p=>
  obtain⟨kk,a⟩:=p;cases hy:asI y with
  | some q=>
   obtain⟨kk',b⟩:=q;simp only;refine zC ?_ trivial;cases op<;>simp only<;>first
    | exact qal _ _ _ _ _
    | exact qAr _ _ _ _
    | trivial
    | skip
   ·cases y<;>simp only<;>first|exact zC trivial (qal _ _ _ _ _)|exact ym (qal _ _ _ _ _) trivial
   ·cases y<;>simp only<;>first|exact zC trivial (qal _ _ _ _ _)|exact ym (qal _ _ _ _ _) trivial
  | none=>cases x<;>first|cases hx;done|(cases y<;>first|(cases hy;done)|trivial)
 | none=>
  simp only;cases hbx:asB x with
  | some a=>
   cases hby:asB y with
   | some b=>simp only;cases d<;>simp only<;>first|trivial|(cases op<;>first|rfl|trivial)
   | none=>cases x<;>first|(cases hbx;done)|(cases y<;>first|(cases hby;done)|trivial)
  | none=>
   simp only;cases x with
   | str a=>
    cases y with
    | str b=>cases op<;>first|rfl|trivial|exact ym (wh _) trivial
    | _=>trivial
   | nilp=>
    cases y with
    | nilp=>cases d<;>first|trivial|(cases op<;>first|rfl|trivial)
    | _=>trivial
   | ptr b off=>
    cases y with
    | nilp=>
     cases d<;>first|trivial|skip
     simp only;rw[H b (by simp[AV.men])];cases hb:h[b]? with
     | none=>trivial
     | some z=>cases z<;>first|trivial|(cases op<;>first|rfl|trivial)
    | _=>trivial
   | eptr sh l i o=>
    cases y with
    | nilp=>cases d<;>first|trivial|(cases op<;>first|rfl|trivial)
    | _=>trivial
   | imm sh l=>
    cases y with
    | nils=>cases d<;>first|trivial|(cases op<;>first|trivial|exact ym (wh _) trivial)
    | _=>trivial
   | mptr c sh l i o=>
    cases y with
    | nilp=>cases d<;>first|trivial|(cases op<;>first|rfl|trivial)
    | _=>trivial
   | _=>trivial
theorem qyf (E:Env)(op:BinOp)(t:TypeId)(x y:AV)(H:Agr h h' x):q0a h' (qiJ E h op t x y) (qiJ E h' op t x y):=by
 unfold qiJ;cases x with
 | agg xs=>
  cases y with
  | agg ys=>
   simp only;unfold qnQ;cases eqT E 32 t (.agg xs) (.agg ys) with
   | none=>trivial
   | some r=>cases op<;>first|rfl|trivial
  | _=>exact qy0 _ _ _ _ H
 | _=>exact qy0 _ _ _ _ H
theorem qF0 (op:UnOp)(x:AV):q0a h' (qFy h op x) (qFy h' op x):=by cases op<;>cases x<;>first|rfl|trivial
theorem qzQ (E:Env)(s d:TypeId)(x:AV):q0a h' (qmN E h s d x) (qmN E h' s d x):=by unfold qmN;cases (E.ty s).d<;>cases (E.ty d).d<;>cases x<;>first|rfl|trivial
theorem qyW (E:Env)(s d:TypeId)(x:AV)(H:Agr h h' x):q0a h' (qgm E h s d x) (qgm E h' s d x):=by
 unfold qgm;cases (E.ty s).d with
 | slice e es=>
  simp only;cases (E.ty d).d with
  | str=>
   simp only;unfold qpf;cases (E.ty e).d with
   | int kk=>
    cases kk<;>first|trivial|skip
    simp only;rw[qhq H];cases hr:vT h x with
    | none=>trivial
    | some q=>
     obtain⟨sh,l⟩:=q;simp only;split
     ·rfl
     ·trivial
   | _=>trivial
  | _=>trivial
 | _=>exact qzQ _ _ _ _
theorem qDq (E:Env)(ts:List TypeId)(azz:List AV)(H:∀x,x∈azz->Agr h h' x):q0a h' (qnZ E h ts azz) (qnZ E h' ts azz):=by
 unfold qnZ;cases ts with
 | nil=>trivial
 | cons t ts=>
  cases azz with
  | nil=>trivial
  | cons x azz=>
   cases azz with
   | cons _ _=>trivial
   | nil=>
    simp only;unfold qCk;cases (E.ty t).d with
    | str=>cases x<;>first|rfl|trivial
    | array n e es=>rfl
    | slice e es=>
     cases x with
     | nils=>rfl
     | vec b=>
      simp only;rw[qhq (v:=.vec b) (H _ qJs)];cases hb:vT h (.vec b) with
      | none=>trivial
      | some z=>rfl
     | imm sh l=>rfl
     | _=>trivial
    | _=>cases x<;>trivial
theorem qFs (f:Int->Int->Int)(azz:List AV):q0a h' (qs3 f h azz) (qs3 f h' azz):=by
 unfold qs3;cases azz with
 | nil=>trivial
 | cons x l=>
  simp only;cases asI x with
  | none=>trivial
  | some p=>
   obtain⟨kk,n⟩:=p;simp only;cases qwk f kk n l with
   | none=>trivial
   | some m=>exact zC (wh _) (wh _)
theorem qyx (ht:(E.ty t).d=.str)(x:AV)(lo hi mx:Option AV):q0a h' (qcl E h t x lo hi mx) (qcl E h' t x lo hi mx):=by
 unfold qcl;rw[ht];cases mx with
 | some _=>trivial
 | none=>
  cases x<;>first|trivial|skip
  rename_i s;simp only;cases qdJ lo 0 with
  | none=>trivial
  | some l=>
   cases qdJ hi (qB s) with
   | none=>trivial
   | some r=>exact ym (ym (wh _) trivial) trivial
theorem qwQ (ht:(E.ty t).d=.str)(x:AV)(lo hi mx:Option AV):q0a h' (uw E h t x lo hi mx) (uw E h' t x lo hi mx):=by unfold uw;rw[ht];exact qyx ht _ _ _ _
theorem qwf {n:Nat}{e:TypeId}{es:Nat}(ht:(E.ty t).d=.array n e es)(x:AV)(lo hi mx:Option AV):q0a h' (uw E h t x lo hi mx) (uw E h' t x lo hi mx):=by
 unfold uw;rw[ht];simp only;cases x<;>first|trivial|skip
 ·cases mx with
  | some _=>trivial
  | none=>
   simp only;refine zC ?_ trivial;unfold qDc;split
   ·exact ym (ym (wh _) trivial) trivial
   ·trivial
 ·refine zC ?_ trivial;split
  ·unfold qtV;split
   ·split
    ·exact ym (ym (wh _) trivial) trivial
    ·trivial
   ·split
    ·exact ym (ym (ym (wh _) trivial) trivial) trivial
    ·trivial
  ·trivial
theorem qws {e:TypeId}{es:Nat}(ht:(E.ty t).d=.slice e es)(x:AV)(lo hi:Option AV){mx:Option AV}(hm:mx.isSome=true):q0a h' (uw E h t x lo hi mx) (uw E h' t x lo hi mx):=by
 unfold uw;rw[ht];simp only;unfold qcl;cases mx with
 | none=>cases hm
 | some m=>
  simp only;rw[ht];split
  ·split
   ·exact zC (ym (ym (ym (wh _) trivial) trivial) trivial) trivial
   ·trivial
  ·trivial
theorem qB5 {ev:Operand->AV}(hs:qcp E op=true)(H:qBF op=true->∀x,x∈op.operands.toList->Agr h h' (ev x)):q0a h' (qny E h ev op) (qny E h' ev op):=by
 unfold qny;cases op<;>simp only[qcp] at hs<;>try (cases hs)
 case move=>exact wh _
 case assign=>exact wh _
 case pick c a b=>simp only;cases ev c<;>first|exact wh _|exact ym (wh _) (wh _)|trivial
 case build=>exact qvT _ _ _
 case load x=>exact qyI _ _ _ (H rfl x (by simp[Op.operands]))
 case nilCheck x=>
  have H:=H rfl x (by simp[Op.operands]);simp only;cases hx:ev x with
  | ptr b o=>
   rw[hx] at H;simp only;rw[H b (by simp[AV.men])];cases hb:h[b]? with
   | none=>trivial
   | some z=>cases z<;>first|rfl|trivial
  | eptr sh l i o=>rfl
  | mptr c sh l i o=>exact ym (wh _) trivial
  | _=>trivial
 case binOp op t x y r=>exact qyf _ _ _ _ _ (H rfl x (by simp[Op.operands]))
 case unOp=>exact qF0 _ _
 case convert s d x=>exact qyW _ _ _ _ (H rfl x (by simp[Op.operands]))
 case makeFunc fn _ _=>cases fn<;>first|rfl|trivial
 case slice t x lo hi mx=>
  split at hs
  ·rename_i ht;exact qwQ ht _ _ _ _
  ·rename_i ht;exact qwf ht _ _ _ _
  ·rename_i ht;exact qws ht _ _ _ (by simpa using hs)
  ·cases hs
 case fieldAddr=>exact qq4 _ _ _ _
 case field=>exact qyF _ _ _ _
 case indexAddr t x i=>exact qpy _ _ _ _ (H rfl x (by simp[Op.operands]))
 case index=>exact qyK _ _ _ _
 case extract x i=>
  simp only;cases ev x with
  | tuple vs=>simp only;cases vs[i]?<;>first|rfl|trivial
  | _=>trivial
 case call c=>
  obtain⟨callee,args,tys⟩:=c;cases callee with
  | builtin b=>
   cases b<;>first|exact qDq _ _ _ (fun x hx=>by obtain⟨y,hy,rfl⟩:=qK1.1 hx;exact H rfl y (by simpa[Op.operands,Call.operands] using hy))|exact qFs _ _|(cases hs;done)
  | value x=>simp only at hs;cases hs
  | invoke x n=>simp only at hs;cases hs
end
mutual
theorem qBD{h h':List Blk}:∀(a:AV),Agr h h' a->a.lend h'=a.lend h
 | .vec b,H=>by simp only[AV.lend];rw[H b (by simp[AV.men])]
 | .agg cs,H=>by simp only[AV.lend];rw[q1S cs H]
 | .tuple cs,H=>by simp only[AV.lend];rw[q1S cs H]
 | .undef,_|.yld,_|.skip,_|.blit _,_|.bool _,_|.ilit _ _,_|.int _ _,_|.str _,_|.nilp,_|.ptr _ _,_|.eptr _ _ _ _,_|.mptr _ _ _ _ _,_|.vptr _ _ _,_|.vsub _ _,_|.aptr _ _ _,_|.asub _ _ _ _ _,_|.bagg _ _ _ _,_|.nils,_|.imm _ _,_|.full _ _,_|.nilf,_|.fn _ _ _,_=>rfl
theorem q1S{h h':List Blk}:∀(l:List AV),(∀b,b∈AV.menL l->h'[b]?=h[b]?)->AV.lendL h' l=AV.lendL h l
 | [],_=>rfl
 | a::l,H=>by
  simp only[AV.lendL];rw[qBD a fun b hb=>H b (by simp only[AV.menL];exact qKb _ hb),q1S l fun b hb=>H b (by simp only[AV.menL];exact qJY _ hb)]
end
theorem qrx:∀(a:AV) (b:Nat),b∈we a->b∈a.men:=by
 intro a b hb;cases a<;>simp only[we] at hb<;>first|(cases hb;done)|skip
 case vec c=>simpa[AV.men] using hb
 case agg cs=>
  simp only[AV.men];induction cs with
  | nil=>cases hb
  | cons c cs ih=>
   simp only[AV.menL];simp only[List.filterMap_cons] at hb;cases c<;>simp only at hb<;>first|exact qJY _ (ih hb)|skip
   rcases qJi.1 hb with rfl|hb
   ·exact qKb _ (by simp[AV.men])
   ·exact qJY _ (ih hb)
theorem qnm {l:List AV}{a:AV}{b:Nat}(ha:a∈l)(hb:b∈a.men):b∈AV.menL l:=by
 induction l with
 | nil=>cases ha
 | cons c l ih=>
  simp only[AV.menL];rcases qJi.1 ha with rfl|ha
  ·exact qKb _ hb
  ·exact qJY _ (ih ha)
theorem qoO {h h':List Blk}{f:FuncId}{args:List AV}(H:∀b,b∈AV.menL args->h'[b]?=h[b]?):q9L E h' f args=q9L E h f args:=by
 unfold q9L;cases hf:E.spec.find? fun x=>x.1==f with
 | none=>rfl
 | some G=>
  simp only;have e1:(args.flatMap we).all (qjf h')=(args.flatMap we).all (qjf h):=by
   have:∀b,b∈args.flatMap we->qjf h' b=qjf h b:=by intro b hb;obtain⟨a,ha,hb⟩:=qLj.1 hb;unfold qjf;rw[H b (qnm ha (qrx a b hb))]
   generalize args.flatMap we=l at this;induction l with
   | nil=>rfl
   | cons b l ih=>simp only[qLe];rw[this b qJs,ih fun b hb=>this b (qJy _ hb)]
  rw[e1,q1S args H]
theorem q7E (E:Env):q6C E (q7W E):=by
 intro h h' f args hs H;unfold q7W;unfold qga at hs;cases hf:E.spec.find? fun x=>x.1==f with
 | none=>rw[hf] at hs;cases hs
 | some G=>simp only;exact qoO H
theorem qu5 (E:Env):q6C E qsY:=fun _ _ _ _ _ _=>rfl
theorem qtp {callS:List Blk->q75}(hm:q6C E callS){h h':List Blk}{ev:Operand->AV}{v:AV}{R:List Nat}(hR:qGw E ev op=some R)(H:∀b,b∈R->h'[b]?=h[b]?)(hr:(qcG E (callS h) h ev op).run=some v):(qcG E (callS h') h' ev op).run=some v:=by
 unfold qcG at hr ⊢;split at hr
 ·rename_i x args tys;cases hx:ev x with
  | fn f first caps=>
   rw[hx] at hr;unfold qGw at hR;simp only[qgl,jI,hx] at hR;cases hf:qga E f with
   | none=>rw[hf] at hR;cases hR
   | some G=>
    rw[hf] at hR;simp only[qJc] at hR;subst hR;simp only;rw[hm h h' f _ (by rw[hf];rfl) H];exact hr
  | _=>rw[hx] at hr;cases hr
 ·rename_i hno;split at hr
  ·rename_i hst;rw[if_pos hst];obtain⟨r,h1,h2⟩:=bind_some hr;cases h2;have hR':qBF op=true->R=AV.menL (op.operands.toList.map ev):=by
    intro hlk;unfold qGw at hR;have:qgl op=false:=by
     unfold qgl;split
     ·rename_i x args tys;exact absurd rfl (hno x args tys)
     ·rfl
    rw[this,hlk] at hR;simpa using hR.symm
   rw[Tree.run_bind,q0a.run (qB5 (h':=h') hst fun hlk x hx b hb=>H b (by rw[hR' hlk];exact qnm (List.mem_map_of_mem hx) hb)) h1];rfl
  ·cases hr
section
variable {h:List Blk}
theorem qgu:∀(cs:List AV),cs.all qC0=true->qab h cs=h
 | [],_=>rfl
 | c::cs,hc=>by
  simp only[qLe,qJx] at hc;cases c<;>first|(simp only[qab];exact qgu cs hc.2)|(cases hc.1)
theorem qzS {ev:Operand->AV}{v:AV}{z:Blk}(hr:(qhP E h ev op).run=some (v,z)):(qny E h ev op).run=some (v,h++[z],none):=by
 unfold qhP at hr;cases op<;>simp only at hr<;>first|(cases hr;done)|skip
 case buildSlice t len parts=>
  unfold qny;simp only;unfold q7Z;cases hd:(E.ty t).d<;>rw[hd] at hr<;>simp only at hr ⊢<;>first|(cases hr;done)|skip
  rename_i e es;split at hr
  ·rename_i hc;rw[if_pos hc];cases hf:qdi (fun i=>some (i*es,es)) ((List.replicate len ((E.ty e).zero.map jx)).flatten) (parts.toList.map fun p=>(p.1,ev p.2)) with
   | none=>rw[hf] at hr;cases hr
   | some cs=>
    cases hs:E.shape 16 e with
    | none=>rw[hf,hs] at hr;cases hr
    | some sh=>
     rw[hf,hs] at hr;simp only at hr ⊢;split at hr
     ·rename_i hl;rw[if_pos hl.1];cases hch:qhB h sh len cs with
      | none=>rw[hch] at hr;cases hr
      | some l=>
       rw[hch] at hr;cases hr;simp only[qgu cs hl.2];rfl
     ·cases hr
  ·cases hr
theorem qtC {f g:Operand->AV}(hfg:∀x∈op.operands.toList,f x=g x):qhP E h f op=qhP E h g op:=by
 unfold qhP;cases op<;>simp only
 case buildSlice t len ps=>
  have:(ps.toList.map fun p=>(p.1,f p.2))=ps.toList.map fun p=>(p.1,g p.2):=qKI fun p hp=>by rw[hfg p.2 (by simp only[Op.operands];exact List.mem_map_of_mem hp)]
  rw[this]
end
end Go.Eng

namespace Go.Eng
variable {B:Base}{E:Env}{X:Ctx}{s:Nat}
mutual
theorem AV.ren_void{s:Nat}:∀av:AV,s∉av.men->av.ren (qcb s)=av
 | .undef,_|.skip,_|.yld,_|.blit _,_|.bool _,_|.ilit _ _,_|.int _ _,_|.str _,_|.nilp,_|.eptr _ _ _ _,_|.mptr _ _ _ _ _,_|.nils,_|.imm _ _,_|.full _ _,_|.nilf,_=>rfl
 | .ptr b _,h=>by simp only[AV.men,qJJ] at h;simp[AV.ren,qcb,qJI h]
 | .vptr b _ _,h=>by simp only[AV.men,qJJ] at h;simp[AV.ren,qcb,qJI h]
 | .vsub b _,h=>by simp only[AV.men,qJJ] at h;simp[AV.ren,qcb,qJI h]
 | .aptr b _ _,h=>by simp only[AV.men,qJJ] at h;simp[AV.ren,qcb,qJI h]
 | .asub b _ _ _ _,h=>by simp only[AV.men,qJJ] at h;simp[AV.ren,qcb,qJI h]
 | .vec b,h=>by simp only[AV.men,qJJ] at h;simp[AV.ren,qcb,qJI h]
 | .fn g first caps,h=>by
  simp only[AV.men,qJG,not_or] at h;simp[AV.ren,AV.renL_void first h.1,AV.renL_void caps h.2]
 | .agg cs,h=>by simp only[AV.men] at h;simp[AV.ren,AV.renL_void cs h]
 | .tuple cs,h=>by simp only[AV.men] at h;simp[AV.ren,AV.renL_void cs h]
 | .bagg cs k n l,h=>by simp only[AV.men] at h;simp[AV.ren,AV.renL_void cs h]
theorem AV.renL_void{s:Nat}:∀l:List AV,s∉AV.menL l->AV.renL (qcb s) l=l
 | [],_=>rfl
 | a::l,h=>by
  simp only[AV.menL,qJG,not_or] at h;simp[AV.renL,AV.ren_void a h.1,AV.renL_void l h.2]
end
theorem Blk.ren_void (k:Blk)(h:s∉k.menB):k.ren (qcb s)=k:=by cases k<;>simp only[Blk.menB,Blk.ren] at h ⊢<;>rw[AV.renL_void _ h]
theorem qlG{s:Nat}:∀l:List (List AV),s∉qkX l->l.map (AV.renL (qcb s))=l
 | [],_=>rfl
 | a::l,h=>by
  simp only[qkX,qJG,not_or] at h;simp only[qKi,AV.renL_void a h.1,qlG l h.2]
theorem qnt {s b:Nat}{k:Blk}:∀{h:List Blk},s∉qc7 h->h[b]?=some k->s∉k.menB:=by
 intro h;induction h generalizing b with
 | nil=>intro _ hb;simp at hb
 | cons a h ih=>
  intro hs hb;simp only[qc7,qJG,not_or] at hs;cases b with
  | zero=>simp only[qKA,qJc] at hb;subst hb;exact hs.1
  | succ b=>exact ih hs.2 (by simpa using hb)
def Ctx.slot(X:Ctx)(s:Nat)(z:Blk)(o:Obj):Ctx:={ σ:=fun b=>if b=s then some X.w.heap.size else X.σ b,h:=X.h.set s z,w:=X.w.alloc o,M:=X.M,kept:=X.kept,y:=X.y }
theorem qpI (hs:HSim B X){z:Blk}{o:Obj}:Move X (X.slot s z o) (qcb s):=by
 refine Move.of (fun _ h=>h) (fun a ha=>qKf (wo _ _ (hs.ltM _ ha))) (fun b b' hb h=>?_);unfold qcb at h;split at h
 ·cases h
 ·rename_i hne;cases h;refine⟨by simpa[Ctx.slot] using hb,by simp[Ctx.slot,hne],fun sh m ⟨e,l,h1,h2⟩=>⟨e,l,?_,h2⟩,fun _ _ _ n hn c T fr hc=>⟨c,T,fr,?_,rfl⟩⟩
  ·have e1:(X.slot s z o).h[b]?=X.h[b]?:=qJf (fun e=>hne e.symm);rw[e1] at h1;exact h1
  ·exact(wo _ _ (qJj.1 hc).1).trans hc
theorem quh (hs:HSim B X){z:Blk}{o:Obj}(hd:X.h[s]?=some .dead)(hmen:s∉qc7 X.h)(hz:jw (X.slot s z o) s z):HSim B (X.slot s z o):=by
 have hm:=qpI hs (s:=s) (z:=z) (o:=o);have hsl:=qu hd;have himp:B.imps.length<=s:=by
  rcases qJl s B.imps.length with h|h
  ·obtain⟨k,h1,h2⟩:=hs.impc s h;rw[hd] at h1;cases h1;cases h2
  ·exact h
 have hget:∀b k',(X.slot s z o).h[b]?=some k'->b≠s/\X.h[b]?=some k'\/b=s/\k'=z:=by
  intro b k' h;by_cases hb:b=s
  ·subst hb;have:(X.h.set b z)[b]?=some k':=h;rw[qJv hsl] at this;exact .inr ⟨rfl,(qJX this).symm⟩
  ·have:(X.h.set s z)[b]?=some k':=h;rw[qJf (fun e=>hb e.symm)] at this;exact .inl ⟨hb,this⟩
 have hσ:∀b,b≠s->(X.slot s z o).σ b=X.σ b:=fun b hb=>by simp[Ctx.slot,hb]
 have hσn:(X.slot s z o).σ s=some X.w.heap.size:=by simp[Ctx.slot]
 have hold:∀n,n<X.w.heap.size->(X.slot s z o).w.heap[n]?=X.w.heap[n]?:=fun n hn=>wo _ _ hn;have hsize:X.w.heap.size<=(X.slot s z o).w.heap.size:=by show _<=(X.w.alloc o).heap.size;simp
 have hown:∀b n,(X.slot s z o).own b n->X.own b n\/b=s/\n=X.w.heap.size:=by
  intro b n ⟨h1,k',h2,h3⟩;rcases hget b k' h2 with⟨hb,h4⟩|⟨rfl,rfl⟩
  ·exact .inl ⟨by rw[<-hσ b hb];exact h1,k',h4,h3⟩
  ·rw[hσn] at h1;exact .inr ⟨rfl,(qJX h1).symm⟩
 constructor
 ·intro b k' h;rcases hget b k' h with⟨hb,h4⟩|⟨rfl,rfl⟩
  ·by_cases hdd:k'=.dead
   ·subst hdd;trivial
   ·have:=jw.move hm.toMove0 (b':=b) (hσ b hb) (fun n hn=>hold n (hs.lt h4 hdd hn)) (hs.blk b k' h4)
    rwa [Blk.ren_void k' (qnt hmen h4)] at this
  ·exact hz
 ·intro b b' n h h';rcases hown b n h with h1|⟨g1,g2⟩
  ·rcases hown b' n h' with h2|⟨g3,g4⟩
   ·exact hs.inj b b' n h1 h2
   ·exact absurd (Ctx.own.lt hs h1) (by omega)
  ·rcases hown b' _ h' with h2|⟨g3,_⟩
   ·exact absurd (Ctx.own.lt hs h2) (by omega)
   ·rw[g1,g3]
 ·intro b n h hM;rcases hown b n h with h1|⟨g1,g2⟩
  ·exact hs.notM b n h1 hM
  ·exact absurd (hs.ltM _ hM) (by omega)
 ·intro n h;have:=hs.ltM n h;omega
 ·exact hs.M0
 ·exact hs.newM
 ·exact hs.os
 ·exact hs.tape
 ·exact hs.output
 ·have:=hs.size;omega
 ·intro n hn hni;have:=hs.size;rw[hold _ (by omega)];exact hs.frame n hn hni
 ·intro b hb;rw[hσ b (by omega)];exact hs.imps b hb
 ·intro b hb;obtain⟨cs,h,hc⟩:=hs.impc b hb;exact⟨cs,by show (X.h.set s z)[b]?=_;rw[qJf (by omega)];exact h,hc⟩
 ·intro b n h hb;rcases hown b n h with h1|⟨g1,g2⟩
  ·exact hs.fresh b n h1 hb
  ·have:=hs.size;omega
 ·intro p hp;obtain⟨q1,q2,q3⟩:=hs.kept p hp;exact⟨(hold _ (qJj.1 q1).1).trans q1,q2,q3⟩
theorem qyT {P:Program}(hE:E.tok P)(hs:HSim B X){t:TypeId}{z:Blk}(hz:qeD E t=some z)(hd:X.h[s]?=some .dead)(hmen:s∉qc7 X.h) :∃o:Obj,((do pure (.value (<-Instr.alloc t true (.tuple #[]))):Sem Next)).run P X.w=.ok (.value (.pointer (some ⟨X.w.heap.size,0,none⟩))) (X.w.alloc o)/\HSim B (X.slot s z o)/\Move X (X.slot s z o) (qcb s) /\Rep (X.slot s z o) (.ptr s 0) (.pointer (some ⟨X.w.heap.size,0,none⟩)):=by
 have hsl:=qu hd;have hptr:∀o,Rep (X.slot s z o) (.ptr s 0) (.pointer (some ⟨X.w.heap.size,0,none⟩)):=fun o=>.ptr _ _ _ (by simpa[Ctx.slot] using hsl) (by simp[Ctx.slot]);unfold qeD at hz;split at hz
 ·rename_i o k n hb;split at hz
  ·cases hz;obtain⟨b1,b2,b3,b4,_⟩:=qhg hb;obtain⟨v,h1,h2,_⟩:=qdT hE (t:=t) (by omega) X.w;refine⟨.cells v.cells t,by simp[Instr.alloc,h1,q9O],quh hs hd hmen ?_,qpI hs,hptr _⟩;exact⟨X.w.heap.size,v.cells,t,(E.ty t).zero.take o,by simp[Ctx.slot],wt _ _,jL _ _,by rw[h2];exact qm8 hb,qo4 _ _⟩
  ·cases hz
 ·split at hz
  ·rename_i hc;cases hz;obtain⟨v,h1,h2,_⟩:=qdT hE (t:=t) (by simpa using hc.2) X.w;refine⟨.cells v.cells t,by simp[Instr.alloc,h1,q9O],quh hs hd hmen ?_,qpI hs,hptr _⟩;exact⟨X.w.heap.size,v.cells,t,by simp[Ctx.slot],wt _ _,by rw[h2];exact jL _ _⟩
  ·cases hz
theorem qsh {P:Program}(hE:E.tok P){st:St}{a:Act}(hs:Sim E B X st a){o:Oper}{t:TypeId}(hop:o.op=.alloc t){z:Blk}(hz:qeD E t=some z)(hd:st.h[s]?=some .dead)(hmen:s∉qc7 st.h) (ht:s∉AV.menL st.t) (hf:s∉qkX st.fs) {next:Act->World->Prop} {Q:Exit->Act->World->Prop}(hq:∀X' v,Sim E B X' { st with h:=st.h.set s z } a->Rep X' (.ptr s 0) v->next (a.put o.dst v) X'.w):o.wp P a X.w next Q:=by
 rw[<-hs.h] at hd hmen;obtain⟨ob,h1,h2,h3,h4⟩:=qyT hE hs.hs hz hd hmen;unfold Oper.wp;have hrun:(execOp a.eval o).run P X.w=.ok (.value (.pointer (some ⟨X.w.heap.size,0,none⟩))) (X.w.alloc ob):=by rw[<-h1];simp only[execOp,hop]
 rw[hrun];refine hq (X.slot s z ob) _ ⟨h2,?_,?_,?_,fun x hx=>?_,h3.kept▸hs.df,hs.ni,h3.y.trans hs.y,fun p hp=>h3.kept▸hs.pin p hp⟩ h4
 ·show X.h.set s z=st.h.set s z;rw[hs.h]
 ·have:=hs.t.ren h3.toMove0
  rwa [AV.renL_void _ ht] at this
 ·have:=hs.fs.ren h3.toMove0
  rwa [qlG _ hf] at this
 ·obtain⟨⟨sh,l,i,off,he⟩,hr⟩:=hs.glob x hx;refine⟨⟨sh,l,i,off,he⟩,hr.move h3.M h3.w ?_⟩;have:=hr.1.ren h3.toMove0;rw[he] at this ⊢;exact this
theorem Sim.pad {st:St}{a:Act}(hs:Sim E B X st a):∃X',X'.w=X.w/\Sim E B X' { st with h:=st.h++[.dead] } a:=by
 have hw:=PushW.same X;have hs1:=HSim.push hs.hs (k:=.dead) hw trivial;have:=hs.ext (Ctx.push_ext hs.hs .dead hw) hs1;refine⟨X.pushW .dead none X.w,rfl,?_⟩;have e:(X.pushW .dead none X.w).h=st.h++[.dead]:=by rw[<-hs.h];rfl
 rw[e] at this;exact this
theorem Sim.padN{E:Env}{B:Base}{a:Act}:∀(n:Nat) {X:Ctx} {st:St},Sim E B X st a->∃X',X'.w=X.w/\Sim E B X' { st with h:=st.h++List.replicate n .dead } a
 | 0,X,st,hs=>⟨X,rfl,by simpa using hs⟩
 | n+1,X,st,hs=>by
  obtain⟨X1,h1,h2⟩:=hs.pad;obtain⟨X2,h3,h4⟩:=Sim.padN n h2;refine⟨X2,h3.trans h1,?_⟩;have e:st.h++[.dead]++List.replicate n .dead=st.h++List.replicate (n+1) .dead:=by simp[qKG]
  simp only at h4;rw[e] at h4;exact h4
end Go.Eng

namespace Go.Eng
variable {E:Env}{args:List AV}{b:Nat}{h:List Blk}{op:Op}
theorem stL{all:Array Oper}{V:Nat->AV}{T0:List AV}{L L':Nat->Bool}:∀n,(∀j,j<n->L j=L' j)->TLp (uf all) V T0 L n=TLp (uf all) V T0 L' n
 | 0,_=>rfl
 | n+1,h=>by
  simp only[TLp];rw[h n (qL4 n),stL n fun j hj=>h j (by omega)]
theorem qv3 {all:Array Oper}(hd:DrawOk all){listed:Array Bool}(hsz:listed.size=all.size)(h:Region.ready .any all listed=[]):∀i,i<all.size->listed.getD i false=true:=by
 intro i;induction i using Nat.strongRecOn with
 | _ i ih=>
  intro hi;cases hl:listed.getD i false with
  | true=>rfl
  | false=>
   have ho:all[i]?=some all[i]:=qL0 hi;have:i∈Region.ready .any all listed:=by
    rw[mem_ready];refine⟨?_,all[i],ho,fun e he hb=>?_⟩
    ·have hi':i<listed.size:=by omega
     simpa[qKD,hi'] using hl
    ·have hlt:=hd.edge i _ ho e (by simpa using he) hb;exact ih e.on hlt (by omega)
   rw[h] at this;cases this
theorem qlW {all:Array Oper}{listed:Array Bool}{i:Nat}{o:Oper}(hsz:listed.size=all.size)(ho:all[i]?=some o)(hc:qmy all fun j=>listed.getD j false)(hedge:∀e,e∈o.after.toList->Region.binds .any e=true->listed.getD e.on false=true):qmy all fun j=>(listed.setIfInBounds i true).getD j false:=by
 have hi:i<listed.size:=by rw[hsz];exact(qJj.1 ho).1
 intro j oj hj hL e he hb;show (listed.setIfInBounds i true).getD e.on false=true;rw[q1c hi];split
 ·rfl
 ·by_cases hji:j=i
  ·subst hji;rw[ho] at hj;cases hj;exact hedge e he hb
  ·have hL':(listed.setIfInBounds i true).getD j false=true:=hL;rw[q1c hi,if_neg hji] at hL';exact hc j oj hj hL' e he hb
theorem q9M {b c:Nat}(hb:b≠c):(zR h c)[b]?=h[b]?:=by
 unfold zR;split
 ·rw[qJf (fun e=>hb e.symm)]
 ·rfl
theorem qes{b:Nat}:∀(l:List Nat) (h:List Blk),b∉l->(qO h l)[b]?=h[b]?
 | [],_,_=>rfl
 | c::l,h,hb=>by
  simp only[qJi,not_or] at hb;simp only[qO];rw[qes l _ hb.2,q9M hb.1]
theorem qm3{b:Nat}:∀(l:List Nat) (h:List Blk),b∉l->(qbI h l)[b]?=h[b]?
 | [],_,_=>rfl
 | c::l,h,hb=>by
  simp only[qJi,not_or] at hb;simp only[qbI];split
  ·rw[qm3 l _ hb.2,qJf (fun e=>hb.1 e.symm)]
  ·exact qm3 l _ hb.2
theorem qos{b:Nat}:∀(l:List Nat) (h:List Blk) (ks:List Blk) (h':List Blk),q1g h l ks=some h'->b∉l->h'[b]?=h[b]?
 | [],h,ks,h',hp,_=>by cases ks<;>(simp only[q1g,qJc] at hp;rw[hp])
 | c::l,h,[],h',hp,_=>by simp[q1g] at hp
 | c::l,h,k::ks,h',hp,hb=>by
  simp only[qJi,not_or] at hb;simp only[q1g] at hp;split at hp
  ·cases hq:q1g h l ks with
   | none=>rw[hq] at hp;cases hp
   | some h2=>
    rw[hq] at hp;simp only[qJR,qJc] at hp;rw[<-hp,qJf (fun e=>hb.1 e.symm)];exact qos l h ks h2 hq hb.2
  ·cases hp
theorem qh6{b:Nat}:∀(l:List Nat),b∈qiI l->b∈l
 | [],h=>h
 | a::l,h=>by
  simp only[qiI] at h;split at h
  ·exact qJy _ (qh6 l h)
  ·rcases qJi.1 h with rfl|h
   ·exact qJs
   ·exact qJy _ (qh6 l h)
mutual
theorem qDk:∀(a:AV) (h h':List Blk),(a.lend h).men=(a.lend h').men
 | .vec b,h,h'=>by
  have:∀h,((AV.vec b).lend h).men=[]:=fun h=>by simp only[AV.lend];split<;>rfl
  rw[this,this]
 | .agg cs,h,h'=>by simp only[AV.lend,AV.men];exact qkI cs h h'
 | .tuple cs,h,h'=>by simp only[AV.lend,AV.men];exact qkI cs h h'
 | .undef,_,_|.yld,_,_|.skip,_,_|.blit _,_,_|.bool _,_,_|.ilit _ _,_,_|.int _ _,_,_|.str _,_,_|.nilp,_,_|.ptr _ _,_,_|.eptr _ _ _ _,_,_|.mptr _ _ _ _ _,_,_|.vptr _ _ _,_,_|.vsub _ _,_,_|.aptr _ _ _,_,_|.asub _ _ _ _ _,_,_|.bagg _ _ _ _,_,_|.nils,_,_|.imm _ _,_,_|.full _ _,_,_|.nilf,_,_|.fn _ _ _,_,_=>rfl
theorem qkI:∀(l:List AV) (h h':List Blk),AV.menL (AV.lendL h l)=AV.menL (AV.lendL h' l)
 | [],_,_=>rfl
 | a::l,h,h'=>by simp only[AV.lendL,AV.menL];rw[qDk a h h',qkI l h h']
end
theorem qpS {G:zE}{st:St}{r:AV×St}(h:(q16 G args st).run=some r)(hb:b<st.h.length)(hw:b∉qmC st.h args):r.2.h[b]?=st.h[b]?:=by
 unfold q16 at h;unfold qmC at hw;simp only[qJG,not_or] at hw;obtain⟨⟨w1,w2⟩,w3⟩:=hw;have hpre:(vM st.h args)[b]?=st.h[b]?:=by unfold vM;simp only;rw[qm3 _ _ w3,qes _ _ w2,qes _ _ w1]
 simp only at h;split at h
 ·cases h
 ·obtain⟨r0,h1,h2⟩:=bind_some h;split at h2
  ·cases h2
  ·rename_i hput;cases h2;have hfp:b∉qiI (AV.menL (AV.lendL (vM st.h args) args)):=by intro hm;have hm:=qh6 _ hm;rw[qkI args (vM st.h args) (qO st.h (args.flatMap we))] at hm;exact w3 hm
   have:=qos _ _ _ _ hput hfp;rw[hpre] at this;have hl:st.h[b]?=some st.h[b]:=qJk hb;rw[hl] at this;rw[qJp (qu this),this,hl]
theorem qs4 {ev:Operand->AV}{q:FuncId×List AV}(h:jI ev op=some q):qgl op=true/\∃x args tys first caps,op=.call { callee:=.value x,args:=args,argTypes:=tys }/\ev x=.fn q.1 first caps/\q.2=first++args.toList.map ev++caps:=by
 unfold jI at h;split at h
 ·rename_i x args tys;split at h
  ·rename_i f first caps hx
   cases h;exact⟨rfl,x,args,tys,first,caps,rfl,hx,rfl⟩
  ·cases h
 ·cases h
theorem brR {α:Type}{b:Bool}{t:Tree α}{r:α}(h:(Tree.br b t .fail).run=some r):b=true/\t.run=some r:=by
 cases b
 ·cases h
 ·exact⟨rfl,h⟩
theorem yx:∀(l:List Nat) (h:List Blk),(qO h l).length=h.length
 | [],_=>rfl
 | c::l,h=>by
  simp only[qO];rw[yx l];unfold zR;split<;>simp
theorem qsS (hb:b∈args.flatMap we):b∈AV.menL args:=by obtain⟨a,ha,hb⟩:=qLj.1 hb;exact qnm ha (qrx a b hb)
theorem qAH {h h':List Blk}{s:Sh}{a:AV}(hv:qC0 a=true):toU h s a=toU h' s a:=by cases a<;>first|(cases hv;done)|(cases s<;>rfl)
theorem qly{h h':List Blk}:∀(sh:List Sh) (azz:List AV),azz.all qC0=true->qnC h sh azz=qnC h' sh azz
 | [],[],_=>rfl
 | [],_::_,_=>rfl
 | _::_,[],_=>rfl
 | s::sh,a::azz,hv=>by
  simp only[qLe,qJx] at hv;simp only[qnC];rw[qAH (h':=h') hv.1,qly (h':=h') sh azz hv.2]
theorem qDt {p:AV->Bool}{l:List AV}(h:l.all p=true)(n:Nat):(l.take n).all p=true:=by rw[qJL] at h ⊢;exact fun x hx=>h x (qLo hx)
theorem qDY {p:AV->Bool}{l:List AV}(h:l.all p=true)(n:Nat):(l.drop n).all p=true:=by rw[qJL] at h ⊢;exact fun x hx=>h x (qLp hx)
theorem qou{h h':List Blk}{sh:List Sh}:∀(n:Nat) (cs:List AV),cs.all qC0=true->qhB h sh n cs=qhB h' sh n cs
 | 0,[],_=>rfl
 | 0,_::_,_=>rfl
 | n+1,cs,hv=>by
  simp only[qhB];rw[qly (h':=h') _ _ (qDt hv _),qou (h':=h') n _ (qDY hv _)]
theorem qu2 {t:TypeId}{p v:AV}{r:Res}(hr:(q0h E h t p v).run=some r) :∃b x,p.men=[b]/\r=(.skip,h.set b x,none)/\∀h',h'[b]?=h[b]?->(q0h E h' t p v).run=some (.skip,h'.set b x,none):=by
 have plain:∀{p:AV} {r:Res},(qe3 E h t p v).run=some r->∃b x,p.men=[b]/\r=(.skip,h.set b x,none)/\∀h',h'[b]?=h[b]?->(qe3 E h' t p v).run=some (.skip,h'.set b x,none):=by
  intro p r hr;unfold qe3 at hr;simp only at hr;split at hr
  case isFalse=>cases hr
  rename_i hc;cases p<;>simp only at hr<;>first|(cases hr;done)|skip
  case ptr b off=>
   split at hr
   case h_2=>cases hr
   split at hr
   case isFalse=>cases hr
   rename_i cs hb hc2;cases hr;refine⟨b,_,rfl,rfl,fun h' e=>?_⟩;unfold qe3;simp only;rw[if_pos hc,e,hb];simp only;rw[if_pos hc2];rfl
  case vptr b i off=>
   split at hr
   case h_2=>cases hr
   split at hr
   case isFalse=>cases hr
   split at hr
   case h_2=>cases hr
   rename_i e0 sh l hb hm _ us hu;cases hr;refine⟨b,_,rfl,rfl,fun h' e=>?_⟩;unfold qe3;simp only;have hu':qnC h' ((sh.drop off).take v.cells.length) v.cells=some us:=by
    rw[<-hu];refine qly _ _ (qJL.2 fun x hx=>?_);cases x<;>first|rfl|skip
    rename_i b';exact absurd (qnm hx (b:=b') (by simp[AV.men])) (by rw[List.isEmpty_iff.1 hm];simp)
   rw[if_pos hc,e,hb];simp only;rw[if_pos hm,hu'];rfl
 unfold q0h at hr;split at hr
 ·rename_i b off;split at hr
  ·rename_i cs k n l hb;unfold qsz at hr;split at hr
   ·split at hr
    case isFalse=>cases hr
    rename_i hc;cases hr;refine⟨b,_,rfl,rfl,fun h' e=>?_⟩;unfold q0h;simp only[e,hb];unfold qsz;simp only;rw[if_pos hc];rfl
   ·rename_i hno;split at hr
    case isFalse=>cases hr
    rename_i hc;have fin:∀(x:Blk),(qsz E h t b off cs k n l v).run=some (.skip,h.set b x,none)->(∀h':List Blk,(qsz E h' t b off cs k n l v).run=some (.skip,h'.set b x,none))->∃b_1 x_1,(AV.ptr b off).men=[b_1]/\((AV.skip,h.set b x,none):Res)=(.skip,h.set b_1 x_1,none)/\∀h',h'[b_1]?=h[b_1]?->(q0h E h' t (.ptr b off) v).run=some (.skip,h'.set b_1 x_1,none):=by intro x _ h2;refine⟨b,x,rfl,rfl,fun h' e=>?_⟩;unfold q0h;simp only[e,hb];exact h2 h'
    split at hr
    ·rename_i hle;cases hr;refine⟨b,_,rfl,rfl,fun h' e=>?_⟩;unfold q0h;simp only[e,hb];unfold qsz;cases v<;>first|exact absurd rfl (hno _ _ _ _)|(simp only;rw[if_pos hc,hle];rfl)
    ·rename_i hle;split at hr
     case h_2=>cases hr
     split at hr
     case isFalse=>cases hr
     rename_i k' x hx hc2;cases hr;refine⟨b,_,rfl,rfl,fun h' e=>?_⟩;unfold q0h;simp only[e,hb];unfold qsz;cases v<;>first|exact absurd rfl (hno _ _ _ _)|(simp only;rw[if_pos hc,hle];simp only[hx];rw[if_pos hc2];rfl)
  ·rename_i hno;obtain⟨b',x,h1,h2,h3⟩:=plain hr;refine⟨b',x,h1,h2,fun h' e=>?_⟩;simp only[AV.men,qKK,and_true] at h1;subst h1;unfold q0h;simp only;rw[e];split
   ·rename_i cs k n l hb;exact absurd hb (hno _ _ _ _)
   ·exact h3 h' e
 ·rename_i b o i;split at hr
  case h_2=>cases hr
  split at hr
  case h_2=>cases hr
  split at hr
  case isFalse=>cases hr
  rename_i cs k n l hb _ k' x hx hc;obtain⟨g1,g2⟩:=brR hr;cases g2;refine⟨b,_,rfl,rfl,fun h' e=>?_⟩;unfold q0h;simp only[e,hb,hx];rw[if_pos hc];simp only[Tree.run,g1]
 ·rename_i hn1 hn2;obtain⟨b',x,h1,h2,h3⟩:=plain hr;refine⟨b',x,h1,h2,fun h' e=>?_⟩;unfold q0h;split
  ·rename_i b off;exact absurd rfl (hn1 _ _)
  ·rename_i b o i;exact absurd rfl (hn2 _ _ _)
  ·exact h3 h' e
theorem qnG {h h':List Blk}{ev:Operand->AV}{v:AV}(hr:(qlJ E h ev op).run=some (v,h'))(hb:b<h.length)(hw:b∉qvX h ev op):h'[b]?=h[b]?:=by
 unfold qlJ at hr;unfold qvX at hw;cases hc:jI ev op with
 | some q=>
  obtain⟨f,args⟩:=q;rw[hc] at hr hw;simp only at hr hw;cases hs:qga E f with
  | none=>rw[hs] at hr;cases hr
  | some G=>
   rw[hs] at hr;obtain⟨r,h1,h2⟩:=bind_some hr;cases h2;exact qpS (st:={ t:=[],fs:=[],h:=h,pend:=none }) h1 hb hw
 | none=>
  rw[hc] at hr hw;simp only at hr hw;cases hst:qlN op with
  | true=>
   rw[hst] at hr;obtain⟨r,h1,h2⟩:=bind_some hr;cases op<;>first|(cases hst;done)|skip
   rename_i t x y;simp only at hw;obtain⟨b',z,q1,rfl,_⟩:=qu2 (show (q0h E h t (ev x) (ev y)).run=some r from h1);cases h2;rw[q1] at hw;exact qJf (fun e=>hw (by simp[e]))
  | false=>rw[hst] at hr;cases hr
theorem qpZ {f g:Operand->AV}(hfg:∀x∈op.operands.toList,f x=g x):jI f op=jI g op:=by
 unfold jI;split
 ·rename_i x args tys;rw[hfg x (by simp[Op.operands,Call.operands])];have:args.toList.map f=args.toList.map g:=qKI fun y hy=>hfg y (by simp only[Op.operands,Call.operands,qLi];exact qJY _ hy);rw[this]
 ·rfl
theorem qow {f g:Operand->AV}(hfg:∀x∈op.operands.toList,f x=g x):qjH E h f op=qjH E h g op/\qlJ E h f op=qlJ E h g op:=by
 have hc:=qpZ hfg;constructor
 ·unfold qjH;rw[hc]
 ·unfold qlJ;rw[hc];cases jI g op with
  | some q=>rfl
  | none=>
   simp only;cases hs:qlN op with
   | true=>
    cases op<;>first|(cases hs;done)|skip
    rename_i t x y;have e:qny E h f (.store t x y)=qny E h g (.store t x y):=by unfold qny;simp only;rw[hfg x (by simp[Op.operands]),hfg y (by simp[Op.operands])]
    simp only[e]
   | false=>rfl
theorem qwJ {P:Program}(hE:E.tok P)(hS:E.specs P){B:Base}{X:Ctx}{st:St}{a:Act}(hs:Sim E B X st a){o:Oper}{av:AV}{h':List Blk}(h:(qlJ E st.h (E.opd st.t) o.op).run=some (av,h')) {next:Act->World->Prop} {Q:Exit->Act->World->Prop}(hq:∀X' v,Sim E B X' { st with h:=h' } a->Rep X' av v->next (a.put o.dst v) X'.w):o.wp P a X.w next Q/\∀c,o.op≠.defer c:=by
 unfold qlJ at h;cases hcl:jI (E.opd st.t) o.op with
 | some q=>
  obtain⟨f,aargs⟩:=q;rw[hcl] at h;simp only at h;obtain⟨_,x,args,tys,first,caps,hop,hx,ha⟩:=qs4 hcl;simp only at hx ha;refine⟨?_,fun c hc=>by rw[hop] at hc;cases hc⟩;cases hsp:qga E f with
  | none=>rw[hsp] at h;cases h
  | some G=>
   rw[hsp] at h;obtain⟨r,h1,h2⟩:=bind_some h;simp only[Tree.run,qJc,qJO] at h2;obtain⟨rfl,rfl⟩:=h2;unfold qga at hsp;cases hf:E.spec.find? fun x=>x.1==f with
   | none=>rw[hf] at hsp;cases hsp
   | some G'=>
    rw[hf] at hsp;simp only[qJR,qJc] at hsp;subst hsp;have hG:=hS.sp G' (qK7 hf);have hfe:G'.1=f:=by simpa using qKy hf
    rw[hfe] at hG;have hv:=q8l hs x;rw[hx] at hv;generalize hev:a.eval x=vx at hv;cases hv with
    | fn _ _ _ vf vc q1 q2=>
     have hargs:=q4q hs args.toList;have hall:RepL X aargs (vf++args.toList.map a.eval++vc):=by rw[ha];exact(q1.append hargs).append q2
     have hcs:(q16 G'.2 aargs st).run=some (r.1,{ st with h:=r.2.h }):=by
      unfold q16 at h1 ⊢;simp only at h1 ⊢;split at h1
      ·cases h1
      ·obtain⟨r0,k1,k2⟩:=bind_some h1;rw[Tree.run_bind,k1];simp only[qJH];split at k2
       ·cases k2
       ·cases k2;rfl
     have g2:=q7x hG hs hall hcs;have g1:=hG.1 (vf++args.toList.map a.eval++vc).toArray;unfold Oper.wp;have hrun:(execOp a.eval o).run P X.w=.ok (.enter f (vf++args.toList.map a.eval++vc).toArray) X.w:=by
      simp only[execOp,hop,resolve,hev,Deferred.ofValue,qJh,qJN,qJn,invoke];have:vf.toArray++args.map a.eval++vc.toArray=(vf++args.toList.map a.eval++vc).toArray:=by apply qKz;simp
      rw[this];exact g1 X.w
     rw[hrun];refine g2.mono fun e w' ⟨v,X',e1,e2,e3,e4⟩=>?_;subst e1 e2;exact hq X' _ e4 e3
 | none=>
  rw[hcl] at h;simp only at h;have hop:(qny E st.h (E.opd st.t) o.op).run=some (av,h',none)/\∀c,o.op≠.defer c:=by
   cases hst:qlN o.op with
   | true=>
    rw[hst] at h;obtain⟨r,h1,h3⟩:=bind_some h;refine⟨?_,fun c hc=>by rw[hc] at hst;cases hst⟩;split at h3
    ·rename_i hn;simp only[Tree.run,qJc,qJO] at h3;rw[h1];obtain⟨r1,r2,r3⟩:=r;simp only at hn h3;rw[hn,h3.1,h3.2]
    ·cases h3
   | false=>rw[hst] at h;cases h
  refine⟨?_,hop.2⟩;obtain⟨nx,v,X',g1,g2,g3,g4,g5⟩:=qjz hE hs hop.1;have hs2:Sim E B X' { st with h:=h' } a:=by have:=hs.ext g5.2 g4;rw[g5.1] at this;exact this
  unfold Oper.wp;rw[g1];rcases g2 with rfl|⟨rfl,rfl⟩
  ·exact hq X' _ hs2 g3
  ·exact hq X' _ hs2 g3
mutual
theorem qCD:∀(a:AV) (h:List Blk) (b:Nat),b∈(a.lend h).men->b∈a.men
 | .vec c,h,b,hb=>by
  simp only[AV.lend] at hb;split at hb<;>cases hb
 | .agg cs,h,b,hb=>by simp only[AV.lend,AV.men] at hb ⊢;exact qdD cs h b hb
 | .tuple cs,h,b,hb=>by simp only[AV.lend,AV.men] at hb ⊢;exact qdD cs h b hb
 | .undef,_,_,hb|.yld,_,_,hb|.skip,_,_,hb|.blit _,_,_,hb|.bool _,_,_,hb|.ilit _ _,_,_,hb|.int _ _,_,_,hb|.str _,_,_,hb|.nilp,_,_,hb|.ptr _ _,_,_,hb|.eptr _ _ _ _,_,_,hb|.mptr _ _ _ _ _,_,_,hb|.vptr _ _ _,_,_,hb|.vsub _ _,_,_,hb|.aptr _ _ _,_,_,hb|.asub _ _ _ _ _,_,_,hb|.bagg _ _ _ _,_,_,hb|.nils,_,_,hb|.imm _ _,_,_,hb|.nilf,_,_,hb|.fn _ _ _,_,_,hb=>hb
theorem qdD:∀(l:List AV) (h:List Blk) (b:Nat),b∈AV.menL (AV.lendL h l)->b∈AV.menL l
 | [],_,_,hb=>hb
 | a::l,h,b,hb=>by
  simp only[AV.lendL,AV.menL,qJG] at hb ⊢;exact hb.imp (qCD a h b) (qdD l h b)
end
theorem qgK {h h':List Blk}{s c:Nat}{k:Blk}(hl:h'.length=h.length)(hc:c≠s->h'[c]?=h[c]?):(h'.set s k)[c]?=(h.set s k)[c]?:=by
 by_cases e:c=s
 ·subst e;simp only[List.getElem?_set,if_true,hl]
 ·rw[qJf (fun e'=>e e'.symm),qJf (fun e'=>e e'.symm)];exact hc e
theorem qzi {h h':List Blk}{b c:Nat}(hl:h'.length=h.length)(hc:h'[c]?=h[c]?):(zR h' b)[c]?=(zR h b)[c]?:=by
 by_cases e:c=b
 ·subst e;unfold zR;rw[hc];split
  ·exact qgK hl fun h=>absurd rfl h
  ·exact hc
 ·rw[q9M e,q9M e,hc]
theorem qh4{c:Nat}:∀(l:List Nat) (h h':List Blk),h'.length=h.length->h'[c]?=h[c]?->(qO h' l)[c]?=(qO h l)[c]?
 | [],_,_,_,hc=>hc
 | b::l,h,h',hl,hc=>qh4 l _ _ (by have:=yx [b] h;have:=yx [b] h';simp only[qO] at *;omega) (qzi hl hc)
theorem qw2{p q:Nat->Bool}:∀{l:List Nat},(∀b,b∈l->p b=q b)->l.all p=l.all q
 | [],_=>rfl
 | a::l,h=>by simp only[qLe];rw[h a qJs,qw2 fun b hb=>h b (qJy _ hb)]
theorem qkh{b:Nat}{cs:List AV}:∀(l:List Nat) (h:List Blk),(qO h l)[b]?=some (.cells cs)->h[b]?=some (.cells cs)
 | [],_,hc=>hc
 | a::l,h,hc=>by
  have:=qkh l _ hc;by_cases e:b=a
  ·subst e;unfold zR at this;split at this
   ·rename_i hk;rw[qJv (qu hk)] at this;cases this
   ·exact this
  ·rwa [q9M e] at this
theorem qkU{h:List Blk}{b c:Nat}{k:Blk}(hk:h[b]?=some k)(hc:c∈k.menB):∀(l:List Nat),b∈l->c∈qwz h l
 | a::l,hb=>by
  simp only[qwz,qJG];rcases qJi.1 hb with rfl|hb
  ·rw[hk];exact .inl hc
  ·exact .inr (qkU hk hc l hb)
theorem qoS{h h':List Blk}:∀(l:List Nat),(∀b,b∈l->h'[b]?=h[b]?)->q7H h' l=q7H h l
 | [],_=>rfl
 | b::l,H=>by
  simp only[q7H];rw[H b qJs,qoS l fun c hc=>H c (qJy _ hc)]
theorem qnJ{h h':List Blk}:∀(l:List Nat),(∀b,b∈l->h'[b]?=h[b]?)->q64 h' l=q64 h l
 | [],_=>rfl
 | b::l,H=>by
  simp only[q64];rw[H b qJs,qnJ l fun c hc=>H c (qJy _ hc)]
theorem qqT{h h':List Blk}(hl:h'.length=h.length):∀(l:List Nat) (ks g:List Blk),q1g h l ks=some g->g.length=h.length/\∃g':List Blk,q1g h' l ks=some g'/\g'.length=h.length/\∀c:Nat,h'[c]?=h[c]?->g'[c]?=g[c]?
 | [],_,g,hg=>by cases hg;exact⟨rfl,h',rfl,hl,fun _ h=>h⟩
 | b::l,[],g,hg=>by cases hg
 | b::l,k::ks,g,hg=>by
  simp only[q1g] at hg ⊢;split at hg
  case isFalse=>cases hg
  rename_i hk;cases hp:q1g h l ks with
  | none=>rw[hp] at hg;cases hg
  | some g0=>
   rw[hp] at hg;simp only[qJR,qJc] at hg;subst hg;obtain⟨q0,g',q1,q2,q3⟩:=qqT hl l ks g0 hp;refine⟨by simp[q0],g'.set b k,by rw[if_pos hk,q1];rfl,by simp[q2],fun c hc=>qgK (by rw[q0,q2]) fun _=>q3 c hc⟩
theorem qho:∀(l:List Nat) (h:List Blk),(qbI h l).length=h.length
 | [],_=>rfl
 | b::l,h=>by
  simp only[qbI];split
  ·rw[qho l];simp
  ·rw[qho l]
theorem qju{R:List Nat}:∀(l:List Nat) (h h':List Blk),h'.length=h.length->(∀b,b∈R->h'[b]?=h[b]?)->(∀b,b∈l->b∈R/\∀cs,h[b]?=some (.cells cs)->∀c,c∈AV.menL cs->c∈R) ->
  ∀b,b∈R->(qbI h' l)[b]?=(qbI h l)[b]?
 | [],_,_,_,H,_=>H
 | a::l,h,h',hl,H,hR=>by
  obtain⟨ha,hcs⟩:=hR a qJs;have hR':=fun b hb=>hR b (qJy _ hb);simp only[qbI];rw[H a ha];cases hk:h[a]? with
  | none=>exact qju l h h' hl H hR'
  | some k=>
   cases k<;>simp only<;>first|exact qju l h h' hl H hR'|skip
   rename_i cs;have hm:=hcs cs hk;rw[q1S cs fun c hc=>H c (hm c hc)];refine qju l _ _ (by simp[hl]) (fun b hb=>qgK hl fun _=>H b hb) fun b hb=>⟨(hR' b hb).1,fun cs' hcs' c hc=>?_⟩;by_cases e:b=a
   ·subst e;rw[qJv (qu hk)] at hcs';cases hcs';exact hm c (qdD cs h c hc)
   ·rw[qJf (fun e'=>e e'.symm)] at hcs';exact(hR' b hb).2 cs' hcs' c hc
theorem qvE {G:zE}{h h':List Blk}{R:List Nat}(hl:h'.length=h.length)(H:∀b,b∈R->h'[b]?=h[b]?)(h1:∀b,b∈AV.menL args->b∈R)(h2:∀b,b∈qwz (qO h (args.flatMap we)) (AV.menL (AV.lendL (qO h (args.flatMap we)) args))->b∈R) {r:AV×St} (hr:(q16 G args { t:=[],fs:=[],h:=h,pend:=none }).run=some r) :qmC h' args=qmC h args/\∃g',(q16 G args { t:=[],fs:=[],h:=h',pend:=none }).run=some (r.1,{ t:=[],fs:=[],h:=g',pend:=none })/\g'.length=r.2.h.length/\∀b,b∈R->b<h.length->g'[b]?=r.2.h[b]?:=by
 have l1:(qO h' (args.flatMap we)).length=(qO h (args.flatMap we)).length:=by rw[yx,yx,hl]
 have H1:∀b,b∈R->(qO h' (args.flatMap we))[b]?=(qO h (args.flatMap we))[b]?:=fun b hb=>qh4 _ _ _ hl (H b hb);have e1:AV.lendL (qO h' (args.flatMap we)) args=AV.lendL (qO h (args.flatMap we)) args:=q1S args fun b hb=>H1 b (h1 b hb);have hfp:∀b,b∈AV.menL (AV.lendL (qO h (args.flatMap we)) args)->b∈R:=fun b hb=>h1 b (qdD args _ b hb);have e2:=qoS (h:=qO h (args.flatMap we)) (h':=qO h' (args.flatMap we)) _ fun b hb=>H1 b (hfp b hb);have hw:qmC h' args=qmC h args:=by unfold qmC;simp only[e1,e2]
 have Hp:∀b,b∈R->(vM h' args)[b]?=(vM h args)[b]?:=by unfold vM;simp only[e1,e2];refine qju _ _ _ (by simp only[yx,hl]) (fun b hb=>qh4 _ _ _ l1 (H1 b hb)) fun b hb=>⟨hfp b hb,fun cs hcs c hc=>?_⟩;refine h2 c (qkU (k:=.cells cs) (b:=b) ?_ hc _ hb);exact qkh _ _ hcs
 have lp:(vM h' args).length=(vM h args).length:=by unfold vM;simp only[qho,yx,hl]
 refine⟨hw,?_⟩;unfold q16 at hr ⊢;simp only at hr ⊢;have e3:AV.lendL (vM h' args) args=AV.lendL (vM h args) args:=q1S args fun b hb=>Hp b (h1 b hb);have hfp2:∀b,b∈qiI (AV.menL (AV.lendL (vM h args) args))->b∈R:=fun b hb=>h1 b (qdD args _ b (qh6 _ hb));rw[e3,qnJ _ fun b hb=>Hp b (hfp2 b hb),lp];split at hr
 ·cases hr
 ·obtain⟨r0,k1,k2⟩:=bind_some hr;split at k2
  ·cases k2
  ·rename_i g hput;cases k2;obtain⟨q0,g',q1,q2,q3⟩:=qqT lp _ _ _ hput;refine⟨g'++(r0.2.drop (qiI (AV.menL (AV.lendL (vM h args) args))).length).map (Blk.ren (qmJ (qiI (AV.menL (AV.lendL (vM h args) args))) (vM h args).length)),?_,?_,fun b hb hbl=>?_⟩
   ·rw[Tree.run_bind,k1];simp only[qJH,q1];rfl
   ·simp[q2,q0]
   ·have hbg:b<g.length:=by rw[q0];unfold vM;simp only[qho,yx];exact hbl
    rw[qJp (by rw[q2,<-q0];exact hbg),qJp hbg];exact q3 b (Hp b hb)
theorem qvr {h h' g:List Blk}{ev:Operand->AV}{v:AV}(hr:(qlJ E h ev op).run=some (v,g))(hl:h'.length=h.length)(H:∀b,b∈qBP h ev op++qvX h ev op->h'[b]?=h[b]?)(hg:g.length=h.length) :∃g',(qlJ E h' ev op).run=some (v,g')/\g'.length=h'.length/\(∀b,b∈qvX h ev op->g'[b]?=g[b]?)/\∀b,b∉qvX h ev op->g'[b]?=h'[b]?:=by
 have out:∀{h g:List Blk},(qlJ E h ev op).run=some (v,g)->g.length=h.length->∀b,b∉qvX h ev op->g[b]?=h[b]?:=by
  intro h g hr hg b hb;rcases qJl b h.length with hlt|hge
  ·exact qnG hr hlt hb
  ·rw[qJC hge,qJC (by omega)]
 suffices hs:qvX h' ev op=qvX h ev op/\∃g',(qlJ E h' ev op).run=some (v,g')/\g'.length=g.length/\∀b,b∈qvX h ev op->g'[b]?=g[b]? by obtain⟨e,g',q1,q2,q3⟩:=hs;refine⟨g',q1,by omega,q3,fun b hb=>out q1 (by omega) b (by rw[e];exact hb)⟩
 unfold qlJ at hr ⊢;unfold qBP qvX at H;unfold qvX;cases hc:jI ev op with
 | some q=>
  obtain⟨f,args⟩:=q;rw[hc] at hr H;simp only at hr H ⊢;cases hsp:qga E f with
  | none=>rw[hsp] at hr;cases hr
  | some G=>
   rw[hsp] at hr;simp only at hr ⊢;obtain⟨r,k1,k2⟩:=bind_some hr;simp only[Tree.run,qJc,qJO] at k2;obtain⟨rfl,rfl⟩:=k2;obtain⟨e,g',q1,q2,q3⟩:=qvE hl H (fun b hb=>qKb _ (qKb _ hb)) (fun b hb=>qKb _ (qJY _ hb)) k1;refine⟨e,g',by rw[Tree.run_bind,q1];rfl,q2,fun b hb=>?_⟩;rcases qJl b h.length with hlt|hge
   ·exact q3 b (qJY _ hb) hlt
   ·rw[qJC (by omega),qJC (by omega)]
 | none=>
  rw[hc] at hr H;simp only at hr H ⊢;cases hst:qlN op with
  | false=>rw[hst] at hr;cases hr
  | true=>
   rw[hst] at hr;simp only at hr ⊢;obtain⟨r,k1,k2⟩:=bind_some hr;cases op<;>first|(cases hst;done)|skip
   rename_i t x y;obtain⟨b',z,q1,rfl,q3⟩:=qu2 (show (q0h E h t (ev x) (ev y)).run=some r from k1);simp only[Tree.run,qJc,qJO] at k2;obtain⟨rfl,rfl⟩:=k2;refine⟨trivial,h'.set b' z,?_,by simp[hl],fun b hb=>qgK hl fun _=>H b (qJY _ hb)⟩;rw[Tree.run_bind];have:=q3 h' (H b' (qJY _ (by simp only;rw[q1];exact List.mem_singleton_self _)));unfold qny;simp only;rw[this];rfl
theorem qDp {h h':List Blk}{ev:Operand->AV}(he:qjH E h ev op=true)(H:∀b,b∈qBP h ev op++qvX h ev op->h'[b]?=h[b]?):qjH E h' ev op=true:=by
 unfold qjH at *;unfold qBP at H;cases hv:qgl op with
 | false=>rw[hv] at he;exact he
 | true=>
  rw[hv] at he;simp only at he ⊢;cases hc:jI ev op with
  | none=>rw[hc] at he;cases he
  | some q=>
   obtain⟨f,args⟩:=q;rw[hc] at he H;simp only at he H ⊢;have hm:∀b,b∈AV.menL args->h'[b]?=h[b]?:=fun b hb=>H b (qKb _ (qKb _ hb));rw[q1S args hm];have:(args.flatMap we).all (qjf h')=(args.flatMap we).all (qjf h):=qw2 fun b hb=>by unfold qjf;rw[hm b (qsS hb)]
   rw[this];exact he
end Go.Eng

namespace Go.Eng
theorem qua{s:Nat}:∀(l:List AV) (i:Nat) (v:AV),s∉AV.menL l->s∉v.men->s∉AV.menL (l.set i v)
 | [],_,_,h,_=>by simpa using h
 | a::l,0,v,h,hv=>by
  simp only[AV.menL,qJG,not_or] at h;simp only[qJu,AV.menL,qJG,not_or];exact⟨hv,h.2⟩
 | a::l,i+1,v,h,hv=>by
  simp only[AV.menL,qJG,not_or] at h;simp only[qJw,AV.menL,qJG,not_or];exact⟨h.1,qua l i v h.2 hv⟩
theorem qC4{dst:Nat->Option Tmp}{V:Nat->AV}{T0:List AV}{L:Nat->Bool}{s:Nat}(h0:s∉AV.menL T0):∀n,(∀j,j<n->L j=true->s∉(V j).men)->s∉AV.menL (TLp dst V T0 L n)
 | 0,_=>h0
 | n+1,h=>by
  have ih:=qC4 (dst:=dst) (V:=V) (L:=L) h0 n fun j hj=>h j (by omega);simp only[TLp];split
  ·rename_i hl;cases hd:dst n with
   | none=>exact ih
   | some d=>exact qua _ _ _ ih (h n (qL4 n) hl)
  ·exact ih
theorem qBc{all:Array Oper}{k:Nat}{v:AV}{s:Nat}(h:s∉v.men):s∉(qvm all k v).men:=by
 unfold qvm;split
 ·split
  ·simp[AV.men]
  ·exact h
 ·exact h
theorem qrR{n:Nat}(i:Nat):(Array.replicate n false).getD i false=false:=by rcases qJl i n with h|h<;>simp[h]
theorem qEt(listed:Array Bool):∀n,unl listed n<=n
 | 0=>qJe _
 | n+1=>by simp only[unl];have:=qEt listed n;split<;>omega
theorem qCR(all:Array Oper):kT all<=all.size:=by
 unfold kT;simp only;cases hf:(List.range all.toList.length).find? _ with
 | none=>simp
 | some m=>
  have:=qK7 hf;simp at this;simp;omega
theorem qlM(all:Array Oper){i j:Nat}(hj:kT all<=j)(hjn:j<all.size)(hij:i<j):((qfx all.toList).getD j 0).testBit i=true:=by
 unfold kT at hj;simp only at hj;cases hf:(List.range all.toList.length).find? (fun m=>(List.range all.toList.length).all fun j=>decide (j<m)||(List.range j).all fun i=>((qfx all.toList).getD j 0).testBit i) with
 | none=>rw[hf] at hj;simp at hj;omega
 | some m=>
  rw[hf] at hj;simp only[qKq] at hj;have h:=qKy hf;rw[qJL] at h;have h2:=h j (qKu.2 (by simpa using hjn));simp only[qKJ,decide_eq_true_eq,qJL,qKu] at h2;rcases h2 with h2|h2
  ·omega
  ·exact h2 i hij
section
variable {E:Env} {P:Program} {B:Base} {all:Array Oper} {Q:Exit->Act->World->Prop} {callH:q8G} {n0:Nat}
theorem qBx(hE:E.tok P)(hcH:CallOK E P callH B)(hd:DrawOk all){st':St}(hq:∀X' a',Sim E B X' st' a'->Q .normal a' X'.w):∀(l:List Oper) (i:Nat),all.toList.drop i=l->kT all<=i ->∀(fuel:Nat) (listed:Array Bool) (X:Ctx) (a:Act) (st:St),listed.size=all.size->(∀j,j<i->j<all.size->listed.getD j false=true)->(∀j,i<=j->listed.getD j false=false)->unl listed all.size<=fuel ->Sim E B X st a->(qjg E callH all i l st).run=some st'->wpAnyIn (q50 B.ro) n0 P .any all Q fuel listed a X.w:=by
 intro l;induction l with
 | nil=>
  intro i hl hm fuel listed X a st hsz hlo hhi hun hs h;simp only[qjg,Tree.run,qJc] at h;subst h;have hi:all.size<=i:=by simpa using List.drop_eq_nil_iff.1 hl
  have hr:Region.ready .any all listed=[]:=by
   apply List.eq_nil_iff_forall_not_mem.2;intro j hj;rw[mem_ready] at hj;obtain⟨q1,o',q2,_⟩:=hj;have hj':=(qJj.1 q2).1;have hjt:=hlo j (by omega) hj';have hj2:j<listed.size:=by omega
   rw[qKD,qL0 hj2] at hjt q1;simp only[qKq] at hjt q1;rw[hjt] at q1;cases q1
  cases fuel with
  | zero=>exact⟨hr,hq X a hs⟩
  | succ fuel=>exact⟨fun _=>hq X a hs,fun j hj=>by rw[hr] at hj;cases hj⟩
 | cons o rest ih=>
  intro i hl hm fuel listed X a st hsz hlo hhi hun hs h;have hin:i<all.size:=by
   rcases qJl i all.size with h1|h1
   ·exact h1
   ·rw[qKZ (by simpa using h1)] at hl;cases hl
  have ho:all[i]?=some o:=by have:=qKh (xs:=all.toList) (i:=i) (j:=0);rw[hl] at this;simpa using this.symm
  have hrest:all.toList.drop (i+1)=rest:=by rw[<-List.drop_drop,hl];rfl
  have hil:i<listed.size:=by omega
  have hcl:qmy all fun j=>listed.getD j false:=by
   intro j oj hj hL e he hb;have hj':=(qJj.1 hj).1;have hji:j<i:=by
    rcases qJl j i with h1|h1
    ·exact h1
    ·have hL':listed.getD j false=true:=hL;rw[hhi j h1] at hL';cases hL'
   have:=hd.edge j oj hj e he hb;exact hlo e.on (by omega) (by omega)
  have hpos:0<unl listed all.size:=by
   rcases qKj (unl listed all.size) with h0|h0
   ·have:=qsI h0 i hin;rw[hhi i (qJe _)] at this;cases this
   ·exact h0
  obtain⟨fuel,rfl⟩:∃f,fuel=f+1:=⟨fuel-1,by omega⟩;have hLi:=hhi i (qJe _);have hone:∀j,j∈Region.ready .any all listed->j=i:=by
   intro j hj;rw[mem_ready] at hj;obtain⟨q1,oj,q2,gedge⟩:=hj;have hj':=(qJj.1 q2).1;have hj2:j<listed.size:=by omega
   have hLj:listed.getD j false=false:=by simpa[qKD,hj2] using q1
   rcases Nat.lt_trichotomy j i with h1|h1|h1
   ·rw[hlo j h1 hj'] at hLj;cases hLj
   ·exact h1
   ·have hedge':∀e,e∈oj.after.toList->Region.binds .any e=true->listed.getD e.on false=true:=fun e he hb=>gedge e (by simpa using he) hb;have hcl':=qlW hsz q2 hcl hedge';have hb':=qlM all (by omega) hj' h1;have:=qr3 hd hcl' j i (by show (listed.setIfInBounds j true).getD j false=true;rw[q1c hj2,if_pos rfl]) hb';have h':(listed.setIfInBounds j true).getD i false=true:=this;rw[q1c hj2,if_neg (by omega),hLi] at h';cases h'
  refine⟨fun hr=>?_,fun j hj=>?_⟩
  ·
   exfalso;have:=qv3 hd hsz hr i hin;rw[hLi] at this;cases this
  ·obtain rfl:=hone j hj;have hgo:∀(X'':Ctx) (a'':Act) (s'':St),Sim E B X'' s'' a''->(qjg E callH all (j+1) rest s'').run=some st'->wpAnyIn (q50 B.ro) n0 P .any all Q fuel (listed.setIfInBounds j true) a'' X''.w:=by
    intro X'' a'' s'' hs'' h'';refine ih (j+1) hrest (by omega) fuel _ X'' a'' s'' (by simp[hsz]) (fun k hk hk2=>?_) (fun k hk=>?_) ?_ hs'' h''
    ·rw[q1c hil];split
     ·rfl
     ·exact hlo k (by omega) hk2
    ·rw[q1c hil,if_neg (by omega)];exact hhi k (by omega)
    ·have:=(qvy hil hLi all.size).2 hin;omega
   simp only[qjg] at h;unfold wpOpIn;rw[ho];simp only;cases hwa:q6b all o st.t with
   | none=>rw[hwa] at h;cases h
   | some b=>
    rw[hwa] at h;rw[q9C hs.t hwa];cases b with
    | true=>
     simp only[if_true];obtain⟨s1,k1,k2⟩:=bind_some h;obtain⟨s2,k3,k4⟩:=bind_some k2;exact qmF hE hcH hs k1 fun X'' a'' hs''=>hgo X'' a'' s2 (qpi hs'' k3) k4
    | false=>
     simp only[qJA,if_false];exact⟨fun _ _=>trivial,hgo X _ (qBL o st) (hs.put (av:=.skip) .skip o.dst) h⟩
end
theorem qx0(h h':List Blk):qc7 (h++h')=qc7 h++qc7 h':=by
 induction h with
 | nil=>rfl
 | cons k h ih=>simp[qc7,ih]
theorem qyd{zs:List Blk}(h:∀z,z∈zs->z.menB=[]){s:Nat}:s∉qc7 zs:=by
 induction zs with
 | nil=>intro h;cases h
 | cons z zs ih=>
  simp only[qc7,qJG,not_or];exact⟨by rw[h z qJs];simp,ih fun z hz=>h z (qJy _ hz)⟩
end Go.Eng

namespace Go.Eng
variable {B:Base}{E:Env}{P:Program}{X:Ctx}{a:Act}{args:List AV}{b:Nat}{e:TypeId}{f:FuncId}{h:List Blk}{k:Nat}{o:Oper}{op:Op}{s:Nat}{sh:List Sh}{st:St}
theorem HSim.renum {X X':Ctx}{f:Nat->Option Nat}(hs:HSim B X)(hm:Move X X' f)(hw:X'.w=X.w)(hM:X'.M=X.M)(g:Nat->Nat)(hget:∀b k,X'.h[b]?=some k->k=.dead\/(X.h[g b]?=some k/\X'.σ b=X.σ (g b)/\k.ren f=k))(hinj:∀b b',g b=g b'->b=b'\/X'.h[b]?=some .dead\/X'.h[b']?=some .dead)(hi:∀b,b<B.imps.length->X'.σ b=X.σ b/\X'.h[b]?=X.h[b]?) (hg:∀b,B.imps.length<=b->B.imps.length<=g b):HSim B X':=by
 have hown:∀b n,X'.own b n->X.own (g b) n:=by
  intro b n ⟨h1,k,h2,h3⟩;rcases hget b k h2 with rfl|⟨q1,q2,_⟩
  ·cases h3
  ·exact⟨q2▸h1,k,q1,h3⟩
 constructor
 ·intro b k h;rcases hget b k h with rfl|⟨q1,q2,q3⟩
  ·trivial
  ·by_cases hd:k=.dead
   ·subst hd;trivial
   ·have:=jw.move hm.toMove0 (b':=b) q2 (fun n _=>by rw[hw]) (hs.blk (g b) k q1)
    rwa [q3] at this
 ·intro b b' n h h';rcases hinj b b' (hs.inj _ _ n (hown b n h) (hown b' n h')) with e|e|e
  ·exact e
  ·obtain⟨_,k,q1,q2⟩:=h;rw[e] at q1;cases q1;cases q2
  ·obtain⟨_,k,q1,q2⟩:=h';rw[e] at q1;cases q1;cases q2
 ·intro b n h;rw[hM];exact hs.notM _ n (hown b n h)
 ·intro n h;rw[hM] at h;rw[hw];exact hs.ltM n h
 ·intro n h;rw[hM];exact hs.M0 n h
 ·intro n h;rw[hM] at h;exact hs.newM n h
 ·rw[hw];exact hs.os
 ·rw[hw];exact hs.tape
 ·rw[hw];exact hs.output
 ·rw[hw];exact hs.size
 ·intro n h1 h2;rw[hw];exact hs.frame n h1 h2
 ·intro b hb;rw[(hi b hb).1];exact hs.imps b hb
 ·intro b hb;rw[(hi b hb).2];exact hs.impc b hb
 ·intro b n h hb;exact hs.fresh _ n (hown b n h) (hg b hb)
 ·intro p hp;rw[hm.kept] at hp;rw[hw];exact hs.kept p hp
theorem not_imp (hs:HSim B X){k:Blk}(h:X.h[b]?=some k)(hk:k.solid=false):B.imps.length<=b:=by
 rcases qJl b B.imps.length with hb|hb
 ·obtain⟨k',h1,h2⟩:=hs.impc b hb;rw[h] at h1;cases h1;rw[hk] at h2;cases h2
 ·exact hb
def Ctx.alias(X:Ctx)(b s:Nat)(k:Blk):Ctx:={ σ:=fun x=>if x=s then X.σ b else X.σ x,h:=(X.h.set b .dead).set s k,w:=X.w,M:=X.M,kept:=X.kept,y:=X.y }
theorem quq {b s:Nat}{k:Blk}(hb:b<X.h.length)(hsl:s<X.h.length)(x:Nat):(X.alias b s k).h[x]?=if x=s then some k else if x=b then some .dead else X.h[x]?:=by
 show ((X.h.set b .dead).set s k)[x]?=_;by_cases h1:x=s
 ·subst h1;rw[if_pos rfl,qJv (by simpa using hsl)]
 ·rw[if_neg h1,qJf (fun e=>h1 e.symm)];by_cases h2:x=b
  ·subst h2;rw[if_pos rfl,qJv hb]
  ·rw[if_neg h2,qJf (fun e=>h2 e.symm)]
theorem qrh (hs:HSim B X){b s:Nat}{l:R}(hb:X.h[b]?=some (.vec e sh l))(hd:X.h[s]?=some .dead)(hmen:s∉qc7 X.h) :HSim B (X.alias b s (.vec e sh l))/\Move X (X.alias b s (.vec e sh l)) (qcb s)/\∀v,Rep X (.vec b) v->Rep (X.alias b s (.vec e sh l)) (.vec s) v:=by
 have hbl:=qu hb;have hsl:=qu hd;have hbs:b≠s:=fun he=>by rw[he,hd] at hb;cases hb
 have hget:=fun x=>quq (X:=X) (k:=.vec e sh l) hbl hsl x;have hlen:(X.alias b s (.vec e sh l)).h.length=X.h.length:=by simp[Ctx.alias]
 have hm:Move X (X.alias b s (.vec e sh l)) (qcb s):=by
  refine Move.of (fun _ h=>h) (fun _ _=>rfl) (fun b1 b2 hb1 h=>?_);have hne:b1≠s:=by intro e;subst e;simp[qcb] at h
  have:b2=b1:=by simp[qcb,hne] at h;exact h.symm
  subst this;refine⟨by rw[hlen];exact hb1,by simp[Ctx.alias,hne],fun sh1 m ⟨e1,l1,h1,h2⟩=>?_,fun _ _ _ n _ c T fr hc=>⟨c,T,fr,hc,rfl⟩⟩;rw[hget,if_neg hne] at h1;by_cases h3:b2=b
  ·rw[if_pos h3] at h1;rcases h1 with h1|h1<;>cases h1
  ·rw[if_neg h3] at h1;exact⟨e1,l1,h1,h2⟩
 refine⟨hs.renum hm rfl rfl (fun x=>if x=s then b else x) (fun x k h=>?_) (fun x x' h=>?_) (fun x hx=>?_) (fun x hx=>?_),hm,fun v hv=>?_⟩
 ·rw[hget] at h;by_cases h1:x=s
  ·rw[if_pos h1] at h;cases h;right;rw[if_pos h1];exact⟨hb,by simp[Ctx.alias,h1],rfl⟩
  ·rw[if_neg h1] at h;by_cases h2:x=b
   ·rw[if_pos h2] at h;cases h;exact .inl rfl
   ·rw[if_neg h2] at h;right;rw[if_neg h1];exact⟨h,by simp[Ctx.alias,h1],Blk.ren_void k (qnt hmen h)⟩
 ·by_cases h1:x=s
  ·by_cases h2:x'=s
   ·exact .inl (h1.trans h2.symm)
   ·rw[if_pos h1,if_neg h2] at h;right;right;rw[hget,if_neg h2,if_pos h.symm]
  ·by_cases h2:x'=s
   ·rw[if_neg h1,if_pos h2] at h;right;left;rw[hget,if_neg h1,if_pos h]
   ·rw[if_neg h1,if_neg h2] at h;exact .inl h
 ·have h1:=not_imp hs hb rfl;have h2:=not_imp hs hd rfl;exact⟨by simp[Ctx.alias,show x≠s by omega],by rw[hget,if_neg (by omega),if_neg (by omega)]⟩
 ·have h1:=not_imp hs hb rfl;split<;>omega
 ·cases hv with
  | vec _ p n c hlt h=>
   refine .vec s p n c (by rw[hlen];exact hsl) fun sh' m ⟨e',l',q1,q2⟩=>?_;rw[hget,if_pos rfl] at q1;have q3:e'=e/\sh'=sh/\l'=l:=by
    rcases q1 with q1|q1
    ·cases q1;exact⟨rfl,rfl,rfl⟩
    ·cases q1
   obtain⟨rfl,rfl,rfl⟩:=q3;have:=h sh' m ⟨e',l',.inl hb,q2⟩;unfold qtd at this ⊢;have hσ:(X.alias b s (.vec e' sh' l')).σ s=X.σ b:=by simp[Ctx.alias]
   rw[hσ];exact this
theorem qys (hs:HSim B X){h':List Blk}(hX:X.h=h'++[.dead])(hmen:h'.length∉qc7 h') :HSim B { X with h:=h' }/\Move X { X with h:=h' } (qcb h'.length):=by
 have hget:∀(x:Nat) (k:Blk),h'[x]?=some k->X.h[x]?=some k:=fun x k h=>by rw[hX,qJp (qu h)];exact h
 have hm:Move X { X with h:=h' } (qcb h'.length):=by
  refine Move.of (fun _ h=>h) (fun _ _=>rfl) (fun b1 b2 hb1 h=>?_);have hne:b1≠h'.length:=by intro e;subst e;simp[qcb] at h
  have:b2=b1:=by simp[qcb,hne] at h;exact h.symm
  subst this;rw[hX] at hb1;simp only[qJB,qJM,qKr] at hb1;refine⟨by show b2<h'.length;omega,rfl,fun sh1 m ⟨e1,l1,h1,h2⟩=>⟨e1,l1,?_,h2⟩,fun _ _ _ n _ c T fr hc=>⟨c,T,fr,hc,rfl⟩⟩;exact h1.elim (fun h=>.inl (hget _ _ h)) (fun h=>.inr (hget _ _ h))
 refine⟨hs.renum hm rfl rfl id (fun x k h=>.inr ⟨hget x k h,rfl,Blk.ren_void k (qnt hmen h)⟩) (fun x x' h=>.inl h) (fun x hx=>⟨rfl,?_⟩) (fun x hx=>hx),hm⟩;obtain⟨k,h1,h2⟩:=hs.impc x hx;have hxl:x<h'.length:=by
  rcases qJl x h'.length with h|h
  ·exact h
  ·rw[hX,qJz h] at h1;rcases qKR h with h|h
   ·rw[<-h] at h1;simp at h1;subst h1;cases h2
   ·rw[qJC (by simp;omega)] at h1;cases h1
 show h'[x]?=X.h[x]?;rw[hX,qJp hxl]
theorem Sim.moved {X X':Ctx}(hs:Sim E B X st a)(h2:HSim B X')(h3:Move X X' (qcb s))(ht:s∉AV.menL st.t)(hf:s∉qkX st.fs):Sim E B X' { st with h:=X'.h } a:=by
 refine⟨h2,rfl,?_,?_,fun x hx=>?_,h3.kept▸hs.df,hs.ni,h3.y.trans hs.y,fun p hp=>h3.kept▸hs.pin p hp⟩
 ·have:=hs.t.ren h3.toMove0
  rwa [AV.renL_void _ ht] at this
 ·have:=hs.fs.ren h3.toMove0
  rwa [qlG _ hf] at this
 ·obtain⟨⟨sh,l,i,off,he⟩,hr⟩:=hs.glob x hx;refine⟨⟨sh,l,i,off,he⟩,hr.move h3.M h3.w ?_⟩;have:=hr.1.ren h3.toMove0;rw[he] at this ⊢;exact this
theorem Rep.voided {X X':Ctx}{s b:Nat}{v:Value}(h:Move X X' (qcb s))(hr:Rep X (.vec b) v)(hne:b≠s):Rep X' (.vec b) v:=by have:=hr.ren h.toMove0;simpa[AV.ren,qcb,hne] using this
theorem qkn {s c:Nat}{k:Blk}(hk:k.menB=[])(hc:c∉qc7 h):c∉qc7 (h.set s k):=by
 induction h generalizing s with
 | nil=>exact hc
 | cons a h ih=>
  simp only[qc7,qJG,not_or] at hc;cases s with
  | zero=>simp only[qJu,qc7,hk,qKm];exact hc.2
  | succ s=>simp only[qJw,qc7,qJG,not_or];exact⟨hc.1,ih hc.2⟩
theorem qmt{c:Nat}:∀(l:List Nat) {h:List Blk},h[c]?=some .dead->(qO h l)[c]?=some .dead
 | [],_,hc=>hc
 | a::l,h,hc=>qmt l (by
  by_cases e:c=a
  ·subst e;unfold zR;rw[hc];exact hc
  ·rw[q9M e,hc])
theorem qfU{c:Nat}:∀(l:List Nat) {h:List Blk},c∉qc7 h->c∉qc7 (qO h l)
 | [],_,hc=>hc
 | a::l,h,hc=>qfU l (by
  unfold zR;split
  ·exact qkn rfl hc
  ·exact hc)
theorem qxn {l:R}{v:Value}(hs:Sim E B X { st with h:=h++[.vec e sh l] } a)(hv:Rep X (.vec h.length) v)(hd:h[s]?=some .dead) (h1:s∉qc7 h) (h2:s∉AV.menL st.t) (h3:s∉qkX st.fs) (n1:h.length∉qc7 h) (n2:h.length∉AV.menL st.t) (n3:h.length∉qkX st.fs) :∃X',X'.w=X.w/\Sim E B X' { st with h:=h.set s (.vec e sh l) } a/\Rep X' (.vec s) v:=by
 have hsl:=qu hd;have hX:X.h=h++[.vec e sh l]:=hs.h;have hb:X.h[h.length]?=some (.vec e sh l):=by rw[hX,qJz (qJe _)];simp
 have hd':X.h[s]?=some .dead:=by rw[hX,qJp hsl];exact hd
 have hm':s∉qc7 X.h:=by rw[hX,qx0];simp[qc7,Blk.menB];exact h1
 obtain⟨g1,g2,g3⟩:=qrh hs.hs hb hd' hm';have s1:=hs.moved g1 g2 h2 h3;have hA:(X.alias h.length s (.vec e sh l)).h=h.set s (.vec e sh l)++[.dead]:=by show (X.h.set h.length .dead).set s (.vec e sh l)=_;rw[hX,List.set_append_right (h:=qJe _),qK3,List.set_append_left (h:=hsl)];rfl
 obtain⟨k1,k2⟩:=qys g1 hA (by simp only[qKE];exact qkn rfl n1);rw[qKE] at k2;have s2:=s1.moved k1 k2 n2 n3;have hne:s≠h.length:=by omega
 exact⟨{ X.alias h.length s (.vec e sh l) with h:=h.set s (.vec e sh l) },rfl,s2,(g3 v hv).voided k2 hne⟩
theorem zH (h:List Blk)(x:AV):(yG h x).length=h.length:=by cases x<;>simp[yG,qcS]
theorem q3d {x:AV}{c:Nat}(hc:c∉x.men):(yG h x)[c]?=h[c]?:=by
 cases x<;>first|rfl|skip
 rename_i b;exact q9M (fun e=>hc (by simp[AV.men,e]))
theorem qk3 {x:AV}{c:Nat}(hc:c∉qc7 h):c∉qc7 (yG h x):=by
 cases x<;>first|exact hc|skip
 rename_i b;show c∉qc7 (zR h b);unfold zR;split
 ·rename_i e sh l _;exact qkn (k:=.frz e sh l) rfl hc
 ·exact hc
theorem qhk {r:Res}(h:qR P B X (execOp a.eval o) r){next:Act->World->Prop}{Q:Exit->Act->World->Prop}(hq:∀X' v,HSim B X'->Rep X' r.1 v->(match r.2.2 with|none=>X'.h=r.2.1/\Ext X X'|some b=>X'.h=r.2.1.map (Blk.ren (qcb b))/\Move X X' (qcb b))->next (a.put o.dst v) X'.w):o.wp P a X.w next Q:=by
 obtain⟨nx,v,X',g1,g2,g3,g4,g5⟩:=h;unfold Oper.wp;rw[g1];rcases g2 with rfl|⟨rfl,rfl⟩
 ·exact hq X' _ g4 g3 g5
 ·exact hq X' _ g4 g3 g5
theorem qDs (hs:s∉qc7 h):h.map (Blk.ren (qcb s))=h:=by
 induction h with
 | nil=>rfl
 | cons k h ih=>
  simp only[qc7,qJG,not_or] at hs;simp only[qKi,Blk.ren_void k hs.1,ih hs.2]
theorem qAo {o:Option Blk}(h:qrq o=true):o=some .dead:=by
 unfold qrq at h;split at h
 ·rfl
 ·cases h
theorem Sim.ext' {X X':Ctx}{h':List Blk}(hs:Sim E B X st a)(hx:Ext X X')(h4:HSim B X')(hh:X'.h=h'):Sim E B X' { st with h:=h' } a:=by have:=hs.ext hx h4;rw[hh] at this;exact this
theorem qyB {x:AV}{m:R}(hr:vT h x=some (sh,m))(hn:qwX b x=true):b∉x.men:=by
 cases x<;>simp only[vT] at hr<;>first|(cases hr;done)|simp[AV.men]
 rename_i b';intro e;subst e;simp[qwX] at hn
theorem quc {h h':List Blk}{x:AV}(H:∀b,b∈x.men->h'[b]?=h[b]?):vT h' x=vT h x:=by cases x<;>simp only[vT];rename_i b;rw[H b (by simp[AV.men])]
mutual
theorem Rep.inB{X:Ctx}:∀{a:AV} {v:Value},Rep X a v->∀b,b∈a.men->b<X.h.length
 | _,_,.undef _,b,h=>by simp[AV.men] at h
 | _,_,.skip,b,h=>by simp[AV.men] at h
 | _,_,.yld,b,h=>by simp[AV.men] at h
 | _,_,.blit _,b,h=>by simp[AV.men] at h
 | _,_,.bool _,b,h=>by simp[AV.men] at h
 | _,_,.ilit _ _,b,h=>by simp[AV.men] at h
 | _,_,.int _ _,b,h=>by simp[AV.men] at h
 | _,_,.str _,b,h=>by simp[AV.men] at h
 | _,_,.nilp,b,h=>by simp[AV.men] at h
 | _,_,.ptr _ _ _ hb _,b,h=>by simp only[AV.men,qJJ] at h;rw[h];exact hb
 | _,_,.eptr _ _ _ _ _ _ _ _ _,b,h=>by simp[AV.men] at h
 | _,_,.mnil _ _ _ _,b,h=>by simp[AV.men] at h
 | _,_,.mptr _ _ _ _ _ _ _ _ _,b,h=>by simp[AV.men] at h
 | _,_,.vptr _ _ _ _ _ hb _ _,b,h=>by simp only[AV.men,qJJ] at h;rw[h];exact hb
 | _,_,.vsub _ _ _ _ _ _ hb _ _,b,h=>by simp only[AV.men,qJJ] at h;rw[h];exact hb
 | _,_,.aptr _ _ _ _ hb _ _,b,h=>by simp only[AV.men,qJJ] at h;rw[h];exact hb
 | _,_,.asub _ _ _ _ _ _ _ _ hb _ _ _ _ _,b,h=>by simp only[AV.men,qJJ] at h;rw[h];exact hb
 | _,_,.nils,b,h=>by simp[AV.men] at h
 | _,_,.imm _ _ _ _,b,h=>by simp[AV.men] at h
 | _,_,.full _ _ _ _ _,b,h=>by simp[AV.men] at h
 | _,_,.vec _ _ _ _ hb _,b,h=>by simp only[AV.men,qJJ] at h;rw[h];exact hb
 | _,_,.nilf,b,h=>by simp[AV.men] at h
 | _,_,.fn _ _ _ _ _ h1 h2,b,h=>by
  simp only[AV.men,qJG] at h;exact h.elim (RepL.inB h1 b) (RepL.inB h2 b)
 | _,_,.agg _ _ h1,b,h=>by simp only[AV.men] at h;exact RepL.inB h1 b h
 | _,_,.tuple _ _ h1,b,h=>by simp only[AV.men] at h;exact RepL.inB h1 b h
 | _,_,.bagg _ _ _ _ _ h1 _,b,h=>by simp only[AV.men] at h;exact RepL.inB h1 b h
theorem RepL.inB{X:Ctx}:∀{l:List AV} {vs:List Value},RepL X l vs->∀b,b∈AV.menL l->b<X.h.length
 | _,_,.nil,b,h=>by simp[AV.menL] at h
 | _,_,.cons h1 h2,b,h=>by
  simp only[AV.menL,qJG] at h;exact h.elim (Rep.inB h1 b) (RepL.inB h2 b)
end
theorem RepLL.inB{X:Ctx}:∀{l:List (List AV)} {vs:List (List Value)},RepLL X l vs->∀b,b∈qkX l->b<X.h.length
 | _,_,.nil,b,h=>by simp[qkX] at h
 | _,_,.cons h1 h2,b,h=>by
  simp only[qkX,qJG] at h;exact h.elim (RepL.inB h1 b) (RepLL.inB h2 b)
theorem qA0{b:Nat}:∀{h:List Blk},b∈qc7 h->∃(i:Nat) (k:Blk),h[i]?=some k/\b∈k.menB
 | [],h=>by cases h
 | k::h,hb=>by
  simp only[qc7,qJG] at hb;rcases hb with hb|hb
  ·exact⟨0,k,rfl,hb⟩
  ·obtain⟨i,k',h1,h2⟩:=qA0 hb;exact⟨i+1,k',by simpa using h1,h2⟩
theorem HSim.inB (hs:HSim B X):∀b,b∈qc7 X.h->b<X.h.length:=by
 intro b hb;obtain⟨i,k,h1,h2⟩:=qA0 hb;have:=hs.blk i k h1;cases k with
 | cells cs=>obtain⟨_,_,_,_,_,hr⟩:=this;exact hr.inB b h2
 | big cs _ _ _=>obtain⟨_,_,_,_,_,_,hr,_⟩:=this;exact hr.inB b h2
 | vec _ _ _=>simp[Blk.menB] at h2
 | frz _ _ _=>simp[Blk.menB] at h2
 | dead=>simp[Blk.menB] at h2
theorem qtl (hS:E.specs P)(h:qGs E f=some e):qlk P f e:=by
 unfold qGs at h;cases hf:E.dels.find? fun x=>x.1==f with
 | none=>rw[hf] at h;cases h
 | some x=>
  rw[hf] at h;simp only[qJR,qJc] at h;have h1:x.1=f:=by simpa using qKy hf
  have:=hS.dl x (qK7 hf);rw[h1,h] at this;exact this
theorem qv1 (_:E.tok P)(_:qlk P f e)(_:HSim B X){vargs:List Value}(_:RepL X args vargs){av:AV}{h':List Blk}(h:(qrc E X.h e args k).run=some (av,h')) (_:X.h[k]?=some .dead) (_:k∉qc7 X.h) :Calls P f vargs.toArray X.w fun x w'=>∃v X',x=.returned v/\X'.w=w'/\Rep X' av v/\HSim B X'/\X'.h=h'/\Move X X' (qcb k):=by unfold qrc at h;cases h
theorem qIm {args:Array Operand}{tys:Array TypeId}(hop:o.op=.call { callee:=.builtin .append,args:=args,argTypes:=tys }) :∃ty cs,execOp a.eval o=builtin .append tys ty cs ((args.toList.map a.eval).toArray):=by
 have hA:args.map a.eval=(args.toList.map a.eval).toArray:=by apply qKz;simp
 refine⟨o.type,args.map fun|.const _=>true|_=>false,?_⟩;unfold execOp;rw[hop,<-hA];rfl
theorem qm2 {xs:List Operand}(h:qld op=some (f,xs)):∃args tys,op=.call { callee:=.value (.func f),args:=args,argTypes:=tys }/\xs=args.toList:=by
 unfold qld at h;split at h
 ·cases h;exact⟨_,_,rfl,rfl⟩
 ·cases h
theorem qCf {args:Array Operand}{tys:Array TypeId}(hop:o.op=.call { callee:=.value (.func f),args:=args,argTypes:=tys })(he:∀args w,(callFunc f args).run P w=.ok (.enter f args) w) {next:Act->World->Prop} {Q:Exit->Act->World->Prop} {K:Value->World->Prop} (hc:Calls P f (args.toList.map a.eval).toArray X.w fun x w'=>∃v,x=.returned v/\K v w')(hq:∀v w',K v w'->next (a.put o.dst v) w'):o.wp P a X.w next Q:=by
 unfold Oper.wp;have hrun:(execOp a.eval o).run P X.w=.ok (.enter f (args.toList.map a.eval).toArray) X.w:=by
  simp only[execOp,hop,resolve,Act.eval,Deferred.ofValue,qJh,qJN,qJn,invoke];have:(#[]:Array Value)++args.map a.eval++#[]=(args.toList.map a.eval).toArray:=by apply qKz;simp
  have h2:=he (args.toList.map a.eval).toArray X.w;rw[<-this] at h2;rw[<-this];exact h2
 rw[hrun];refine hc.mono fun x w' ⟨v,e1,e2⟩=>?_;subst e1;exact hq v w' e2
theorem qsA (hE:E.tok P)(hS:E.specs P){callS:List Blk->q75}(hs:Sim E B X st a){av:AV}{h':List Blk}(h:(q5f E callS st.h (E.opd st.t) o.op s).run=some (av,h')) (hl:qpU E o.op=true) (h1:s∉qc7 st.h) (h2:s∉AV.menL st.t) (h3:s∉qkX st.fs) (n1:st.h.length∉qc7 st.h) (n2:st.h.length∉AV.menL st.t) (n3:st.h.length∉qkX st.fs){next:Act->World->Prop} {Q:Exit->Act->World->Prop} (hq:∀X' v,Sim E B X' { st with h:=h' } a->Rep X' av v->next (a.put o.dst v) X'.w):o.wp P a X.w next Q:=by
 unfold q5f at h;rw[hl] at h;simp only at h;cases hdd:qrq st.h[s]? with
 | false=>rw[hdd] at h;cases h
 | true=>
  rw[hdd] at h;have hd:=qAo hdd;simp only at h;split at h
  ·
   rename_i t len parts hop;obtain⟨r,k1,k2⟩:=bind_some h;simp only[Tree.run,qJc,qJO] at k2;obtain⟨rfl,rfl⟩:=k2;obtain⟨v0,z⟩:=r;have hvz:v0=.vec st.h.length/\∃e sh l,z=.vec e sh l:=by
    have k1:=k1;rw[hop] at k1;unfold qhP at k1;simp only at k1;split at k1
    ·split at k1
     ·split at k1
      ·split at k1
       ·split at k1
        ·cases k1;exact⟨rfl,_,_,_,rfl⟩
        ·cases k1
       ·cases k1
      ·cases k1
     ·cases k1
    ·cases k1
   obtain⟨rfl,e,sh,l,rfl⟩:=hvz;refine qhk (qjz hE hs (qzS k1)) fun X' v g4 g3 g5=>?_;have s1:Sim E B X' { st with h:=st.h++[.vec e sh l] } a:=hs.ext' g5.2 g4 g5.1;obtain⟨X2,e2,s2,r2⟩:=qxn s1 g3 hd h1 h2 h3 n1 n2 n3;rw[<-e2];exact hq X2 v s2 r2
  ·
   rename_i t hop;unfold qt5 at h;split at h
   case h_2=>cases h
   rename_i z hz;split at h
   case h_2=>cases h
   simp only[Tree.run,qJc,qJO] at h;obtain⟨rfl,rfl⟩:=h;exact qsh hE hs hop hz hd h1 h2 h3 hq
  ·
   rename_i args tys hop;obtain⟨ty,cs,hrun⟩:=qIm (a:=a) hop;have hargs:=q4q hs args.toList;unfold qwM at h;generalize args.toList.map (E.opd st.t)=als at h hargs;generalize args.toList.map a.eval=avs at hrun hargs;split at h
   case h_2=>cases h
   rename_i t t' sa xa htys;by_cases htt:t=t'
   ·subst htt;rw[if_pos rfl] at h;cases hargs with
    | cons hsa hargs=>cases hargs with
     | cons hxa hargs=>
     cases hargs;rename_i vs vx;have hrun':execOp a.eval o=(do pure (.value (<-Builtin.append_ #[t,t] ty #[vs,vx])):Sem Next):=by rw[hrun];obtain⟨tys⟩:=tys;simp only at htys;subst htys;rfl
     unfold quu at h;cases htd:(E.ty t).d<;>rw[htd] at h<;>simp only at h<;>first|(cases h;done)|skip
     rename_i e es;obtain⟨ht,rfl⟩:=q1p hE htd;split at h
     case h_2=>cases h
     rename_i sh sh' m hsh hro;by_cases hc:(sh.length=P.cellsOf e/\0<P.cellsOf e/\(E.ty e).zero.length=P.cellsOf e)/\Sh.beqL sh sh'=true
     ·rw[if_pos hc] at h;obtain⟨⟨hc1,hc2,hc4⟩,hbq⟩:=hc;obtain rfl:=Sh.beqL_eq _ _ hbq;obtain⟨i,z,he⟩:=qB6 hE hc2 hc4;split at h
      ·
       obtain⟨g1,g2⟩:=brR h;simp only[Tree.run,qJc,qJO] at g2;obtain⟨rfl,rfl⟩:=g2;have hh:(qkW (qpV (E.ty e).bytes) X.h e sh .nils xa).run=some (.vec X.h.length,yG X.h xa++[.vec e sh m],none):=by unfold qkW;rw[hs.h,hro];simp only;rw[if_pos hbq];simp only[Tree.run,g1]
       have hg:=qdS (ty:=ty) hs.hs ht hc2 hc1 he hsa hxa hh;rw[<-hrun'] at hg;refine qhk hg fun X' v g4 g3 g5=>?_;have hfl:(yG st.h xa).length=st.h.length:=zH _ _;have s1:Sim E B X' { st with h:=yG st.h xa++[.vec e sh m] } a:=hs.ext' g5.2 g4 (by rw[g5.1,hs.h]);rw[hs.h,<-hfl] at g3;have hxs:s∉xa.men:=fun hm=>by
        cases xa<;>simp only[vT] at hro<;>first|(cases hro;done)|(simp[AV.men] at hm;done)|skip
        simp only[AV.men,qJJ] at hm;subst hm;rw[hd] at hro;cases hro
       obtain⟨X2,e2,s2,r2⟩:=qxn s1 g3 (by rw[q3d hxs];exact hd) (qk3 h1) h2 h3 (by rw[hfl];exact qk3 n1) (by rw[hfl];exact n2) (by rw[hfl];exact n3);rw[<-e2];exact hq X2 v s2 r2
      ·
       rename_i b;split at h
       case h_2=>cases h
       rename_i e' sh'' l hbk;by_cases hq2:(Sh.beqL sh sh''=true/\e=e')/\qwX b xa=true
       ·rw[if_pos hq2] at h;obtain⟨⟨hbq2,rfl⟩,hnv⟩:=hq2;obtain rfl:=Sh.beqL_eq _ _ hbq2;obtain⟨g1,g2⟩:=brR h;simp only[Tree.run,qJc,qJO] at g2;obtain⟨rfl,rfl⟩:=g2;have hbx:=qyB hro hnv;have hxs:s∉xa.men:=fun hm=>by
         cases xa<;>simp only[vT] at hro<;>first|(cases hro;done)|(simp[AV.men] at hm;done)|skip
         simp only[AV.men,qJJ] at hm;subst hm;rw[hd] at hro;cases hro
        have hbs:b≠s:=fun he=>by rw[he,hd] at hbk;cases hbk
        have hb':X.h[b]?=some (.vec e sh l):=by rw[hs.h];exact hbk
        have hd':X.h[s]?=some .dead:=by rw[hs.h];exact hd
        obtain⟨a1,a2,a3⟩:=qrh hs.hs hb' hd' (by rw[hs.h];exact h1);have hbl:=qu hbk;have hsl:=qu hd;have ag:∀x,(X.alias b s (.vec e sh l)).h[x]?=if x=s then some (.vec e sh l) else if x=b then some .dead else st.h[x]?:=fun x=>by rw[quq (by rw[hs.h];exact hbl) (by rw[hs.h];exact hsl),hs.h]
        have hxr:vT (X.alias b s (.vec e sh l)).h xa=some (sh,m):=by rw[quc (h:=st.h) fun c hc=>by have z1:c≠s:=fun e=>hxs (e▸hc);have z2:c≠b:=fun e=>hbx (e▸hc);rw[ag,if_neg z1,if_neg z2]];exact hro
        have hxrep:Rep (X.alias b s (.vec e sh l)) xa vx:=by
         have:=hxa.ren a2.toMove0
         rwa [AV.ren_void xa hxs] at this
        have hfin:(yG (X.alias b s (.vec e sh l)).h xa).set s (.vec e sh (uV l m))=((yG st.h xa).set b .dead).set s (.vec e sh (uV l m)):=by
         apply qK9;intro x;by_cases x1:x=s
         ·subst x1;rw[qJv (by rw[zH];simp[Ctx.alias,hs.h];exact hsl),qJv (by simp[zH];exact hsl)]
         ·rw[qJf (fun e=>x1 e.symm),qJf (fun e=>x1 e.symm)];by_cases x2:x=b
          ·subst x2;rw[qJv (by rw[zH];exact hbl),q3d hbx,ag,if_neg x1,if_pos rfl]
          ·rw[qJf (fun e=>x2 e.symm)];cases xa<;>first|(show (X.alias b s (.vec e sh l)).h[x]?=st.h[x]?;rw[ag,if_neg x1,if_neg x2];done)|skip
           rename_i b';have y1:b'≠s:=fun e=>hxs (by simp[AV.men,e]);have y2:b'≠b:=fun e=>hbx (by simp[AV.men,e]);have y3:=ag b';rw[if_neg y1,if_neg y2] at y3;unfold yG zR;simp only[y3];cases hk:st.h[b']? with
           | none=>simp only;rw[ag,if_neg x1,if_neg x2]
           | some k=>
            cases k<;>simp only<;>first|(rw[ag,if_neg x1,if_neg x2];done)|skip
            by_cases x3:x=b'
            ·subst x3;rw[qJv (by simp[Ctx.alias,hs.h];exact qu hk),qJv (qu hk)]
            ·rw[qJf (fun e=>x3 e.symm),qJf (fun e=>x3 e.symm),ag,if_neg x1,if_neg x2]
        have hh:(qkW (qpV (E.ty e).bytes) (X.alias b s (.vec e sh l)).h e sh (.vec s) xa).run=some (.vec s,(yG (X.alias b s (.vec e sh l)).h xa).set s (.vec e sh (uV l m)),some s):=by
         unfold qkW;rw[hxr];simp only;rw[if_pos hbq,ag,if_pos rfl];simp only;rw[if_pos ⟨hbq,trivial⟩];unfold qC6;cases xa<;>simp only[yG]<;>first|(simp only[Tree.run,g1];done)|skip
         rename_i b';rw[if_neg (fun e=>hxs (by simp[AV.men,<-e]))];simp only[Tree.run,g1]
        have hg:=qdS (ty:=ty) a1 ht hc2 hc1 he (a3 _ hsa) hxrep hh;rw[<-hrun'] at hg;have hg':qR P B (X.alias b s (.vec e sh l)) (execOp a.eval o) (.vec s,(yG (X.alias b s (.vec e sh l)).h xa).set s (.vec e sh (uV l m)),some s):=hg;have s0:=hs.moved a1 a2 h2 h3;have hw:(X.alias b s (.vec e sh l)).w=X.w:=rfl;rw[<-hw];refine qhk hg' fun X' v g4 g3 g5=>?_;obtain⟨g5,g6⟩:=g5;simp only at g5 g6;rw[hfin,qDs (qkn rfl (qkn rfl (qk3 h1)))] at g5;have s1:=s0.moved g4 g6 h2 h3;have:({ ({ st with h:=(X.alias b s (.vec e sh l)).h }:St) with h:=X'.h }:St)={ st with h:=((yG st.h xa).set b .dead).set s (.vec e sh (uV l m)) }:=by rw[g5]
        rw[this] at s1;exact hq X' v s1 g3
       ·rw[if_neg hq2] at h;cases h
      ·
       rename_i sh'' l;split at h
       case isFalse=>cases h
       rename_i hbq2;obtain⟨g0,h⟩:=brR h;obtain⟨g1,g2⟩:=brR h;simp only[Tree.run,qJc,qJO] at g2;obtain⟨rfl,rfl⟩:=g2;have hh:(qkW (qpV (E.ty e).bytes) X.h e sh (.full sh'' l) xa).run=some (.vec X.h.length,yG X.h xa++[.vec e sh (uV l m)],none):=by unfold qkW;rw[hs.h,hro];simp only;rw[if_pos hbq,if_pos hbq2];simp only[Tree.run,g0,g1]
       have hg:=qdS (ty:=ty) hs.hs ht hc2 hc1 he hsa hxa hh;rw[<-hrun'] at hg;refine qhk hg fun X' v g4 g3 g5=>?_;have hfl:(yG st.h xa).length=st.h.length:=zH _ _;have s1:Sim E B X' { st with h:=yG st.h xa++[.vec e sh (uV l m)] } a:=hs.ext' g5.2 g4 (by rw[g5.1,hs.h]);rw[hs.h,<-hfl] at g3;have hxs:s∉xa.men:=fun hm=>by
        cases xa<;>simp only[vT] at hro<;>first|(cases hro;done)|(simp[AV.men] at hm;done)|skip
        simp only[AV.men,qJJ] at hm;subst hm;rw[hd] at hro;cases hro
       obtain⟨X2,e2,s2,r2⟩:=qxn s1 g3 (by rw[q3d hxs];exact hd) (qk3 h1) h2 h3 (by rw[hfl];exact qk3 n1) (by rw[hfl];exact n2) (by rw[hfl];exact n3);rw[<-e2];exact hq X2 v s2 r2
      ·cases h
     ·rw[if_neg hc] at h;cases h
   ·rw[if_neg htt] at h;cases h
  ·
   rename_i _ _ hno;clear hno;unfold qsK at h;split at h
   case h_2=>cases h
   rename_i f xs hcf;obtain⟨args,tys,hop,rfl⟩:=qm2 hcf;have hargs:=q4q hs args.toList;split at h
   ·rename_i e hdf;have hD:=qtl hS hdf;rw[<-hs.h] at h hd h1;refine qCf hop hD.1 (K:=fun v w'=>∃X',X'.w=w'/\Rep X' av v/\HSim B X'/\X'.h=h'/\Move X X' (qcb s)) ((qv1 hE hD hs.hs hargs h hd h1).mono fun x w' ⟨v,X',e0,e1,e2,e3,e4,e5⟩=>⟨v,e0,X',e1,e2,e3,e4,e5⟩) fun v w' ⟨X',e1,e2,e3,e4,e5⟩=>?_;subst e1;have:=hs.moved e3 e5 h2 h3;rw[e4] at this;exact hq X' v this e2
   ·unfold qB9 at h;split at h
    case h_2=>cases h
    rename_i G hf;split at h
    case h_2=>cases h
    rename_i hme;obtain⟨r,k1,k2⟩:=bind_some h;split at k2
    case h_2=>cases k2
    rename_i e sh l;simp only[Tree.run,qJc,qJO] at k2;obtain⟨rfl,rfl⟩:=k2;have hG:=hS.sp G (qK7 hf);have hfe:G.1=f:=by simpa using qKy hf
    rw[hfe] at hG;generalize args.toList.map (E.opd st.t)=azz at *;have hmen:AV.menL (AV.lendL (qO st.h (azz.flatMap we)) azz)=[]:=by simpa using hme
    have hcs:(q16 G.2 azz st).run=some (.vec (qO st.h (azz.flatMap we)).length,{ st with h:=qO st.h (azz.flatMap we)++[.vec e sh l] }):=by
     unfold q16;have hpr:vM st.h azz=qO st.h (azz.flatMap we):=by unfold vM;simp only[hmen,q7H,qO,qbI]
     simp only[hpr,hmen,qiI,q64];rw[AV.renL_of_men _ _ hmen,Tree.run_bind,k1];simp only[qJH,q1g,qKr,List.drop_zero,qKi,List.map_nil];rfl
    have hfl:=yx (azz.flatMap we) st.h;refine qCf hop hG.1 (K:=fun v w'=>∃X',X'.w=w'/\Rep X' (.vec (qO st.h (azz.flatMap we)).length) v/\Sim E B X' { st with h:=qO st.h (azz.flatMap we)++[.vec e sh l] } a) ((q7x hG hs hargs hcs).mono fun x w' ⟨v,X',e1,e2,e3,e4⟩=>⟨v,e1,X',e2,e3,e4⟩) fun v w' ⟨X',e1,e2,e3⟩=>?_;subst e1;obtain⟨X2,e4,s2,r2⟩:=qxn e3 e2 (qmt _ hd) (qfU _ h1) h2 h3 (by rw[hfl];exact qfU _ n1) (by rw[hfl];exact n2) (by rw[hfl];exact n3);rw[<-e4];exact hq X2 v s2 r2
def qd7(w:List Nat)(k h:List Blk):List Blk:=h.mapIdx fun b x=>if b∈w then k.getD b .dead else x
theorem qyQ (w:List Nat)(k h:List Blk):(qd7 w k h).length=h.length:=by simp[qd7]
theorem qha {w:List Nat}{k h:List Blk}(hb:b∉w):(qd7 w k h)[b]?=h[b]?:=by
 unfold qd7;rw[List.getElem?_mapIdx];cases h[b]? with
 | none=>rfl
 | some x=>simp[hb]
theorem qg4 {w:List Nat}{k h:List Blk}(hb:b∈w)(hk:k.length=h.length):(qd7 w k h)[b]?=k[b]?:=by
 unfold qd7;rw[List.getElem?_mapIdx];rcases qJl b h.length with hl|hl
 ·rw[qJk hl,qJk (hk▸hl)];simp[hb,qJk (hk▸hl)]
 ·rw[qJC hl,qJC (by omega)];rfl
theorem q2E {w:List Nat}{k h k':List Blk}(hk:k.length=h.length)(h1:∀b,b∈w->k'[b]?=k[b]?)(h2:∀b,b∉w->k'[b]?=h[b]?):k'=qd7 w k h:=by
 apply qK9;intro b;by_cases hb:b∈w
 ·rw[h1 b hb,qg4 hb hk]
 ·rw[h2 b hb,qha hb]
theorem qsd {callS:List Blk->q75}{f g:Operand->AV}(hfg:∀x∈op.operands.toList,f x=g x):q5f E callS h f op k=q5f E callS h g op k:=by
 unfold q5f;cases hl:qpU E op with
 | false=>simp only;rw[qsB hfg,(qow hfg).1,(qow hfg).2]
 | true=>
  simp only;cases qrq h[k]? with
  | false=>rfl
  | true=>
   simp only;split
   ·rw[qtC hfg]
   ·rfl
   ·rename_i args tys;have:args.toList.map f=args.toList.map g:=qKI fun y hy=>hfg y (by simpa[Op.operands,Call.operands] using hy);rw[this]
   ·unfold qsK;cases hc:qld op with
    | none=>rfl
    | some q=>
     obtain⟨fn,xs⟩:=q;obtain⟨args,tys,rfl,rfl⟩:=qm2 hc;have:args.toList.map f=args.toList.map g:=qKI fun y hy=>hfg y (by simp[Op.operands,Call.operands];exact .inr (by simpa using hy));simp only[this]
theorem qw9 {h h':List Blk}{ev:Operand->AV}{t:TypeId}{len:Nat}{ps:Array (Nat×Operand)}(hl:h'.length=h.length):qhP E h' ev (.buildSlice t len ps)=qhP E h ev (.buildSlice t len ps):=by
 unfold qhP;simp only;split
 ·split
  ·split
   ·split
    ·rename_i hc;rw[qou (h':=h) _ _ hc.2,hl]
    ·rfl
   ·rfl
  ·rfl
 ·rfl
theorem qzM {h h':List Blk}{x:AV}{c:Nat}(H:∀b,b∈x.men->h'[b]?=h[b]?)(hc:h'[c]?=h[c]?)(hl:h'.length=h.length):(yG h' x)[c]?=(yG h x)[c]?:=by
 cases x<;>first|exact hc|skip
 rename_i b;have hb:=H b (by simp[AV.men]);show (zR h' b)[c]?=(zR h b)[c]?;unfold zR;rw[hb];split
 ·rename_i e sh l hv;by_cases hcb:c=b
  ·subst hcb;rw[qJv (by rw[hl];exact qu hv),qJv (qu hv)]
  ·rw[qJf (fun e=>hcb e.symm),qJf (fun e=>hcb e.symm)];exact hc
 ·exact hc
theorem qun {h h':List Blk}{t:TypeId}{s x u:AV}{r:List Blk}{R:List Nat}(hR:∀b,(b=k\/b∈s.men\/b∈x.men)->b∈R)(H:∀b,b∈R->h'[b]?=h[b]?)(hl:h'.length=h.length)(hr:(quu E h t s x k).run=some (u,r)):r.length=h.length/\(∀b,b∉R->r[b]?=h[b]?)/\∃r',(quu E h' t s x k).run=some (u,r')/\r'.length=h.length/\(∀b,b∉R->r'[b]?=h'[b]?)/\(∀b,b∈R->r'[b]?=r[b]?):=by
 have hk:∀b,b∉R->b≠k:=fun b hb e=>hb (hR b (.inl e));have hx:∀b,b∉R->b∉x.men:=fun b hb e=>hb (hR b (.inr (.inr e)));have hro:vT h' x=vT h x:=quc fun b hb=>H b (hR b (.inr (.inr hb)));have hfa:∀c,c∈R->(yG h' x)[c]?=(yG h x)[c]?:=fun c hc=>qzM (fun b hb=>H b (hR b (.inr (.inr hb)))) (H c hc) hl;unfold quu at hr ⊢;cases htd:(E.ty t).d<;>rw[htd] at hr<;>simp only at hr ⊢<;>first|(cases hr;done)|skip
 rename_i e es;rw[hro];split at hr
 case h_2=>cases hr
 rename_i sh sh' m hsh hrw;split at hr
 case isFalse=>cases hr
 rename_i hc;split at hr
 ·
  obtain⟨g1,g2⟩:=brR hr;simp only[Tree.run,qJc,qJO] at g2;obtain⟨rfl,rfl⟩:=g2;refine⟨by simp[zH],fun b hb=>?_,(yG h' x).set k (.vec e sh m),?_,by simp[zH,hl],fun b hb=>?_,fun b hb=>?_⟩
  ·rw[qJf (fun e=>hk b hb e.symm),q3d (hx b hb)]
  ·simp only[if_pos hc,Tree.run,g1]
  ·rw[qJf (fun e=>hk b hb e.symm),q3d (hx b hb)]
  ·exact qgK (by simp[zH,hl]) fun _=>hfa b hb
 ·rename_i b0;split at hr
  case h_2=>cases hr
  rename_i e' sh'' l hbk;split at hr
  case isFalse=>cases hr
  rename_i hq;obtain⟨g1,g2⟩:=brR hr;simp only[Tree.run,qJc,qJO] at g2;obtain⟨rfl,rfl⟩:=g2;have hb0:b0∈R:=hR b0 (.inr (.inl (by simp[AV.men])));have hs:∀b,b∉R->b≠b0:=fun b hb e=>hb (e▸hb0);refine⟨by simp[zH],fun b hb=>?_,((yG h' x).set b0 .dead).set k (.vec e sh (uV l m)),?_,by simp[zH,hl],fun b hb=>?_,fun b hb=>?_⟩
  ·rw[qJf (fun e=>hk b hb e.symm),qJf (fun e=>hs b hb e.symm),q3d (hx b hb)]
  ·simp only[if_pos hc,H b0 hb0,hbk,if_pos hq,Tree.run,g1]
  ·rw[qJf (fun e=>hk b hb e.symm),qJf (fun e=>hs b hb e.symm),q3d (hx b hb)]
  ·exact qgK (by simp[zH,hl]) fun _=>qgK (by simp[zH,hl]) fun _=>hfa b hb
 ·
  rename_i sh'' l;split at hr
  case isFalse=>cases hr
  rename_i hq;obtain⟨g0,hr⟩:=brR hr;obtain⟨g1,g2⟩:=brR hr;simp only[Tree.run,qJc,qJO] at g2;obtain⟨rfl,rfl⟩:=g2;refine⟨by simp[zH],fun b hb=>?_,(yG h' x).set k (.vec e sh (uV l m)),?_,by simp[zH,hl],fun b hb=>?_,fun b hb=>?_⟩
  ·rw[qJf (fun e=>hk b hb e.symm),q3d (hx b hb)]
  ·simp only[if_pos hc,if_pos hq,Tree.run,g0,g1]
  ·rw[qJf (fun e=>hk b hb e.symm),q3d (hx b hb)]
  ·exact qgK (by simp[zH,hl]) fun _=>hfa b hb
 ·cases hr
theorem qoT (l m:List AV):AV.menL (l++m)=AV.menL l++AV.menL m:=by
 induction l with
 | nil=>rfl
 | cons a l ih=>simp only[qKc,AV.menL,ih,qJQ]
theorem qtn {h h':List Blk}{u:AV}{r:List Blk}{R:List Nat}(_:∀b,(b=k\/b∈AV.menL args)->b∈R)(_:∀b,b∈R->h'[b]?=h[b]?)(_:h'.length=h.length)(hr:(qrc E h e args k).run=some (u,r)):r.length=h.length/\(∀b,b∉R->r[b]?=h[b]?)/\∃r',(qrc E h' e args k).run=some (u,r')/\(∀b,b∉R->r'[b]?=h'[b]?)/\(∀b,b∈R->r'[b]?=r[b]?):=by unfold qrc at hr;cases hr
theorem qDJ {h h':List Blk}{ev:Operand->AV}{R:List Nat}(hR:qGw E ev op=some R)(H:∀b,b∈R->h'[b]?=h[b]?):qjH E h' ev op=qjH E h ev op:=by
 unfold qjH;unfold qGw at hR;cases hv:qgl op with
 | false=>rfl
 | true=>
  rw[hv] at hR;simp only at hR ⊢;cases hc:jI ev op with
  | none=>rfl
  | some q=>
   obtain⟨f,args⟩:=q;rw[hc] at hR;simp only at hR ⊢;cases hs:qga E f with
   | none=>rfl
   | some G=>
    rw[hs] at hR;simp only[qJc] at hR ⊢;subst hR;rw[q1S args H];have:(args.flatMap we).all (qjf h')=(args.flatMap we).all (qjf h):=qw2 fun b hb=>by unfold qjf;rw[H b (qsS hb)]
    rw[this]
theorem qsD {callS:List Blk->q75}(hmo:q6C E callS){h h':List Blk}{ev:Operand->AV}{u:AV}{r:List Blk}{R:List Nat}(hR:(vW E h ev op k u r).r=some R)(H:∀b,b∈R->h'[b]?=h[b]?) (hl:h'.length=h.length) (hr:(q5f E callS h ev op k).run=some (u,r)) :r.length=h.length/\(∀b,b∉(vW E h ev op k u r).w->r[b]?=h[b]?)/\(q5f E callS h' ev op k).run=some (u,qd7 (vW E h ev op k u r).w r h'):=by
 unfold q5f vW at *;cases hloc:qpU E op with
 | false=>
  rw[hloc] at hr hR;simp only at hr hR ⊢;cases heff:qjH E h ev op with
  | true=>
   rw[heff] at hr hR;simp only[qJc] at hr hR ⊢;subst hR;obtain⟨q,k1,k2⟩:=bind_some hr;split at k2
   case h_2=>cases k2
   rename_i hbq;cases k2;have hg:=qKd hbq;obtain⟨g',q1,q2,q3,q4⟩:=qvr k1 hl H hg;have heff':qjH E h' ev op=true:=qDp heff H;refine⟨hg,fun b hb=>?_,?_⟩
   ·rcases qJl b h.length with hlt|hge
    ·exact qnG k1 hlt hb
    ·rw[qJC hge,qJC (by simp only at hg;omega)]
   ·rw[heff'];simp only;rw[Tree.run_bind,q1];simp only[qJH];rw[show Nat.beq g'.length h'.length=true from by rw[q2];exact Nat.beq_refl _];simp only[Tree.run];rw[<-q2E (k':=g') (by simp only at hg;omega) q3 q4]
  | false=>
   rw[heff] at hr hR;simp only at hr hR ⊢;obtain⟨v,k1,k2⟩:=bind_some hr;simp only[Tree.run,qJc,qJO] at k2;obtain⟨rfl,rfl⟩:=k2;refine⟨rfl,fun _ _=>rfl,?_⟩;rw[qDJ hR H,heff];simp only;rw[Tree.run_bind,qtp hmo hR H k1];simp only[qJH,Tree.run];rw[<-q2E (k':=h') hl.symm (fun b hb=>by cases hb) (fun _ _=>rfl)]
 | true=>
  rw[hloc] at hr hR;simp only[qJc] at hr hR ⊢;subst hR;have hk:=H k qJs;cases hdd:qrq h[k]? with
  | false=>rw[hdd] at hr;cases hr
  | true=>
   rw[hdd] at hr;rw[hk,hdd];simp only at hr ⊢;split at hr
   ·rename_i t len parts;obtain⟨q,k1,k2⟩:=bind_some hr;simp only[Tree.run,qJc,qJO] at k2;obtain⟨rfl,rfl⟩:=k2;refine⟨by simp,fun b hb=>?_,?_⟩
    ·simp only[qJi,not_or] at hb;rw[qJf (fun e=>hb.1 e.symm)]
    ·rw[qw9 hl,Tree.run_bind,k1];simp only[qJH,Tree.run];rw[<-q2E (k':=h'.set k q.2) (by simp[hl]) (fun b hb=>qgK hl fun _=>H b hb) (fun b hb=>by simp only[qJi,not_or] at hb;rw[qJf (fun e=>hb.1 e.symm)])]
   ·rename_i t;unfold qt5 at hr ⊢;split at hr
    case h_2=>cases hr
    split at hr
    case h_2=>cases hr
    simp only[Tree.run,qJc,qJO] at hr;obtain⟨rfl,rfl⟩:=hr;rename_i _ z hz _ hzm;refine⟨by simp,fun b hb=>?_,?_⟩
    ·simp only[qJi,not_or] at hb;rw[qJf (fun e=>hb.1 e.symm)]
    ·simp only[Tree.run];rw[<-q2E (k':=h'.set k z) (by simp[hl]) (fun b hb=>qgK hl fun _=>H b hb) (fun b hb=>by simp only[qJi,not_or] at hb;rw[qJf (fun e=>hb.1 e.symm)])]
   ·rename_i args tys;have hmen:qpQ ev (.call { callee:=.builtin .append,args:=args,argTypes:=tys })=AV.menL (args.toList.map ev):=by unfold qpQ jI;simp[Op.operands,Call.operands]
    rw[hmen] at H ⊢;unfold qwM at hr ⊢;generalize args.toList.map ev=als at *;split at hr
    case h_2=>cases hr
    rename_i t t' sa xa htys;split at hr
    case isFalse=>cases hr
    rename_i htt;have hR':∀b,(b=k\/b∈sa.men\/b∈xa.men)->b∈k::AV.menL [sa,xa]:=by intro b hb;simp only[AV.menL,qKl,qJi,qJG];exact hb
    obtain⟨q1,q2,r',q3,q4,q5,q6⟩:=qun hR' H hl hr;refine⟨q1,q2,?_⟩;simp only[if_pos htt];rw[q3,<-q2E (k':=r') (by rw[q1,hl]) q6 q5]
   ·unfold qsK at hr ⊢;cases hc:qld op with
    | none=>rw[hc] at hr;cases hr
    | some q=>
    obtain⟨fn,xs⟩:=q;rw[hc] at hr;obtain⟨args,tys,rfl,rfl⟩:=qm2 hc;have hmen:qpQ ev (.call { callee:=.value (.func fn),args:=args,argTypes:=tys })=AV.menL (args.toList.map ev)\/AV.menL (args.toList.map ev) ⊆ qpQ ev (.call { callee:=.value (.func fn),args:=args,argTypes:=tys }):=by
     right;unfold qpQ;cases hco:jI ev (.call { callee:=.value (.func fn),args:=args,argTypes:=tys }) with
     | none=>
      simp only[Op.operands,Call.operands,qLi,qJK];intro b hb;rw[qoT];exact qJY _ hb
     | some q=>
      obtain⟨g,azz⟩:=q;unfold jI at hco;simp only at hco;split at hco
      ·cases hco;intro b hb;simp only[qoT];exact qKb _ (qJY _ hb)
      ·cases hco
    have hsub:∀b,b∈AV.menL (args.toList.map ev)->b∈k::qpQ ev (.call { callee:=.value (.func fn),args:=args,argTypes:=tys }):=by
     intro b hb;rcases hmen with e|e
     ·rw[e];exact qJy _ hb
     ·exact qJy _ (e hb)
    generalize qpQ ev (.call { callee:=.value (.func fn),args:=args,argTypes:=tys })=M at *;simp only at hr ⊢;split at hr
    ·rename_i e hde;obtain⟨q1,q2,r',q3,q4,q5⟩:=qtn (R:=k::M) (fun b hb=>hb.elim (fun e=>e▸qJs) (hsub b)) H hl hr;refine⟨q1,q2,?_⟩;rw[q3,<-q2E (k':=r') (by rw[q1,hl]) q5 q4]
    ·unfold qB9 at hr ⊢;split at hr
     case h_2=>cases hr
     split at hr
     case h_2=>cases hr
     rename_i hme;obtain⟨q,k1,k2⟩:=bind_some hr;split at k2
     case h_2=>cases k2
     rename_i e sh l;simp only[Tree.run,qJc,qJO] at k2;obtain⟨rfl,rfl⟩:=k2;have hfr:∀c,c∈k::M->(qO h' ((args.toList.map ev).flatMap we))[c]?=(qO h ((args.toList.map ev).flatMap we))[c]?:=fun c hc=>qh4 _ _ _ hl (H c hc);have hle:=q1S (args.toList.map ev) fun b hb=>hfr b (hsub b hb);have out:∀(g:List Blk) (c:Nat),c∉k::M->((qO g ((args.toList.map ev).flatMap we)).set k (.vec e sh l))[c]?=g[c]?:=fun g c hc'=>by rw[qJf (fun e'=>hc' (by rw[<-e'];exact qJs)),qes _ _ fun hm=>hc' (hsub c (qsS hm))]
     refine⟨by simp[yx],out h,?_⟩;rw[hle,hme];simp only;rw[Tree.run_bind,k1];simp only[qJH,Tree.run];rw[<-q2E (k':=(qO h' ((args.toList.map ev).flatMap we)).set k (.vec e sh l)) (by simp[yx,hl]) (fun c hc'=>qgK (by simp[yx,hl]) fun _=>hfr c hc') (out h')]
def inR(r:Option (List Nat))(b:Nat):Prop:=∀R,r=some R->b∈R
theorem qu4 {callS:List Blk->q75}{h g:List Blk}{ev:Operand->AV}{u:AV}(hR:(vW E h ev op k u g).r=none)(hr:(q5f E callS h ev op k).run=some (u,g)):(vW E h ev op k u g).w=[]/\g=h:=by
 unfold vW at *;unfold q5f at hr;cases hl:qpU E op with
 | true=>rw[hl] at hR;cases hR
 | false=>
  rw[hl] at hR hr;simp only at hR hr ⊢;cases he:qjH E h ev op with
  | true=>rw[he] at hR;cases hR
  | false=>
   rw[he] at hr;obtain⟨v,k1,k2⟩:=bind_some hr;cases k2;exact⟨rfl,rfl⟩
theorem qhY {callS:List Blk->q75}(hmo:q6C E callS){h h':List Blk}{ev:Operand->AV}{u:AV}{r:List Blk}(H:∀b,inR (vW E h ev op k u r).r b->h'[b]?=h[b]?) (hl:h'.length=h.length) (hr:(q5f E callS h ev op k).run=some (u,r)) :r.length=h.length/\(∀b,b∉(vW E h ev op k u r).w->r[b]?=h[b]?)/\(q5f E callS h' ev op k).run=some (u,qd7 (vW E h ev op k u r).w r h'):=by
 cases hR:(vW E h ev op k u r).r with
 | some R=>exact qsD hmo hR (fun b hb=>H b fun R' e=>by rw[hR] at e;cases e;exact hb) hl hr
 | none=>
  have e:h'=h:=qK9 fun b=>H b fun R e=>by rw[hR] at e;cases e
  subst e;obtain⟨hw,hg⟩:=qu4 hR hr;rw[hw];have:qd7 [] r h'=r:=by rw[hg];exact(q2E (k':=h') rfl (fun _ hb=>by cases hb) fun _ _=>rfl).symm
  rw[this];exact⟨by rw[hg],fun b _=>by rw[hg],hr⟩
theorem qur (_:E.tok P)(_:qlk P f e)(_:Sim E B X st a){vargs:List Value}(_:RepL X args vargs){r:AV×St}(h:(qAt E e args st).run=some r):Calls P f vargs.toArray X.w fun x w'=>∃v X',x=.returned v/\X'.w=w'/\Rep X' r.1 v/\Sim E B X' r.2 a:=by unfold qAt at h;cases h
end Go.Eng

namespace Go.Eng
variable {E:Env}{k:Nat}{op:Op}
inductive LocOK (E:Env) (callS:List Blk->q75) (all:Array Oper) (c:Nat) (i:Nat) (o:Oper) (T:List AV) (v:AV) (h h':List Blk) (d:Option LDesc):Prop
 | out (h1:q6b all o T=some false) (h2:v=.skip) (h3:h'=h) (h4:d=none)
 | op (u:AV) (h1:q6b all o T=some true) (h2:(q5f E callS h (E.opd T) o.op c).run=some (u,h')) (h3:v=qvm all i u) (h4:d=some (vW E h (E.opd T) o.op c u h'))
   (h5:∀b,b∈(vW E h (E.opd T) o.op c u h').v->b<h.length)
theorem qAq {h g:List Blk}{ev:Operand->AV}{u:AV}{b:Nat}(hb:b∈u.men):b∈(vW E h ev op k u g).v:=by
 unfold vW;split
 ·exact qKb _ hb
 ·split
  ·exact qKb _ hb
  ·exact hb
theorem qAM {h g:List Blk}{ev:Operand->AV}{u:AV}{b c:Nat}{z:Blk}(hb:b∈(vW E h ev op k u g).w)(hz:g[b]?=some z)(hc:c∈z.menB):c∈(vW E h ev op k u g).v:=by
 unfold vW at *;split at hb
 ·exact qJY _ (qkU hz hc _ hb)
 ·split at hb
  ·exact qJY _ (qkU hz hc _ hb)
  ·cases hb
theorem qtO {h g:List Blk}{ev:Operand->AV}{u:AV}(hl:qpU E op=true):(vW E h ev op k u g).s=some k:=by unfold vW;rw[hl]
theorem qrl{E:Env}{callS:List Blk->q75}{all:Array Oper}{anc:List Nat}:∀(l:List Oper) (k c:Nat) (ds:List (Nat×LDesc)) (st st':St),
  (qvn E callS all anc k l c ds st).run=some st' ->
  ∃(V:Nat->AV) (H:Nat->List Blk) (D:Nat->Option LDesc) (S:Nat->Nat),(∀j,c<=S (k+j))/\H k=st.h/\st'={ st with t:=qdl V k l st.t,h:=H (k+l.length) } /\
   (∀j o,l[j]?=some o->LocOK E callS all (S (k+j)) (k+j) o (qdl V k (l.take j) st.t) (V (k+j)) (H (k+j)) (H (k+j+1)) (D (k+j))) /\
   (∀j d,j<l.length->D (k+j)=some d->∀x,x∈ds->qgh anc x (k+j) d=true) /\
   (∀j j' d d',j<j'->j'<l.length->D (k+j)=some d->D (k+j')=some d'->qgh anc (k+j,d) (k+j') d'=true)
 | [],k,c,ds,st,st',h=>by
  simp only[qvn,Tree.run,qJc] at h;subst h;exact⟨fun _=>.undef,fun _=>st.h,fun _=>none,fun _=>c,fun _=>qJe _,rfl,rfl,fun j o hj=>by simp at hj,fun j d hj=>by simp at hj,fun j j' _ _ _ hj=>by simp at hj⟩
 | o::rest,k,c,ds,st,st',h=>by
  have fin:∀(v:AV) (h':List Blk) (d:Option LDesc) (c':Nat) (ds':List (Nat×LDesc)),c<=c'->LocOK E callS all c k o st.t v st.h h' d->(∀d0,d=some d0->∀x,x∈ds->qgh anc x k d0=true)->(∀x,x∈ds->x∈ds')->(∀d0,d=some d0->(k,d0)∈ds') ->
    (qvn E callS all anc (k+1) rest c' ds' { st with t:=qhQ st.t o.dst v,h:=h' }).run=some st' ->
    ∃(V:Nat->AV) (H:Nat->List Blk) (D:Nat->Option LDesc) (S:Nat->Nat),(∀j,c<=S (k+j))/\H k=st.h/\st'={ st with t:=qdl V k (o::rest) st.t,h:=H (k+(o::rest).length) } /\
   (∀j o',(o::rest)[j]?=some o'->LocOK E callS all (S (k+j)) (k+j) o' (qdl V k ((o::rest).take j) st.t) (V (k+j)) (H (k+j)) (H (k+j+1)) (D (k+j))) /\
   (∀j d,j<(o::rest).length->D (k+j)=some d->∀x,x∈ds->qgh anc x (k+j) d=true) /\
   (∀j j' d d',j<j'->j'<(o::rest).length->D (k+j)=some d->D (k+j')=some d'->qgh anc (k+j,d) (k+j') d'=true):=by
   intro v h' d c' ds' hcc hmx hcr hds hd hr;obtain⟨V,H,D,S,e0,e1,e2,e3,e4,e5⟩:=qrl rest (k+1) c' ds' _ st' hr;have hfold:∀(l:List Oper) (t:List AV),qdl (fun j=>if j=k then v else V j) (k+1) l t=qdl V (k+1) l t:=fun l t=>qoJ l (k+1) t fun j hj=>if_neg (by omega);refine⟨fun j=>if j=k then v else V j,fun j=>if j=k then st.h else H j,fun j=>if j=k then d else D j,fun j=>if j=k then c else S j,fun j=>?_,by simp,?_,?_,?_,?_⟩
   ·cases j with
    | zero=>simp
    | succ j=>
     have:=e0 j;simp only[show k+(j+1)=k+1+j by omega,show ¬k+1+j=k by omega,if_false];omega
   ·rw[e2];simp only[qdl,if_true,qJM];rw[hfold,if_neg (by omega),show k+(rest.length+1)=k+1+rest.length by omega]
   ·intro j o' hj;cases j with
    | zero=>
     simp only[qKA,qJc] at hj;subst hj;simp only[qJU,if_true,List.take_zero,qdl];rw[if_neg (by omega),e1];exact hmx
    | succ j=>
     have:=e3 j o' (by simpa using hj);simp only[List.take_succ_cons,qdl,if_true];rw[hfold,show k+(j+1)=k+1+j by omega,if_neg (by omega),if_neg (by omega),if_neg (by omega),if_neg (by omega),if_neg (by omega)];exact this
   ·intro j d0 hj hdj x hx;cases j with
    | zero=>simp only[qJU,if_true] at hdj ⊢;exact hcr d0 hdj x hx
    | succ j=>
     simp only at hdj;rw[show k+(j+1)=k+1+j by omega,if_neg (by omega)] at hdj;have:=e4 j d0 (by simpa using hj) hdj x (hds x hx);rw[show k+(j+1)=k+1+j by omega];exact this
   ·intro j j' d0 d0' hjj hj' hdj hdj';obtain⟨j'',rfl⟩:∃x,j'=x+1:=⟨j'-1,by omega⟩;have hl:j''<rest.length:=by simpa using hj'
    simp only at hdj hdj';rw[show k+(j''+1)=k+1+j'' by omega,if_neg (by omega)] at hdj';rw[show k+(j''+1)=k+1+j'' by omega];cases j with
    | zero=>
     simp only[qJU,if_true] at hdj ⊢;exact e4 j'' d0' hl hdj' _ (hd d0 hdj)
    | succ j=>
     rw[show k+(j+1)=k+1+j by omega,if_neg (by omega)] at hdj;rw[show k+(j+1)=k+1+j by omega];exact e5 j j'' d0 d0' (by omega) hl hdj hdj'
  simp only[qvn] at h;cases hw:q6b all o st.t with
  | none=>rw[hw] at h;cases h
  | some b=>
   rw[hw] at h;cases b with
   | true=>
    simp only at h;obtain⟨r,h1,h2⟩:=bind_some h;split at h2
    ·rename_i hall;simp only[qJx,qJL] at hall;obtain⟨c2,c3⟩:=hall;obtain⟨s,h3,h4⟩:=bind_some h2;obtain⟨u,h'⟩:=r;obtain rfl:=qzH (st:={ st with h:=h' }) h3;exact fin _ h' (some (vW E st.h (E.opd st.t) o.op c u h')) _ _ (by split<;>omega) (.op u hw h1 rfl rfl fun b hb=>Nat.blt_eq.mp (c2 b hb)) (fun d0 he x hx=>by cases he;exact c3 x hx) (fun x hx=>qKb _ hx) (fun d0 he=>by cases he;exact qJY _ qJs) h4
    ·cases h2
   | false=>
    simp only at h;exact fin .skip st.h none c ds (qJe _) (.out hw rfl rfl rfl) (fun d0 he=>by cases he) (fun x hx=>hx) (fun d0 he=>by cases he) h
section
variable (W:Nat->List Nat) (H:Nat->List Blk) (h0:List Blk)
def hLp(L:Nat->Bool):Nat->List Blk
 | 0=>h0
 | m+1=>if L m=true then qd7 (W m) (H (m+1)) (hLp L m) else hLp L m
variable {W H h0}
theorem qas(L:Nat->Bool):∀m,(hLp W H h0 L m).length=h0.length
 | 0=>rfl
 | m+1=>by simp only[hLp];split<;>simp[qyQ,qas L m]
theorem qvH{L:Nat->Bool}{b lo:Nat}:∀m,lo<=m->(∀j,lo<=j->j<m->L j=true->b∉W j)->(hLp W H h0 L m)[b]?=(hLp W H h0 L lo)[b]?
  | 0, h, _ => by have : lo = 0 := by omega
                  rw[this]
  | m+1,h,hj=>by
    rcases qKR h with rfl|h
    · rfl
    · rw[<-qvH m (by omega) fun j h1 h2=>hj j h1 (by omega)]
      simp only[hLp];split
      · rename_i hl
        exact qha (hj m (by omega) (by omega) hl)
      · rfl
theorem qt1{L L':Nat->Bool}{b:Nat}(hH:∀m,(H m).length=h0.length):∀m,(∀j,j<m->b∈W j->L j=L' j)->(hLp W H h0 L m)[b]?=(hLp W H h0 L' m)[b]?
 | 0,_=>rfl
 | m+1,hj=>by
  have ih:=qt1 (L:=L) (L':=L') hH m fun j h1=>hj j (by omega);by_cases hb:b∈W m
  ·have:=hj m (by omega) hb;simp only[hLp];rw[this];split
   ·rw[qg4 hb (by rw[qas,hH]),qg4 hb (by rw[qas,hH])]
   ·exact ih
  ·have out:∀L:Nat->Bool,(hLp W H h0 L (m+1))[b]?=(hLp W H h0 L m)[b]?:=fun L=>by
    simp only[hLp];split
    ·exact qha hb
    ·rfl
   rw[out,out,ih]
theorem qpd{L L':Nat->Bool}:∀m,(∀j,j<m->L j=L' j)->hLp W H h0 L m=hLp W H h0 L' m
 | 0,_=>rfl
 | m+1,h=>by
  simp only[hLp];rw[h m (qL4 m),qpd m fun j hj=>h j (by omega)]
theorem qBq(hk:∀i,(H (i+1)).length=(H i).length/\∀b,b∉W i->(H (i+1))[b]?=(H i)[b]?)(h1:H 0=h0):∀m,hLp W H h0 (fun _=>true) m=H m
 | 0=>h1.symm
 | m+1=>by
  simp only[hLp,if_true];rw[qBq hk h1 m];exact(q2E (hk m).1 (fun _ _=>rfl) (hk m).2).symm
theorem qzK {L:Nat->Bool}{i m:Nat}(hi:i<m)(hL:L i=false)(hH:∀m,(H m).length=h0.length)(hu:∀j,i<j->j<m->L j=true->∀b,b∈W i->b∉W j) :hLp W H h0 (fun j=>if j=i then true else L j) m=qd7 (W i) (H (i+1)) (hLp W H h0 L m):=by
 refine q2E (by rw[hH,qas]) (fun b hb=>?_) (fun b hb=>?_)
 ·rw[qvH (lo:=i+1) m (by omega) fun j h1 h2 h3=>hu j (by omega) h2 (by rwa [if_neg (by omega)] at h3) b hb];simp only[hLp,if_true];exact qg4 hb (by rw[qas,hH])
 ·refine qt1 hH m fun j _ hbj=>if_neg fun e=>?_;subst e;exact hb hbj
theorem qFY {h:List Blk}{c:Nat}(hb:∀(b:Nat) (k:Blk),h[b]?=some k->c∉k.menB):c∉qc7 h:=by
 induction h with
 | nil=>intro h;cases h
 | cons k h ih=>
  simp only[qc7,qJG,not_or];exact⟨hb 0 k rfl,ih fun b k' hk=>hb (b+1) k' (by simpa using hk)⟩
theorem qBI{L:Nat->Bool}{c:Nat}(hH:∀m,(H m).length=h0.length)(h1:c∉qc7 h0):∀m,(∀j,j<m->L j=true->∀b z,b∈W j->(H (j+1))[b]?=some z->c∉z.menB)->c∉qc7 (hLp W H h0 L m)
 | 0,_=>h1
 | m+1,h2=>by
  have ih:=qBI (L:=L) hH h1 m fun j hj=>h2 j (by omega);simp only[hLp];split
  ·rename_i hL;refine qFY fun b k hk=>?_;by_cases hb:b∈W m
   ·rw[qg4 hb (by rw[qas,hH])] at hk;exact h2 m (qL4 m) hL b k hb hk
   ·rw[qha hb] at hk;exact qnt ih hk
  ·exact ih
end
theorem qqP {w:List Nat}{r:Option (List Nat)}(h:qEc w r=true):∀b,b∈w->¬inR r b:=by
 intro b hb hi;cases w with
 | nil=>cases hb
 | cons a w=>
  cases r with
  | none=>cases h
  | some R=>
   simp only[qEc,qJL,qKU,List.contains_eq_mem,decide_eq_false_iff_not] at h;exact h b hb (hi R rfl)
def wOf(D:Nat->Option LDesc)(j:Nat):List Nat:=match D j with
 | some d=>d.w
 | none=>[]
theorem qxo {v:List Nat}(h:qIb (some k) v=false):k∉v:=by simpa[qIb] using h
theorem qGx {h g:List Blk}{ev:Operand->AV}{u:AV}{R:List Nat}(hR:(vW E h ev op k u g).r=some R):∀b,b∈(vW E h ev op k u g).w->b∈R:=by
 unfold vW at *;split at hR
 ·simp only[qJc] at hR;subst hR;exact fun b hb=>hb
 ·split at hR
  ·simp only[qJc] at hR;subst hR;exact fun b hb=>qJY _ hb
  ·intro b hb;cases hb
section
variable {E:Env} {P:Program} {callS:List Blk->q75} {B:Base} {all:Array Oper} {V:Nat->AV} {T0:List AV} {H:Nat->List Blk} {D:Nat->Option LDesc} {fs:List (List AV)} {pd:Option Ex} {Q:Exit->Act->World->Prop} {n0 m base:Nat} {S:Nat->Nat}
theorem qBi (hE:E.tok P)(hS:E.specs P)(hc:qiV E P callS)(hmo:q6C E callS)(hd:DrawOk all)(hms:m<=all.size)(hV:∀i o,all[i]?=some o->i<m->LocOK E callS all (S i) i o (TLp (uf all) V T0 (fun _=>true) i) (V i) (H i) (H (i+1)) (D i))(hX:∀i j d d',i<j->j<m->D i=some d->D j=some d'->qgh (qfx all.toList) (i,d) j d'=true)(hcon:∀i,m<=i->H i=H m) (_:∀i,m<=i->D i=none)(hlen:base<=(H 0).length) (hSb:∀i,base<=S i) (hT0:∀c,base<=c->c∉AV.menL T0) (hfs:∀c,base<=c->c∉qkX fs) (hH0:∀c,base<=c->c∉qc7 (H 0))(hq:all.size<=m->∀X a,Sim E B X { t:=TLp (uf all) V T0 (fun _=>true) all.size,fs:=fs,pend:=pd,h:=H m } a->Q .normal a X.w)(hlast:∀i fuel listed X a,i<all.size->m<=i->listed.size=all.size->i∈Region.ready .any all listed->qmy all (fun j=>listed.getD j false)->(∀j,m<=j->j<all.size->listed.getD j false=false)->(∀j,j<m->listed.getD j false=true) ->Sim E B X { t:=TLp (uf all) V T0 (fun j=>listed.getD j false) all.size,fs:=fs,pend:=pd,h:=H m } a ->unl listed all.size<=fuel+1->wpOpIn (q50 B.ro) n0 P all Q i (wpAnyIn (q50 B.ro) n0 P .any all Q fuel (listed.setIfInBounds i true)) a X.w)(hsuf:∀i j,m<=i->i<all.size->j<i->((qfx all.toList).getD i 0).testBit j=true) :∀(fuel:Nat) (listed:Array Bool) (X:Ctx) (a:Act),listed.size=all.size->qmy all (fun j=>listed.getD j false)->(∀i,m<=i->i<all.size->listed.getD i false=false) ->unl listed all.size<=fuel->Sim E B X { t:=TLp (uf all) V T0 (fun j=>listed.getD j false) all.size,fs:=fs,pend:=pd,h:=hLp (wOf D) H (H 0) (fun j=>listed.getD j false) m } a->wpAnyIn (q50 B.ro) n0 P .any all Q fuel listed a X.w:=by
 intro fuel;have step:∀i,(H (i+1)).length=(H i).length/\∀b,b∉wOf D i->(H (i+1))[b]?=(H i)[b]?:=by
  intro i;rcases qJl i m with him|him
  ·have hi:i<all.size:=by omega
   cases hV i _ (qL0 hi) him with
   | out h1 h2 h3 h4=>rw[h3];exact⟨rfl,fun _ _=>rfl⟩
   | op u h1 h2 h3 h4 h5=>
    obtain⟨q1,q2,_⟩:=qhY (h':=H i) hmo (fun _ _=>rfl) rfl h2;refine⟨q1,?_⟩;unfold wOf;rw[h4];exact q2
  ·rw[hcon i him,hcon (i+1) (by omega)];exact⟨rfl,fun _ _=>rfl⟩
 have hlenA:∀i,(H i).length=(H 0).length:=by
  intro i;induction i with
  | zero=>rfl
  | succ i ih=>rw[(step i).1,ih]
 have hall:∀i,hLp (wOf D) H (H 0) (fun _=>true) i=H i:=qBq step rfl;have toEnd:∀(listed:Array Bool),(∀j,j<m->listed.getD j false=true)->hLp (wOf D) H (H 0) (fun j=>listed.getD j false) m=H m:=by intro listed h;rw[<-hall m];exact qpd m h
 have fin:∀(listed:Array Bool) (X:Ctx) (a:Act),listed.size=all.size->(∀i,m<=i->i<all.size->listed.getD i false=false)->Region.ready .any all listed=[] ->
   Sim E B X { t:=TLp (uf all) V T0 (fun j=>listed.getD j false) all.size,fs:=fs,pend:=pd,h:=hLp (wOf D) H (H 0) (fun j=>listed.getD j false) m } a->Q .normal a X.w:=by
  intro listed X a hsz hm hr hs;have hal:=qv3 hd hsz hr;rcases qJl m all.size with hlt|hge
  ·have:=hm m (qJe _) hlt;rw[hal m hlt] at this;cases this
  ·rw[toEnd listed fun j hj=>hal j (by omega)] at hs;rw[stL (L':=fun _=>true) all.size fun j hj=>hal j hj] at hs;exact hq hge X a hs
 induction fuel with
 | zero=>
  intro listed X a hsz hcl hm hu hs;have hr:Region.ready .any all listed=[]:=by
   apply List.eq_nil_iff_forall_not_mem.2;intro j hj;rw[mem_ready] at hj;obtain⟨h1,o,h2,_⟩:=hj;have hj':=(qJj.1 h2).1;have:=qsI (listed:=listed) (Nat.le_zero.1 hu) j hj';have hj2:j<listed.size:=by omega
   simp[hj2] at this h1;rw[this] at h1;cases h1
  exact⟨hr,fin listed X a hsz hm hr hs⟩
 | succ fuel ih=>
  intro listed X a hsz hcl hm hu hs;refine⟨fun hr=>fin listed X a hsz hm hr hs,fun i hi=>?_⟩;have hri:=hi;rw[mem_ready] at hi;obtain⟨h1,o,ho,hedge⟩:=hi;have hin:=(qJj.1 ho).1;have hil:i<listed.size:=by omega
  have hLi:listed.getD i false=false:=by simpa[qKD,hil] using h1
  have hedge':∀e,e∈o.after.toList->Region.binds .any e=true->listed.getD e.on false=true:=fun e he hb=>hedge e (by simpa using he) hb;have hcl':=qlW hsz ho hcl hedge';have before:∀k,k≠i->qGT (qfx all.toList) i k=true->listed.getD k false=true:=by
   intro k hki hk;have:=qr3 hd hcl' i k (by show (listed.setIfInBounds i true).getD i false=true;rw[q1c hil,if_pos rfl]) hk;have h':(listed.setIfInBounds i true).getD k false=true:=this
   rwa [q1c hil,if_neg hki] at h'
  have behind:∀k,qGT (qfx all.toList) k i=true->listed.getD k false=false:=by
   intro k hk;cases hl:listed.getD k false with
   | false=>rfl
   | true=>
    have:=qr3 hd hcl k i hl hk;have h':listed.getD i false=true:=this;rw[hLi] at h';cases h'
  rcases qJl i m with him|him
  ·have hv:=hV i o ho him;have hsame:∀t,t∈qz1 all o->(TLp (uf all) V T0 (fun j=>listed.getD j false) all.size)[t]?=(TLp (uf all) V T0 (fun _=>true) i)[t]?:=fun t ht=>
    qFk hd hcl ho (Nat.le_of_lt hin) hLi hedge' ht
   have hopd:∀x,x∈o.op.operands.toList->E.opd (TLp (uf all) V T0 (fun j=>listed.getD j false) all.size) x=E.opd (TLp (uf all) V T0 (fun _=>true) i) x:=fun x hx=>by
    cases x with
    | tmp t=>
     have:=hsame t (qKb _ (List.mem_filterMap.2 ⟨.tmp t,hx,rfl⟩));simp only[Env.opd,qJd];rw[this]
    | const v=>rfl
    | global g=>rfl
    | func f=>rfl
   have hwant:q6b all o (TLp (uf all) V T0 (fun j=>listed.getD j false) all.size)=q6b all o (TLp (uf all) V T0 (fun _=>true) i):=by
    unfold q6b;cases hg:o.guard with
    | none=>rfl
    | some p=>
     obtain⟨j,want⟩:=p;simp only;cases hj:(all[j]?).bind (·.dst) with
     | none=>rfl
     | some d=>
      simp only;rw[hsame d (by simp[qz1,hg,hj])]
   have hun:unl (listed.setIfInBounds i true) all.size<=fuel:=by have:=(qvy hil hLi all.size).2 hin;omega
   have hdi:uf all i=o.dst:=by simp[uf,ho]
   have hnext:∀(X':Ctx) (u:Value),Sim E B X' { t:=TLp (uf all) V T0 (fun j=>listed.getD j false) all.size,fs:=fs,pend:=pd,h:=hLp (wOf D) H (H 0) (fun j=>(listed.setIfInBounds i true).getD j false) m } a->Rep X' (V i) u ->
     wpAnyIn (q50 B.ro) n0 P .any all Q fuel (listed.setIfInBounds i true) (a.put o.dst u) X'.w:=by
    intro X' u hs' hu';refine ih _ X' _ (by simp[hsz]) hcl' ?_ hun ?_
    ·intro k hk1 hk2;rw[q1c hil,if_neg (by omega)];exact hm k hk1 hk2
    ·have hput:=hs'.put hu' o.dst;have hT:TLp (uf all) V T0 (fun j=>(listed.setIfInBounds i true).getD j false) all.size=qhQ (TLp (uf all) V T0 (fun j=>listed.getD j false) all.size) o.dst (V i):=by
      rw[<-hdi,<-qFu hin hLi]
      ·exact stL all.size fun j _=>q1c hil
      ·intro k hk hki t ht he;cases hk':all[k]? with
       | none=>simp[uf,hk'] at he
       | some ok=>
        simp only[uf,hk',qJH] at he;rw[hdi] at ht;exact(hd.dst i k o ok ho hk' hki t he).1 ht
     rw[hT];exact hput
   have hLset:hLp (wOf D) H (H 0) (fun j=>(listed.setIfInBounds i true).getD j false) m=hLp (wOf D) H (H 0) (fun j=>if j=i then true else listed.getD j false) m:=qpd m fun j _=>q1c hil;unfold wpOpIn;rw[ho];simp only;cases hv with
   | out w1 w2 w3 w4=>
    rw[q9C hs.t (hwant.trans w1)];simp only[qJA,if_false];refine⟨fun _ _=>trivial,hnext X _ ?_ (by rw[w2];exact .skip)⟩;rw[hLset,qzK him hLi hlenA (fun j _ _ _ b hb=>by unfold wOf at hb;rw[w4] at hb;cases hb)];have:wOf D i=[]:=by unfold wOf;rw[w4]
    rw[this,<-q2E (k':=hLp (wOf D) H (H 0) (fun j=>listed.getD j false) m) (by rw[hlenA,qas]) (fun b hb=>by cases hb) (fun _ _=>rfl)];exact hs
   | op u w1 w2 w3 w4 w5=>
    rw[q9C hs.t (hwant.trans w1)];simp only[if_true];have hwi:wOf D i=(vW E (H i) (E.opd (TLp (uf all) V T0 (fun _=>true) i)) o.op (S i) u (H (i+1))).w:=by unfold wOf;rw[w4]
    obtain⟨d0,hd0⟩:∃d0,d0=(vW E (H i) (E.opd (TLp (uf all) V T0 (fun _=>true) i)) o.op (S i) u (H (i+1))):=⟨_,rfl⟩;have wr:∀j b,inR d0.r b->b∈wOf D j->j<m->j≠i->(j<i->qGT (qfx all.toList) i j=true)/\(i<j->qGT (qfx all.toList) j i=true):=by
     intro j b hb hbj hjm hji;cases hDj:D j with
     | none=>unfold wOf at hbj;rw[hDj] at hbj;cases hbj
     | some dj=>
      have hbj':b∈dj.w:=by unfold wOf at hbj;rw[hDj] at hbj;exact hbj
      refine⟨fun hlt=>?_,fun hlt=>?_⟩
      ·have:=hX j i dj _ hlt him hDj w4;unfold qgh at this;simp only[qJx,qKJ] at this;rcases this.2 with h3|h3
       ·exact h3
       ·rw[<-hd0] at h3;exact absurd hb (qqP h3.2.1 b hbj')
      ·have:=hX i j _ dj hlt hjm w4 hDj;unfold qgh at this;simp only[qJx,qKJ] at this;rcases this.2 with h3|h3
       ·exact h3
       ·rw[<-hd0] at h3;exact absurd hb (qqP h3.2.2 b hbj')
    have hat:∀b,inR d0.r b->(hLp (wOf D) H (H 0) (fun j=>listed.getD j false) m)[b]?=(H i)[b]?:=by
     intro b hb;rw[<-hall i,qvH (lo:=i) m (by omega) fun j h3 h4 h5 h6=>?_]
     ·refine qt1 hlenA i fun j h3 h4=>?_;exact before j (by omega) ((wr j b hb h4 (by omega) (by omega)).1 h3)
     ·have hji:j≠i:=fun e=>by rw[e,hLi] at h5;cases h5
      have:=behind j ((wr j b hb h6 h4 hji).2 (by omega));rw[this] at h5;cases h5
    have hln:(hLp (wOf D) H (H 0) (fun j=>listed.getD j false) m).length=(H i).length:=by rw[qas];exact(hlenA i).symm
    obtain⟨_,_,hrun⟩:=qhY hmo (hd0▸hat) hln w2;have hnew:hLp (wOf D) H (H 0) (fun j=>(listed.setIfInBounds i true).getD j false) m=qd7 (wOf D i) (H (i+1)) (hLp (wOf D) H (H 0) (fun j=>listed.getD j false) m):=by rw[hLset,qzK him hLi hlenA fun j h3 h4 h5 b hb hbj=>?_];have:=behind j ((wr j b (fun R hR=>qGx (hd0▸hR) b (hwi▸hb)) hbj h4 (by omega)).2 h3);rw[this] at h5;cases h5
    rw[<-hwi,<-hnew,<-qsd hopd] at hrun;have ups:∀j,j<all.size->listed.getD j false=true->j<m/\j≠i:=fun j hj hLj=>by
     refine⟨?_,fun e=>by rw[e,hLi] at hLj;cases hLj⟩;rcases qJl j m with h|h
     ·exact h
     ·rw[hm j h hj] at hLj;cases hLj
    have free:∀c,base<=c->(∀j d,j<m->listed.getD j false=true->D j=some d->c∉d.v)->c∉AV.menL (TLp (uf all) V T0 (fun j=>listed.getD j false) all.size)/\c∉qc7 (hLp (wOf D) H (H 0) (fun j=>listed.getD j false) m):=by
     intro c hbc hno;refine⟨qC4 (hT0 _ hbc) _ fun j hj hLj=>?_,qBI hlenA (hH0 _ hbc) m fun j hj hLj b z hb hz=>?_⟩
     ·have hjm:=(ups j hj hLj).1;cases hV j _ (qL0 hj) hjm with
      | out _ q2 _ _=>rw[q2];simp[AV.men]
      | op uj _ _ q3 q4 _=>
       rw[q3];exact qBc fun hmm=>hno j _ hjm hLj q4 (qAq hmm)
     ·cases hV j _ (qL0 (by omega)) hj with
      | out _ _ _ q4=>unfold wOf at hb;rw[q4] at hb;cases hb
      | op uj _ _ _ q4 _=>
       unfold wOf at hb;rw[q4] at hb;exact fun hmm=>hno j _ hj hLj q4 (qAM hb hz hmm)
    cases hloc:qpU E o.op with
    | true=>
     obtain⟨f1,f2⟩:=free (S i) (hSb i) fun j d hj hLj q4 hmm=>by
      obtain⟨_,hji⟩:=ups j (by omega) hLj;rcases qJl j i with h3|h3
      ·have:=hX j i _ _ h3 him q4 w4;unfold qgh at this;rw[qtO hloc] at this;simp only[qJx,qKU] at this;exact qxo this.1 hmm
      ·have:=hX i j _ _ (by omega) hj w4 q4;unfold qgh at this;simp only[qtO hloc] at this;simp only[qJx,qKJ,qKU] at this;rcases this.2 with h4|h4
       ·rw[behind j h4] at hLj;cases hLj
       ·exact qxo h4.1 hmm
     obtain⟨g1,g2⟩:=free (H 0).length hlen fun j d hj hLj q4 hmm=>by
      cases hV j _ (qL0 (show j<all.size by omega)) hj with
      | out _ _ _ q5=>rw[q5] at q4;cases q4
      | op uj _ _ _ q5 q6=>
       rw[q5] at q4;cases q4;have:=q6 _ hmm;rw[hlenA j] at this;omega
     refine qoW B.ro n0 (qsA hE hS hs hrun hloc f2 f1 (hfs _ (hSb i)) ?_ ?_ ?_ fun X' v hs' hv'=>hnext X' v hs' (by rw[w3];exact qox hv')) (fun c hcc=>by rw[hcc] at hloc;cases hloc)
     ·rw[qas];exact g2
     ·rw[qas];exact g1
     ·rw[qas];exact hfs _ hlen
    | false=>
     unfold q5f at hrun;rw[hloc] at hrun;simp only at hrun;split at hrun
     ·obtain⟨q,k1,k2⟩:=bind_some hrun;split at k2
      case h_2=>cases k2
      cases k2;obtain⟨p1,p2⟩:=qwJ hE hS hs k1 fun X' v hs' hv'=>hnext X' v hs' (by rw[w3];exact qox hv');exact qoW B.ro n0 p1 p2
     obtain⟨av,k1,k2⟩:=bind_some hrun;simp only[Tree.run,qJc,qJO] at k2;obtain⟨rfl,k2⟩:=k2;refine qoW B.ro n0 (qsv hE hc hs k1 fun X' v hs' hv'=>hnext X' v (by rw[<-k2];exact hs') (by rw[w3];exact qox hv')) (fun c hcc=>by rw[hcc] at k1;simp[qcG,qcp,Tree.run] at k1)
  ·have hallb:∀j,j<m->listed.getD j false=true:=fun j hj=>before j (by omega) (hsuf i j him hin (by omega));rw[toEnd listed hallb] at hs;exact hlast i fuel listed X a hin him hsz hri hcl hm hallb hs hu
end
theorem quA {P:Program}(hm:P.follows .mixedOrders=true)(hE:E.tok P)(hS:E.specs P){callH:q8G}{B:Base}(hcH:CallOK E P callH B){callS:List Blk->q75}(hc:qiV E P callS)(hmo:q6C E callS){id:Nat}{all:Array Oper}{X:Ctx}{st st':St}{a:Act}(hs:Sim E B X st a) (h:(qA5 E callH callS all st).run=some st') {Q:Exit->Act->World->Prop} {n0:Nat} (hq:∀X' a',Sim E B X' st' a'->Q .normal a' X'.w):(Code.region id all true).wpIn (q50 B.ro) n0 P Q a X.w:=by
 apply wpIn_region_any hm;have hs1:=hs.drawn (X.w.drawn+1);generalize hX1:({ X with w:={ X.w with drawn:=X.w.drawn+1 } }:Ctx)=X1 at hs1;have hw:({ X.w with drawn:=X.w.drawn+1 }:World)=X1.w:=by rw[<-hX1]
 rw[hw];obtain⟨T0,fs,hb,pd⟩:=st;unfold qA5 at h;by_cases hdb:qAO all=false
 ·rw[if_pos hdb] at h;cases h
 ·rw[if_neg hdb] at h;have hd:=qCS (by simpa using hdb:qAO all=true);have hcl0:qmy all fun j=>(Array.replicate all.size false).getD j false:=by intro i o _ hL;have hL':(Array.replicate all.size false).getD i false=true:=hL;rw[qrR] at hL';cases hL'
  have hdst:uf all=fun i=>(all.toList[i]?).bind (·.dst):=by funext i;simp[uf]
  have hsl:=qCR all;have lt:∀b,(b∈AV.menL T0\/b∈qkX fs)\/b∈qc7 hb->b<hb.length:=fun b hb'=>by
   have hh:X.h=hb:=hs.h;rw[<-hh];rcases hb' with (h'|h')|h'
   ·exact hs.t.inB _ h'
   ·exact hs.fs.inB _ h'
   ·exact hs.hs.inB _ (by rw[hh];exact h')
  obtain⟨r,h1,h2⟩:=bind_some h;obtain⟨V,H0,D0,S,eS,e0,e1,e2,_,e5⟩:=qrl _ 0 _ [] _ r h1;simp only[qK5] at eS e1 e2 e5;have htlen:(all.toList.take (kT all)).length=kT all:=by simp;omega
  obtain⟨H,hH1,hH2⟩:∃H:Nat->List Blk,(∀i,i<=kT all->H i=H0 i)/\∀i,kT all<=i->H i=H (kT all):=
   ⟨fun i=>if i<=kT all then H0 i else H0 (kT all),fun i hi=>if_pos hi,fun i hi=>by
    simp only[qJe,if_true];split
    ·rw[show i=kT all by omega]
    ·rfl⟩
  obtain⟨D,hD1,hD2⟩:∃D:Nat->Option LDesc,(∀i,i<kT all->D i=D0 i)/\∀i,kT all<=i->D i=none:=
   ⟨fun i=>if i<kT all then D0 i else none,fun i hi=>if_pos hi,fun i hi=>if_neg (by omega)⟩
  have htk:∀i,i<kT all->(all.toList.take (kT all))[i]?=all[i]?:=by intro i hi;rw[qKg,if_pos hi];simp
  have hTm:∀i,i<=kT all->TLp (uf all) V T0 (fun _=>true) i=qdl V 0 ((all.toList.take (kT all)).take i) T0:=by intro i hi;rw[hdst,qDI i (by simp;omega),List.take_take,qKs hi]
  have hVA:∀i o,all[i]?=some o->i<kT all->LocOK E callS all (S i) i o (TLp (uf all) V T0 (fun _=>true) i) (V i) (H i) (H (i+1)) (D i):=by intro i o ho hi;rw[hTm i (by omega),hH1 i (by omega),hH1 (i+1) (by omega),hD1 i hi];exact e2 i o (by rw[htk i hi];exact ho)
  have hs0:∀(X':Ctx) (a':Act),Sim E B X' { t:=TLp (uf all) V T0 (fun _=>true) (kT all),fs:=fs,pend:=pd,h:=H (kT all) } a'->Sim E B X' r a':=by
   intro X' a' hs';have:r={ t:=TLp (uf all) V T0 (fun _=>true) (kT all),fs:=fs,pend:=pd,h:=H (kT all) }:=by rw[hTm _ (qJe _),e1,List.take_of_length_le (i:=kT all) (l:=all.toList.take (kT all)) (by simp;omega),htlen,hH1 _ (qJe _)]
   rw[this];exact hs'
  have hH00:H 0=hb++List.replicate (qIJ E (all.toList.take (kT all))) .dead:=by rw[hH1 0 (qKL _)];exact e0
  obtain⟨X2,hX2,hs2⟩:=Sim.padN (qIJ E (all.toList.take (kT all))) hs1;rw[<-hX2];have start:Sim E B X2 { t:=TLp (uf all) V T0 (fun j=>(Array.replicate all.size false).getD j false) all.size,fs:=fs,pend:=pd,h:=hLp (wOf D) H (H 0) (fun j=>(Array.replicate all.size false).getD j false) (kT all) } a:=by
   have q1:TLp (uf all) V T0 (fun j=>(Array.replicate all.size false).getD j false) all.size=T0:=by
    have:∀n,TLp (uf all) V T0 (fun j=>(Array.replicate all.size false).getD j false) n=T0:=by
     intro n;induction n with
     | zero=>rfl
     | succ n ih=>simp only[TLp];rw[if_neg (by rw[qrR];simp),ih]
    exact this _
   have q2:∀n,hLp (wOf D) H (H 0) (fun j=>(Array.replicate all.size false).getD j false) n=H 0:=by
    intro n;induction n with
    | zero=>rfl
    | succ n ih=>simp only[hLp];rw[if_neg (by rw[qrR];simp),ih]
   rw[q1,q2,hH00];exact hs2
  refine qBi (m:=kT all) (V:=V) (T0:=T0) (H:=H) (D:=D) (fs:=fs) (base:=hb.length) hE hS hc hmo hd hsl hVA (fun i j d d' hij hj q1 q2=>?_) hH2 hD2 (by rw[hH00];simp) eS (fun c hc hm'=>?_) (fun c hc hm'=>?_) (fun c hc hm'=>?_) ?_ ?_ (fun i j h1 h2 h3=>qlM all h1 h2 h3) all.size _ X2 a (by simp) hcl0 (fun i _ _=>qrR i) (qEt _ _) start
  ·rw[hD1 i (by omega)] at q1;rw[hD1 j hj] at q2;exact e5 i j d d' hij (by rw[htlen];exact hj) q1 q2
  ·have:=lt c (.inl (.inl hm'));omega
  ·have:=lt c (.inl (.inr hm'));omega
  ·rw[hH00,qx0] at hm';rcases qJG.1 hm' with hm'|hm'
   ·have:=lt c (.inr hm');omega
   ·exact qyd (fun z hz=>by rw[qLr] at hz;rw[hz.2];rfl) hm'
  ·intro hge X' a' hs';have hsz:kT all=all.size:=by omega
   rw[show TLp (uf all) V T0 (fun _=>true) all.size=TLp (uf all) V T0 (fun _=>true) (kT all) by rw[hsz]] at hs';have h3:=hs0 X' a' hs';rw[qKZ (by simp;omega)] at h2;simp only[qjg,Tree.run,qJc] at h2;rw[h2] at h3;exact hq X' a' h3
  ·intro i fuel listed X' a' hin him hsz hri hcl hlm hallm hs' hun;have hri':=hri;rw[mem_ready] at hri';obtain⟨g1,o,ho,gedge⟩:=hri';have hil:i<listed.size:=by omega
   have hLi:listed.getD i false=false:=by simpa[qKD,hil] using g1
   have hedge':∀e,e∈o.after.toList->Region.binds .any e=true->listed.getD e.on false=true:=fun e he hb=>gedge e (by simpa using he) hb;have hcl':=qlW hsz ho hcl hedge';have hallb:∀j,j<i->listed.getD j false=true:=by intro j hj;have hb':=qlM all him hin hj;have:=qr3 hd hcl' i j (by show (listed.setIfInBounds i true).getD i false=true;rw[q1c hil,if_pos rfl]) hb';have h':(listed.setIfInBounds i true).getD j false=true:=this;rw[q1c hil,if_neg (by omega)] at h';exact h'
   have him2:i=kT all:=by
    rcases qKR him with h3|h3
    ·exact h3.symm
    ·have h4:=hallb _ h3;rw[hlm _ (qJe _) (by omega)] at h4;cases h4
   have hcut:∀n,kT all<=n->n<=all.size->TLp (uf all) V T0 (fun j=>listed.getD j false) n=TLp (uf all) V T0 (fun _=>true) (kT all):=by
    intro n;induction n with
    | zero=>
     intro h3 _;have h0:kT all=0:=by omega
     rw[h0];rfl
    | succ n ihn=>
     intro h3 h4;rcases qKR h3 with h5|h5
     ·rw[<-h5];exact stL (kT all) fun j hj=>hallb j (by omega)
     ·simp only[TLp];rw[if_neg (by rw[hlm n (by omega) (by omega)];simp)];exact ihn (by omega) (by omega)
   rw[hcut _ hsl (qJe _)] at hs';have h3:=hs0 X' a' hs';subst him2;exact(qBx hE hcH hd hq _ (kT all) rfl (qJe _) (fuel+1) listed X' a' _ hsz (fun j hj _=>hallb j hj) (fun j hj=>by
    rcases qJl j all.size with h5|h5
    ·exact hlm j hj h5
    ·simp[show listed.size<=j by omega]) hun h3 h2).2 _ hri
end Go.Eng

namespace Go.Eng
variable {B:Base}{X:Ctx}{n:Nat}
theorem HSim.base {B B':Base}(h:HSim B X)(h0:B'.w0=B.w0)(h1:B'.imps=B.imps)(h2:B'.M0=B.M0):HSim B' X:=by obtain⟨w0,imps,M0,fs,ro,y,pin⟩:=B;obtain⟨w0',imps',M0',fs',ro',y',pin'⟩:=B';simp only at h0 h1 h2;subst h0 h1 h2;exact⟨h.blk,h.inj,h.notM,h.ltM,h.M0,h.newM,h.os,h.tape,h.output,h.size,h.frame,h.imps,h.impc,h.fresh,h.kept⟩
def qk5(o:Obj):Prop:=∀c T fr,o≠.cells c T fr
def qcA(n:Nat)(o:Obj)(l:List (Nat×Obj)):List (Nat×Obj):=l.map fun p=>if p.1=n then (n,o) else p
theorem q1n {p:Nat×Obj}{o:Obj}{l:List (Nat×Obj)}(h:p∈l)(hne:p.1≠n):p∈qcA n o l:=qK1.2 ⟨p,h,if_neg hne⟩
theorem qgd {o o':Obj}{l:List (Nat×Obj)}(h:(n,o)∈l):(n,o')∈qcA n o' l:=qK1.2 ⟨(n,o),h,if_pos rfl⟩
theorem qiB {p:Nat×Obj}{o:Obj}{l:List (Nat×Obj)}(h:p∈qcA n o l):p=(n,o)\/(p∈l/\p.1≠n):=by
 obtain⟨q,h1,h2⟩:=qK1.1 h;by_cases hq:q.1=n
 ·rw[if_pos hq] at h2;exact .inl h2.symm
 ·rw[if_neg hq] at h2;subst h2;exact .inr ⟨h1,hq⟩
structure SameCells (w w':World):Prop where
 cells:∀(n:Nat) c T fr,w.heap[n]?=some (.cells c T fr)->w'.heap[n]?=some (.cells c T fr)
 cell:∀a:Addr,a.block<w.heap.size->w'.cell? a=w.cell? a
theorem SameCells.blk {X X':Ctx}(hw:SameCells X.w X'.w)(hm:Move0 X X' some){b:Nat}{k:Blk}(hσ:X'.σ b=X.σ b)(h:jw X b k):jw X' b k:=by
 cases k with
 | cells cs=>
  obtain⟨n,c,T,e1,e2,e3⟩:=h;exact⟨n,c,T,by rw[hσ];exact e1,hw.cells _ _ _ _ e2,e3.ext0 hm⟩
 | big cs k N l=>
  obtain⟨n,c,T,vs,e1,e2,e3,e4,e5⟩:=h;exact⟨n,c,T,vs,by rw[hσ];exact e1,hw.cells _ _ _ _ e2,e3.ext0 hm,e4,e5⟩
 | vec e sh l=>
  rcases h with⟨e1,e2⟩|⟨n,c,e1,e2,e3⟩
  ·exact .inl ⟨by rw[hσ];exact e1,e2⟩
  ·exact .inr ⟨n,c,by rw[hσ];exact e1,hw.cells _ _ _ _ e2,e3.mono hm.M hm.w⟩
 | frz e sh l=>
  rcases h with⟨e1,e2⟩|⟨n,c,e1,e2,e3,e4⟩
  ·exact .inl ⟨by rw[hσ];exact e1,e2⟩
  ·exact .inr ⟨n,c,by rw[hσ];exact e1,hw.cells _ _ _ _ e2,e3.mono hm.M hm.w,hm.M n e4⟩
 | dead=>trivial
theorem quP (hs:HSim B X){w':World}{kept':List (Nat×Obj)}(hw:SameCells X.w w')(hsz:X.w.heap.size<=w'.heap.size)(ho:w'.os=X.w.os)(ht:w'.tape=X.w.tape)(hp:w'.output=X.w.output)(hf:∀n,n<B.w0.heap.size->w'.heap[n]?=X.w.heap[n]?) (hk:∀p,p∈kept'->w'.heap[p.1]?=some p.2/\qk5 p.2/\B.w0.heap.size<=p.1) :HSim B { X with w:=w',kept:=kept' }/\Move0 X { X with w:=w',kept:=kept' } some:=by
 have hm:Move0 X { X with w:=w',kept:=kept' } some:=
  ⟨fun _ h=>h,fun a ha=>hw.cell a (hs.ltM _ ha),fun b b' hb h=>by cases h;exact⟨hb,rfl,fun _ _ h=>h,fun _ _ _ n _ c T fr h=>⟨c,T,fr,hw.cells n c T fr h,rfl⟩⟩,rfl⟩
 refine⟨⟨fun b k hb=>SameCells.blk hw hm rfl (hs.blk b k hb),hs.inj,hs.notM,fun n hn=>qJW (hs.ltM n hn) hsz,hs.M0,hs.newM,ho.trans hs.os,ht.trans hs.tape,hp.trans hs.output,
  qJg hs.size hsz,fun n hn hi=>(hf n hn).trans (hs.frame n hn hi),hs.imps,hs.impc,hs.fresh,hk⟩,hm⟩
theorem qsR {w:World}{o o':Obj}(h:w.heap[n]?=some o)(ho:qk5 o)(ho':qk5 o'):SameCells w (w.putObj n o'):=by
 have hn:=(qJj.1 h).1;refine⟨fun m c T fr hm=>?_,fun a _=>?_⟩
 ·by_cases e:m=n
  ·subst e;rw[h] at hm;exact absurd (qJX hm) (ho _ _ _)
  ·rw[World.putObj_heap_other e];exact hm
 ·by_cases e:a.block=n
  ·unfold World.cell?;rw[e,h,World.putObj_heap_same hn];cases o'<;>cases o<;>first|rfl|exact absurd rfl (ho _ _ _)|exact absurd rfl (ho' _ _ _)
  ·exact qKf (World.putObj_heap_other e)
theorem qbq (hs:HSim B X){o o':Obj}(hk:(n,o)∈X.kept)(ho':qk5 o') :HSim B { X with w:=X.w.putObj n o',kept:=qcA n o' X.kept }/\Move0 X { X with w:=X.w.putObj n o',kept:=qcA n o' X.kept } some:=by
 obtain⟨h1,h2,h3⟩:=hs.kept _ hk;simp only at h1 h2 h3;have hn:=(qJj.1 h1).1;refine quP hs (qsR h1 h2 ho') (by simp) rfl rfl rfl (fun m hm=>World.putObj_heap_other (by omega)) fun p hp=>?_;rcases qiB hp with rfl|⟨hp,hne⟩
 ·exact⟨World.putObj_heap_same hn,ho',h3⟩
 ·obtain⟨g1,g2,g3⟩:=hs.kept p hp;exact⟨by rw[World.putObj_heap_other hne];exact g1,g2,g3⟩
theorem qjT (hs:HSim B X){o:Obj}(ho:qk5 o) :HSim B { X with w:=X.w.alloc o,kept:=(X.w.heap.size,o)::X.kept }/\Move0 X { X with w:=X.w.alloc o,kept:=(X.w.heap.size,o)::X.kept } some:=by
 refine quP hs ⟨fun m c T fr hm=>?_,fun a ha=>qKf (wo _ _ ha)⟩ (by simp) rfl rfl rfl (fun m hm=>wo _ _ (qJW hm hs.size)) fun p hp=>?_
 ·rw[wo _ _ (qJj.1 hm).1];exact hm
 ·rcases qJi.1 hp with rfl|hp
  ·exact⟨wt _ _,ho,hs.size⟩
  ·obtain⟨g1,g2,g3⟩:=hs.kept p hp;exact⟨by rw[wo _ _ (qJj.1 g1).1];exact g1,g2,g3⟩
theorem qvD (hs:HSim B X){p:Nat×Obj}(h:p∈X.kept):p.1<X.w.heap.size:=(qJj.1 (hs.kept p h).1).1
mutual
theorem Rep.setY'{X:Ctx}(l:Nat):∀{av:AV} {v:Value},Rep X av v->av.noY=true->Rep { X with y:=l } av v
 | _,_,.undef v,_=>.undef v
 | _,_,.skip,_=>.skip
 | _,_,.yld,h=>by cases h
 | _,_,.blit b,_=>.blit b
 | _,_,.bool b,_=>.bool b
 | _,_,.ilit k n,_=>.ilit k n
 | _,_,.int k n,_=>.int k n
 | _,_,.str s,_=>.str s
 | _,_,.nilp,_=>.nilp
 | _,_,.ptr b off n hb hσ,_=>.ptr b off n hb hσ
 | _,_,.eptr sh l i off a hsp h0 h1 hr,_=>.eptr sh l i off a hsp h0 h1 hr
 | _,_,.mnil sh l i off,_=>.mnil sh l i off
 | _,_,.mptr sh l i off a hsp h0 h1 hr,_=>.mptr sh l i off a hsp h0 h1 hr
 | _,_,.vptr b i off n k hb hσ h,_=>.vptr b i off n k hb hσ h
 | _,_,.vsub b i n k m c hb hσ h,_=>.vsub b i n k m c hb hσ h
 | _,_,.aptr b o i n hb hσ h0,_=>.aptr b o i n hb hσ h0
 | _,_,.asub b o N i m n k c hb hσ h0 h1 h2 h3,_=>.asub b o N i m n k c hb hσ h0 h1 h2 h3
 | _,_,.nils,_=>.nils
 | _,_,.imm sh l v h,_=>.imm sh l v h
 | _,_,.full sh l p n h,_=>.full sh l p n h
 | _,_,.vec b p nn cc hb h,_=>.vec b p nn cc hb h
 | _,_,.nilf,_=>.nilf
 | _,_,.fn g first caps vf vc h1 h2,h=>by
  simp only[AV.noY,qJx] at h;exact .fn g _ _ vf vc (RepL.setY' l h1 h.1) (RepL.setY' l h2 h.2)
 | _,_,.agg cs vs h1,h=>.agg _ vs (RepL.setY' l h1 (by simpa only [AV.noY] using h))
 | _,_,.tuple cs vs h1,h=>.tuple _ vs (RepL.setY' l h1 (by simpa only [AV.noY] using h))
 | _,_,.bagg cs k n r vs h1 hl,h=>.bagg _ k n r vs (RepL.setY' l h1 (by simpa only [AV.noY] using h)) hl
theorem RepL.setY'{X:Ctx}(l:Nat):∀{av:List AV} {v:List Value},RepL X av v->AV.noYL av=true->RepL { X with y:=l } av v
 | _,_,.nil,_=>.nil
 | _,_,.cons h1 t,h=>by
  simp only[AV.noYL,qJx] at h;exact .cons (Rep.setY' l h1 h.1) (RepL.setY' l t h.2)
end
theorem Rep.setY (l:Nat){av:AV}{v:Value}(h:av.noY=true)(hr:Rep X av v):Rep { X with y:=l } av v:=hr.setY' l h
theorem RepL.setY (l:Nat){av:List AV}{v:List Value}(h:AV.noYL av=true)(hr:RepL X av v):RepL { X with y:=l } av v:=hr.setY' l h
theorem HSim.setY (h:HSim B X)(l:Nat)(hy:X.h.all Blk.noY=true):HSim B { X with y:=l }:=by
 refine⟨fun b k hb=>?_,h.inj,h.notM,h.ltM,h.M0,h.newM,h.os,h.tape,h.output,h.size,h.frame,h.imps,h.impc,h.fresh,h.kept⟩;have h1:=h.blk b k hb;cases k with
 | cells cs=>
  obtain⟨n,c,T,e1,e2,e3⟩:=h1;have:(Blk.cells cs).noY=true:=qJL.1 hy _ (qKt hb);exact⟨n,c,T,e1,e2,e3.setY l this⟩
 | big cs k N r=>
  obtain⟨n,c,T,vs,e1,e2,e3,e4,e5⟩:=h1;have:(Blk.big cs k N r).noY=true:=qJL.1 hy _ (qKt hb);exact⟨n,c,T,vs,e1,e2,e3.setY l this,e4,e5⟩
 | vec e sh l=>exact h1
 | frz e sh l=>exact h1
 | dead=>trivial
theorem qtq {gl:List (Nat×AV)}(h:q5D gl X)(l:Nat):q5D gl { X with y:=l }:=by intro x hx;obtain⟨⟨sh,r,i,off,he⟩,hr⟩:=h x hx;refine⟨⟨sh,r,i,off,he⟩,hr.move (fun _ h=>h) (fun _ _=>rfl) (Rep.setY l (by rw[he];rfl) hr.1)⟩
theorem qgM {gl:List (Nat×AV)}{X X':Ctx}(hm:Move0 X X' some)(h:q5D gl X):q5D gl X':=fun x hx=>⟨(h x hx).1,(h x hx).2.move hm.M hm.w ((h x hx).2.1.ext0 hm)⟩
theorem Sim.moveB {E:Env}{B B':Base}{X X':Ctx}{st:St}{a:Act}(hs:Sim E B X st a)(h1:HSim B' X')(h2:Move0 X X' some)(h3:X'.h=X.h)(hfs:B'.fs=B.fs)(hy:B'.y=B.y)(hi:B'.imps=B.imps){ds:List Deferred} (h4:qwF X'.kept (B'.pin st.pend) ds) (h5:∀p,p∈B'.pin st.pend->p∈X'.kept):Sim E B' X' st { a with defers:=ds }:=⟨h1,h3.trans hs.h,hs.t.ext0 h2,hfs▸hs.fs.ext0 h2,qgM h2 hs.glob,h4,hi▸hs.ni,(h2.y.trans hs.y).trans hy.symm,h5⟩
def Ex.out:Ex->Exit
 | .normal=>.normal
 | .exit i=>.exit i
 | .ret=>.ret
def qvA(E:Env)(B:Base)(r:Ex×St):Exit->Act->World->Prop:=fun e a w=>e=r.1.out/\∃X',X'.w=w/\Sim E B X' r.2 a
def Ex.code:Ex->Code
 | .normal=>.skip
 | .exit i=>.exit i
 | .ret=>.ret
def q7k(fid:FuncId)(ct:Array Value)(ps:Array Tmp)(a b:Code)(D:Nat)(e:Option Ex):Loop:={ state:=if e.isNone then .ready else .done,pending:=e.map Ex.code,fn:=fid,tmps:=ct,params:=ps,assign:=a,body:=b,defers:=D }
def zr:Code->List Code
 | .seq a b=>.seq a b::(zr a++zr b)
 | .cond _ a b=>zr a++zr b
 | .block _ c=>zr c
 | .scope c=>zr c
 | .loop c=>.loop c::zr c
 | .rangeFunc x ps a b=>.rangeFunc x ps a b::(zr a++zr b)
 | _=>[]
def qwd(P:Program)(yc:FuncId×Nat)(B:Base):Prop:=
 ∃(fn:Func) (c:Code) (x:Operand) (ps:Array Tmp) (a b:Code),P.funcs[yc.1]?=some fn/\fn.body=some c/\(zr c)[yc.2]?=some (.rangeFunc x ps a b) /\
  ∃(ct:Array Value) (rest:List (List Value)) (D fid:Nat) (more:List (Nat×Obj)),B.fs=ct.toList::rest/\(∀e,B.pin e=(B.y,.loop (q7k fid ct ps a b D e))::more)/\(∀p,p∈more->p.1≠B.y)/\B.ro=none
def qx(P:Program)(it:List (FuncId×FuncId×Nat))(f:FuncId)(B:Base):Prop:=
 (B.ro.isSome=true->2<=B.fs.length)/\match qhi it f with
  | none=>True
  | some yc=>qwd P yc B
structure SimF (E:Env) (B:Base) (X:Ctx) (st:St):Prop where
 hs:HSim B X
 h:X.h=st.h
 fs:RepLL X (st.t::st.fs) B.fs
 glob:q5D E.glob X
 ni:B.imps.length<=E.nimp
 y:X.y=B.y
 pin:∀p,p∈B.pin st.pend->p∈X.kept
def YOK(E:Env)(P:Program)(y:qyD)(B:Base):Prop:=
 ∀(args:List AV) (st:St) (r:AV×St) (X:Ctx) (a:Act) (vargs:List Value),Sim E B X st a->RepL X args vargs->(y args st).run=some r ->
  ∃(l:Nat) (f:FuncId) (tmps:Array Value) (assign body:Code),(Instr.yield X.y vargs.toArray).run P X.w=.ok (.round l f tmps assign body) X.w /\
  ∀n,RoundIn (q50 B.ro) n P l f tmps assign body X.w fun e w'=>∃v X',e=.returned v/\X'.w=w'/\Rep X' r.1 v/\Sim E B X' r.2 a
def qiA(E:Env)(P:Program)(rangeH:qdA):Prop:=
 ∀(g:FuncId) (y:qyD) (args:List AV) (st:St) (r:AV×St) (B:Base) (X:Ctx) (vargs:List Value),SimF E B X st->qx P E.iter g B->(∀B',qx P E.iter g B'->YOK E P y B')->B.ro=none ->
  RepL X args vargs->(rangeH g y args st).run=some r ->
  (∀w,(callFunc g vargs.toArray).run P w=.ok (.enter g vargs.toArray) w) /\
  Calls P g vargs.toArray X.w fun e w'=>∃v X',e=.returned v/\X'.w=w'/\Rep X' r.1 v/\SimF E B X' r.2
theorem qrf{X:Ctx}:∀(ps:List Tmp) {ct:List AV} {tmps:Array Value} {args:List AV} {vargs:List Value},RepL X ct tmps.toList->RepL X args vargs ->
  RepL X (qoI ct ps args) ((ps.zip vargs).foldl (fun (tmps:Array Value) (p:Tmp×Value)=>tmps.setIfInBounds p.1 p.2) tmps).toList
 | [],_,_,args,_,h,_=>by cases args<;>simpa[qoI] using h
 | p::ps,ct,tmps,_,_,h,.nil=>by simpa[qoI] using h
 | p::ps,ct,tmps,_,_,h,.cons h1 h2=>by
  simp only[qoI,List.zip_cons_cons,qL5];exact qrf ps (by rw[Array.toList_setIfInBounds];exact RepL.set h1 h p) h2
theorem qx9 {E:Env}{P:Program}{f:FuncId}{k:Nat}{fn:Func}{cb:Code}(hf:P.funcs[f]?=some fn)(hb:fn.body=some cb){x:Operand}{ps:Array Tmp}{a b:Code}(hk:(zr cb)[k]?=some (.rangeFunc x ps a b)){evA evB:St->Tree (Ex×St)} (hni:q84 E.iter f=true)(hA:∀(B:Base) (X:Ctx) (st:St) (act:Act) (r:Ex×St),qx P E.iter f B->Sim E B X st act->(evA st).run=some r->∀n,a.wpIn (q50 B.ro) n P (qvA E B r) act X.w)(hB:∀(B:Base) (X:Ctx) (st:St) (act:Act) (r:Ex×St),qx P E.iter f B->Sim E B X st act->(evB st).run=some r->∀n,b.wpIn (q50 B.ro) n P (qvA E B r) act X.w){B:Base} (hI:qwd P (f,k) B):YOK E P (qtm evA evB ps.toList) B:=by
 intro args st r X act vargs hs hargs hr;obtain⟨fn',c',x',ps',a',b',q1,q2,q3,ct,rest,D,fid,more,q4,q5,q6,q7⟩:=hI;simp only at q1 q3;rw[hf] at q1;cases q1;rw[hb] at q2;cases q2;rw[hk] at q3;cases q3;unfold qtm at hr;cases hp:st.pend with
 | some e=>rw[hp] at hr;cases hr
 | none=>
 rw[hp] at hr;cases hfs:st.fs with
 | nil=>rw[hfs] at hr;cases hr
 | cons ctA fsA=>
 rw[hfs] at hr;simp only at hr;cases hlen:Nat.beq args.length ps.toList.length with
 | false=>rw[hlen] at hr;cases hr
 | true=>
 rw[hlen] at hr;simp only at hr;have hlen':=qKd hlen;obtain⟨rA,h1,h2⟩:=bind_some hr;obtain⟨xA,sA⟩:=rA;cases xA with
 | exit i=>cases h2
 | ret=>cases h2
 | normal=>
 simp only at h2;obtain⟨rB,h3,h4⟩:=bind_some h2;have hpin:=hs.pin;have hdf:=hs.df;rw[hp,q5] at hpin hdf;have hrec:(B.y,.loop (q7k fid ct ps a b D none))∈X.kept:=hpin _ qJs;have hheap:=(hs.hs.kept _ hrec).1;simp only at hheap;have hfsR:=hs.fs;rw[hfs,q4] at hfsR;have hct:RepL X ctA ct.toList:=by cases hfsR with|cons g1 g2=>exact g1
 refine⟨B.y,fid,((ps.zip vargs.toArray).foldl (fun (tmps:Array Value) (p:Tmp×Value)=>tmps.setIfInBounds p.1 p.2) ct),a,b,?_,fun n=>?_⟩
 ·rw[hs.y];exact run_yield (r:=q7k fid ct ps a b D none) hheap (by simp only[q7k,List.size_toArray];rw[<-hargs.length,hlen',Array.length_toList])
 rw[q7];apply roundIn_of_wpIn (F:=q50 none) trivial
 let BR:Base:={ B with ro:=some B.y,fs:=act.tmps.toList::B.fs,pin:=fun _=>X.kept }
 have hbR:∀pin,qx P E.iter f { BR with pin:=pin }:=by
  intro pin;refine⟨fun _=>?_,?_⟩
  ·show 2<=(act.tmps.toList::B.fs).length;rw[q4];simp
  ·unfold q84 at hni;split at hni
   ·cases hni
   ·rename_i hn;rw[hn];trivial
 have hsR:Sim E BR X { t:=qoI ctA ps.toList args,fs:=st.t::ctA::fsA,h:=st.h,pend:=none } { tmps:=((ps.zip vargs.toArray).foldl (fun (tmps:Array Value) (p:Tmp×Value)=>tmps.setIfInBounds p.1 p.2) ct),defers:=[] }:=by
  refine⟨hs.hs.base rfl rfl rfl,hs.h,?_,?_,hs.glob,qwF.nil,hs.ni,hs.y,fun p hp=>hp⟩
  ·have:=qrf ps.toList hct hargs;rw[<-Array.foldl_toList,Array.toList_zip];exact this
  ·show RepLL X _ (act.tmps.toList::B.fs);rw[<-hfs];exact .cons hs.t hs.fs
 refine wpIn_mono (hA BR X _ _ _ (hbR _) hsR h1 n) fun e a1 w1 ⟨he,X1,hw1,hs1⟩=>?_;subst he hw1;have hrec1:(B.y,.loop (q7k fid ct ps a b D none))∈X1.kept:=hs1.pin _ hrec;obtain⟨g1,g2⟩:=qbq hs1.hs (o':=.loop { q7k fid ct ps a b D none with state:=.busy }) hrec1 (fun _ _ _ h=>by cases h);refine⟨_,run_beginRound (r:=q7k fid ct ps a b D none) (hs1.hs.kept _ hrec1).1 rfl,?_⟩
 let pinB:List (Nat×Obj):=qcA B.y (.loop { q7k fid ct ps a b D none with state:=.busy }) X.kept
 obtain⟨Ds1,d1,d2,d3⟩:=hs1.df;have hsB:Sim E { BR with pin:=fun _=>pinB } { X1 with w:=X1.w.putObj B.y (.loop { q7k fid ct ps a b D none with state:=.busy }),kept:=qcA B.y (.loop { q7k fid ct ps a b D none with state:=.busy }) X1.kept } sA a1:=by
  refine hs1.moveB (B':={ BR with pin:=fun _=>pinB }) (ds:=a1.defers) (g1.base rfl rfl rfl) g2 rfl rfl rfl rfl ⟨Ds1,d1,d2,fun D' hD'=>⟨q1n (d3 D' hD').1 (fun e=>(d3 D' hD').2 _ hrec e.symm),fun p hp=>?_⟩⟩ fun p hp=>?_
  ·rcases qiB hp with hp|⟨hp,_⟩
   ·rw[hp];exact fun e=>(d3 D' hD').2 _ hrec e
   ·exact(d3 D' hD').2 _ hp
  ·rcases qiB hp with rfl|⟨hp,hne⟩
   ·exact qgd hrec1
   ·exact q1n (hs1.pin _ hp) hne
 refine wpIn_mono (hB _ _ _ _ _ (hbR _) hsB h3 n) fun e2 a2 w2 ⟨he2,X2,hw2,hs2⟩=>?_;subst he2 hw2;obtain⟨xB,sB⟩:=rB;have hrec2:(B.y,.loop { q7k fid ct ps a b D none with state:=.busy })∈X2.kept:=hs2.pin _ (qgd hrec);have hlie2:=(hs2.hs.kept _ hrec2).1;simp only at hlie2;simp only at h4;cases hfs2:sB.fs with
 | nil=>rw[hfs2] at h4;cases h4
 | cons itA fs'=>
 rw[hfs2] at h4;simp only at h4;have fin:∀(e:Option Ex) (_:r=(.blit e.isNone,{ t:=itA,fs:=fs',h:=sB.h,pend:=e })) (_:e=none\/∃x,e=some x),
   ∃v w',(Instr.endRound B.y (e.map Ex.code)).run P X2.w=.ok v w'/\∃v' X',Ending.returned v=.returned v'/\X'.w=w'/\Rep X' r.1 v'/\Sim E B X' r.2 act:=by
  intro e hre _;have hend:=run_endRound (P:=P) (r:={ q7k fid ct ps a b D none with state:=.busy }) (e.map Ex.code) hlie2;have hobj:({ ({ q7k fid ct ps a b D none with state:=.busy }:Loop) with state:=if (e.map Ex.code).isNone then .ready else .done,pending:=e.map Ex.code }:Loop)=q7k fid ct ps a b D e:=by cases e<;>rfl
  rw[hobj] at hend;obtain⟨k1,k2⟩:=qbq hs2.hs (o':=.loop (q7k fid ct ps a b D e)) hrec2 (fun _ _ _ h=>by cases h);refine⟨_,_,hend,_,{ X2 with w:=X2.w.putObj B.y (.loop (q7k fid ct ps a b D e)),kept:=qcA B.y (.loop (q7k fid ct ps a b D e)) X2.kept },rfl,rfl,?_,?_⟩
  ·rw[hre];have:(e.map Ex.code).isNone=e.isNone:=by cases e<;>rfl
   rw[this];exact .blit _
  ·have hfs3:=hs2.fs;rw[hfs2] at hfs3;have hfs4:=hfs3.ext0 k2;have hold:∀p,p∈X.kept->p.1≠B.y->p∈qcA B.y (.loop (q7k fid ct ps a b D e)) X2.kept:=fun p hp hne=>
    q1n (hs2.pin p (q1n hp hne)) hne
   rw[hre];refine⟨k1.base rfl rfl rfl,hs2.h,?_,?_,qgM k2 hs2.glob,?_,hs.ni,hs2.y,?_⟩
   ·cases hfs4 with|cons z1 z2=>exact z1
   ·cases hfs4 with|cons z1 z2=>exact z2
   ·obtain⟨Ds,m1,m2,m3⟩:=hdf;refine⟨Ds,m1,m2,fun D' hD'=>⟨hold _ (m3 D' hD').1 (fun e'=>(m3 D' hD').2 _ qJs e'.symm),fun p hp=>?_⟩⟩;rw[q5] at hp;rcases qJi.1 hp with rfl|hp
    ·exact(m3 D' hD').2 (B.y,.loop (q7k fid ct ps a b D none)) qJs
    ·exact(m3 D' hD').2 p (qJy _ hp)
   ·intro p hp;rw[q5] at hp;rcases qJi.1 hp with rfl|hp
    ·exact qgd hrec2
    ·exact hold p (hpin p (qJy _ hp)) (q6 p hp)
 cases xB with
 | normal=>
  simp only[Tree.run,qJc] at h4;exact fin none h4.symm (.inl rfl)
 | ret=>
  simp only[Tree.run,qJc] at h4;exact fin (some .ret) h4.symm (.inr ⟨_,rfl⟩)
 | exit i=>
  simp only[Tree.run,qJc] at h4;exact fin (some (.exit i)) h4.symm (.inr ⟨_,rfl⟩)
theorem qum{E:Env}{P:Program}{B:Base}{fn:Func}{st:St}{R:Ending->World->Prop}{n:Nat}:∀(Ds:List Nat) {X:Ctx} {a:Act},Sim E B X st a->a.defers=Ds.map qir ->
  (∀X',Sim E B X' st { a with defers:=[] }->∃v,(results fn a.tmps).run P X'.w=.ok v X'.w/\R (.returned v) X'.w)->LeavesInM (q50 none) n P fn a.tmps R (Ds.map qir) .returning X.w
 | [],X,a,hs,hd,h=>by
  have:({ a with defers:=[] }:Act)=a:=by obtain⟨t,d⟩:=a;simp only[List.map_nil] at hd;rw[hd]
  rw[this] at h;exact h X hs
 | D::Ds,X,a,hs,hd,h=>by
  obtain⟨Ds',d1,d2,d3⟩:=hs.df;have hDs:Ds'=D::Ds:=by
   rw[hd] at d1;have inj:∀(l m:List Nat),l.map qir=m.map qir->m=l:=by
    intro l;induction l with
    | nil=>intro m hm;cases m with
     | nil=>rfl
     | cons _ _=>cases hm
    | cons x l ih=>intro m hm;cases m with
     | nil=>cases hm
     | cons y m=>
      simp only[qKi,qKK,qir,Deferred.mk.injEq,Target.collected.injEq,and_true] at hm;rw[ih m hm.2,hm.1]
   exact inj _ _ d1
  subst hDs;obtain⟨m1,m2⟩:=d3 D qJs;have hlie:=(hs.hs.kept _ m1).1;simp only at hlie;obtain⟨g1,g2⟩:=qbq hs.hs (o':=.deferred none) m1 (fun _ _ _ h=>by cases h);have hnd:=List.nodup_cons.1 d2;have hs':=hs.moveB (B':=B) (ds:=Ds.map qir) g1 g2 rfl rfl rfl rfl ⟨Ds,rfl,hnd.2,fun D' hD'=>⟨q1n (d3 D' (qJy _ hD')).1 (fun e=>hnd.1 (e▸hD')),(d3 D' (qJy _ hD')).2⟩⟩
   (fun p hp=>q1n (hs.pin p hp) (m2 p hp))
  refine⟨by simp,.inl ⟨D,_,rfl,run_takeDeferred hlie,?_⟩⟩;exact qum Ds (a:={ a with defers:=Ds.map qir }) hs' rfl h
end Go.Eng

namespace Go.Eng
variable {B:Base}{E:Env}{P:Program}{X:Ctx}{a:Act}{f:FuncId}{fn:Func}{st:St}
theorem Sim.env {E E':Env}(he:E.glob=E'.glob)(hn:E.nimp=E'.nimp)(hs:Sim E B X st a):Sim E' B X st a:=⟨hs.hs,hs.h,hs.t,hs.fs,he▸hs.glob,hs.df,hn▸hs.ni,hs.y,hs.pin⟩
theorem kn:∀c:Code,(zr c).length=zQ c:=by
 intro c;induction c<;>simp_all [zr,zQ]
 all_goals omega
theorem qgk{f k:Nat}{L:St->Tree (Ex×St)}:∀{l:List ((Nat×Nat)×(St->Tree (Ex×St)))},q9d l f k=some L->((f,k),L)∈l
 | [],h=>by cases h
 | x::l,h=>by
  simp only[q9d] at h;split at h
  ·rename_i hb;cases h;simp only[qJx] at hb;have h1:=qKd hb.1;have h2:=qKd hb.2;have:x=((f,k),x.2):=by obtain⟨⟨a,b⟩,c⟩:=x;simp only at h1 h2;rw[h1,h2]
   exact this▸qJs
  ·exact qJy _ (qgk h)
def ql(P:Program)(gl:List (Nat×AV))(ni:Nat)(BO:Base->Prop)(c:Code)(L:St->Tree (Ex×St)):Prop:=∀(E:Env) (B:Base) (X:Ctx) (st:St) (a:Act) (r:Ex×St),E.glob=gl->E.nimp=ni->BO B->Sim E B X st a->(L st).run=some r->∀(n0:Nat),c.wpIn (q50 B.ro) n0 P (qvA E B r) a X.w
def Env.loopsOK(E:Env)(P:Program):Prop:=∀x,x∈E.loops->∃fn c c',P.funcs[x.1.1]?=some fn/\fn.body=some c/\(zr c)[x.1.2]?=some c'/\ql P E.glob E.nimp (qx P E.iter x.1.1) c' x.2
theorem qEa {rangeH:qdA}(hrg:qiA E P rangeH)(hf:P.funcs[f]?=some fn){cb:Code}(hb:fn.body=some cb){k:Nat}{x:Operand}{ps:Array Tmp}{a b:Code}(hk:(zr cb)[k]?=some (.rangeFunc x ps a b)) {evA evB:St->Tree (Ex×St)}(hA:∀(B:Base) (X:Ctx) (st:St) (act:Act) (r:Ex×St),qx P E.iter f B->Sim E B X st act->(evA st).run=some r->∀n,a.wpIn (q50 B.ro) n P (qvA E B r) act X.w)(hB:∀(B:Base) (X:Ctx) (st:St) (act:Act) (r:Ex×St),qx P E.iter f B->Sim E B X st act->(evB st).run=some r->∀n,b.wpIn (q50 B.ro) n P (qvA E B r) act X.w){B:Base} {X:Ctx} {st:St} {act:Act} {r:Ex×St} {n0:Nat} (hbo:qx P E.iter f B) (hs:Sim E B X st act) {g:FuncId} {first caps:List AV} (hx:E.opd st.t x=.fn g first caps)(hc:(qrv E.iter g f k&&q84 E.iter f&&qww st)=true) (h:((rangeH g (qtm evA evB ps.toList) (first++[.yld]++caps) st).bind qBT).run=some r) :(Code.rangeFunc x ps a b).wpIn (q50 B.ro) n0 P (qvA E B r) act X.w:=by
  simp only[qJx] at hc;obtain⟨⟨hit,hni⟩,htop⟩:=hc;have htop':st.fs=[[]]/\st.pend=none/\AV.noYL st.t=true/\st.h.all Blk.noY=true:=by
    unfold qww at htop;split at htop
    · rename_i h1 h2
      simp only[qJx] at htop;exact⟨h1,h2,htop.1,htop.2⟩
    · cases htop
  obtain⟨t1,t2,t3,t4⟩:=htop';have hBfs:B.fs=[[]]:=by
    have:=hs.fs;rw[t1] at this;generalize B.fs=l at this;cases this with
    | cons g1 g2=>cases g1;cases g2;rfl
  have hro:B.ro=none:=by
    cases hr:B.ro with
    | none=>rfl
    | some l =>
      have:=hbo.1 (by rw[hr];rfl);rw[hBfs] at this;simp at this
  have hfi:qhi E.iter g=some (f,k):=by
    unfold qrv at hit;split at hit
    · rename_i y hy
      simp only[qJx] at hit;rw[hy];obtain⟨y1,y2⟩:=y;have e1:y1=f:=qKd hit.1;have e2:y2=k:=qKd hit.2;rw[e1,e2]
    · cases hit
  obtain⟨q,h1,h2⟩:=bind_some h;have hvx:=q8l hs x;rw[hx] at hvx;generalize hev:act.eval x=vx at hvx;cases hvx with
  | fn _ _ _ vf vc g1 g2 =>
  rw[hro];apply wpIn_rangeFunc;intro fid _
  let D:=X.w.heap.size
  let l:=X.w.heap.size+1
  let rec0:Obj:=.loop (q7k fid act.tmps ps a b D none)
  obtain⟨k1,k2⟩:=qjT hs.hs (o:=.deferred (some [])) (fun _ _ _ h=>by cases h);obtain⟨k3,k4⟩:=qjT k1 (o:=rec0) (fun _ _ _ h=>Obj.noConfusion h)
  let X1:Ctx:={ X with w:=(X.w.alloc (.deferred (some []))).alloc rec0,kept:=(l,rec0)::(D,.deferred (some []))::X.kept }
  have hsz:(X.w.alloc (.deferred (some []))).heap.size=l:=by simp[l]
  have hX1:({ ({ X with w:=X.w.alloc (.deferred (some [])),kept:=(X.w.heap.size,.deferred (some []))::X.kept }:Ctx) with w:=(X.w.alloc (.deferred (some []))).alloc rec0,kept:=((X.w.alloc (.deferred (some []))).heap.size,rec0)::(X.w.heap.size,.deferred (some []))::X.kept }:Ctx)=X1:=by rw[hsz]
  have k3':HSim B X1:=hX1▸k3;have k4':Move0 { X with w:=X.w.alloc (.deferred (some [])),kept:=(X.w.heap.size,.deferred (some []))::X.kept } X1 some:=hX1▸k4;have hall:X1.h.all Blk.noY=true:=by show X.h.all Blk.noY=true;rw[hs.h];exact t4
  let X2:Ctx:={ X1 with y:=l }
  have hs2:HSim B X2:=k3'.setY l hall
  let B1:Base:={ B with fs:=act.tmps.toList::B.fs,ro:=none,y:=l,pin:=fun e=>(l,.loop (q7k fid act.tmps ps a b D e))::(D,.deferred (some []))::X.kept }
  have hlt:∀p,p∈(D,(.deferred (some []):Obj))::X.kept->p.1≠l:=by
    intro p hp;rcases qJi.1 hp with rfl|hp
    · show D≠l;simp[D,l]
    · have:=qvD hs.hs hp;simp only[l];omega
  have hI:qwd P (f,k) B1:=⟨fn,cb,x,ps,a,b,hf,hb,hk,act.tmps,B.fs,D,fid,(D,.deferred (some []))::X.kept,rfl,fun e=>rfl,hlt,rfl⟩;have hB1:qx P E.iter g B1:=⟨fun h=>(by cases h),by rw[hfi];exact hI⟩;have hargs:RepL X2 (first++[.yld]++caps) (vf++[Value.func (.yield l) #[] #[]]++vc):=by
    have hno:AV.noYL first=true/\AV.noYL caps=true:=by
      have hn:(AV.fn g first caps).noY=true:=by
        rw[<-hx];cases x with
        | tmp i =>
          simp only[Env.opd];rw[qJd];cases hi:st.t[i]? with
          | none=>rfl
          | some v =>
            have:∀(l:List AV),AV.noYL l=true->∀v,v∈l->v.noY=true:=by
              intro l;induction l with
              | nil=>intro _ v hv;cases hv
              | cons y l ih =>
                intro hl v hv;simp only[AV.noYL,qJx] at hl;rcases qJi.1 hv with rfl|hv
                · exact hl.1
                · exact ih hl.2 v hv
            exact this _ t3 v (qKt hi)
        | const v => rw [show E.opd st.t (.const v) = ofV v from rfl] at hx; unfold ofV at hx; split at hx; · cases hx
                     · unfold jx at hx;split at hx<;>first|cases hx|(split at hx<;>cases hx)
        | global g' =>
          simp only[Env.opd] at hx;cases hg:E.glob.find? fun x=>x.1==g' with
          | none=>rw[hg] at hx;cases hx
          | some y =>
            rw[hg] at hx;obtain⟨⟨sh,r',i,off,he⟩,_⟩:=hs.glob y (qK7 hg);simp only[qJR,qKq] at hx;rw[he] at hx;cases hx
        | func f'=>rw[show E.opd st.t (.func f')=.fn f' [] [] from rfl] at hx;cases hx;rfl
      simpa only [AV.noY,qJx] using hn
    have m1:RepL X1 first vf:=(g1.ext0 k2).ext0 k4'
    have m2:RepL X1 caps vc:=(g2.ext0 k2).ext0 k4';exact((m1.setY l hno.1).append (.cons .yld .nil)).append (m2.setY l hno.2)
  have hF:SimF E B1 X2 st:=by have m1:RepL X1 st.t act.tmps.toList:=(hs.t.ext0 k2).ext0 k4';refine⟨hs2.base rfl rfl rfl,hs.h,?_,qtq (qgM k4' (qgM k2 hs.glob)) l,hs.ni,rfl,fun p hp=>by rw[t2] at hp;exact hp⟩;show RepLL X2 _ (act.tmps.toList::B.fs);rw[t1,hBfs];exact .cons (m1.setY l t3) (.cons .nil .nil)
  obtain⟨henter,hcalls⟩:=hrg g _ _ st q B1 X2 _ hF hB1 (fun B' hB'=>by obtain⟨_,h'⟩:=hB';rw[hfi] at h';exact qx9 hf hb hk hni hA hB h') rfl hargs h1;refine⟨l,[qir D],X1.w,{ target:=.fn (.func g) vc.toArray,args:=vf.toArray++#[Value.func (.yield l) #[] #[]] },X1.w,g,(vf++[Value.func (.yield l) #[] #[]]++vc).toArray,X1.w,?_,?_,fun _ _=>trivial,?_,qdX none,?_⟩
  · exact run_enterLoop_outer fid act.tmps ps a b
  · simp only[resolve,hev,Deferred.ofValue,qJN]
    simp[Act.eval]
  · simp only[invoke]
    have:vf.toArray++#[Value.func (.yield l) #[] #[]]++vc.toArray=(vf++[Value.func (.yield l) #[] #[]]++vc).toArray:=by apply qKz;simp
    rw[this];exact henter X1.w
  · refine qzI.2 (hcalls.mono fun e w' ⟨v,X',e1,e2,_,hF'⟩=>?_)
    subst e1 e2;have hpin:=hF'.pin;have hrec:(l,.loop (q7k fid act.tmps ps a b D q.2.pend))∈X'.kept:=hpin _ qJs;have hlie:=(hF'.hs.kept _ hrec).1;simp only at hlie;have hbusy:(q7k fid act.tmps ps a b D q.2.pend).state≠.busy:=by simp only[q7k];split<;>simp
    obtain⟨m1,m2⟩:=qbq hF'.hs (o':=.loop { q7k fid act.tmps ps a b D q.2.pend with state:=.exhausted }) hrec (fun _ _ _ h=>by cases h);refine⟨_,_,run_endLoop hlie hbusy,?_⟩;unfold qBT at h2;cases htq:qww { q.2 with pend:=none } with
    | false=>rw[htq] at h2;cases h2
    | true =>
    rw[htq] at h2;simp only at h2;have htop2:q.2.fs=[[]]/\AV.noYL q.2.t=true/\q.2.h.all Blk.noY=true:=by
      unfold qww at htq;split at htq
      · rename_i h1 h2
        simp only[qJx] at htq;exact⟨h1,htq.1,htq.2⟩
      · cases htq
    obtain⟨u1,u2,u3⟩:=htop2
    let X3:Ctx:={ X' with w:=X'.w.putObj l (.loop { q7k fid act.tmps ps a b D q.2.pend with state:=.exhausted }),kept:=qcA l (.loop { q7k fid act.tmps ps a b D q.2.pend with state:=.exhausted }) X'.kept }
    have hsim:Sim E B { X3 with y:=B.y } { q.2 with pend:=none } { act with defers:=[qir D]++act.defers }:=by
      have hfs':=hF'.fs.ext0 m2;have hold:∀p,p∈(D,(.deferred (some []):Obj))::X.kept->p∈X3.kept:=fun p hp=>q1n (hpin p (qJy _ hp)) (hlt p hp);have hfs2:RepLL X3 (q.2.t::q.2.fs) (act.tmps.toList::B.fs):=hfs';refine⟨((m1.base (B':=B) rfl rfl rfl).setY B.y (by show X'.h.all Blk.noY=true;rw[hF'.h];exact u3)),hF'.h,?_,?_,qtq (qgM m2 hF'.glob) B.y,?_,hs.ni,rfl,?_⟩
      · cases hfs2 with|cons z1 z2=>exact z1.setY B.y u2
      · show RepLL _ q.2.fs B.fs
        rw[u1,hBfs];exact .cons .nil .nil
      · obtain⟨Ds,d1,d2,d3⟩:=hs.df
        rw[t2] at d3;refine⟨D::Ds,by rw[d1];rfl,List.nodup_cons.2 ⟨fun hD=>?_,d2⟩,fun D' hD'=>?_⟩
        · have:=qvD hs.hs (d3 D hD).1
          simp[D] at this
        · rcases qJi.1 hD' with rfl|hD'
          · refine⟨hold _ qJs,fun p hp=>?_⟩
            have hp':=hs.pin p (by rw[t2];exact hp);have:=qvD hs.hs hp';simp only[D];omega
          · exact⟨hold _ (qJy _ (d3 D' hD').1),(d3 D' hD').2⟩
      · intro p hp
        exact hold p (qJy _ (hs.pin p (by rw[t2];exact hp)))
    cases hpe:q.2.pend with
    | none =>
      rw[hpe] at h2;simp only[Tree.run,qJc] at h2;subst h2;exact⟨rfl,{ X3 with y:=B.y },by show X'.w.putObj l _=_;rw[hpe],hsim⟩
    | some e =>
      rw[hpe] at h2;cases e with
      | normal=>cases h2
      | ret =>
        simp only[Tree.run,qJc] at h2;subst h2;exact wpIn_ret ⟨rfl,{ X3 with y:=B.y },by show X'.w.putObj l _=_;rw[hpe],hsim⟩
      | exit i =>
        simp only[Tree.run,qJc] at h2;subst h2;exact wpIn_exit ⟨rfl,{ X3 with y:=B.y },by show X'.w.putObj l _=_;rw[hpe],hsim⟩
def Ctx.frzC(X:Ctx)(b:Nat):Ctx:={ X with h:=X.h.set b .dead,M:=fun m=>X.M m\/X.σ b=some m }
theorem Ctx.frzC_ext {b:Nat}{cs:List AV}(hb:X.h[b]?=some (.cells cs)):Ext X (X.frzC b):=by
 refine Move.of (fun _ h=>.inl h) (fun _ _=>rfl) (fun b1 b2 hb1 h=>?_);cases h;refine⟨by simpa[Ctx.frzC] using hb1,rfl,fun sh1 m ⟨e1,l1,h1,h2⟩=>?_,fun _ _ _ m hm c T fr hc=>⟨c,T,fr,hc,rfl⟩⟩;have hbl:=qu hb;rcases h1 with h1|h1
 ·rcases q7d hbl h1 with⟨rfl,h3⟩|⟨hne,h1⟩
  ·cases h3
  ·exact⟨_,_,.inl h1,h2⟩
 ·rcases q7d hbl h1 with⟨rfl,h3⟩|⟨hne,h1⟩
  ·cases h3
  ·exact⟨_,_,.inr h1,h2⟩
theorem HSim.frzC (hs:HSim B X){b:Nat}{cs:List AV}(hb:X.h[b]?=some (.cells cs))(hni:B.imps.length<=b):HSim B (X.frzC b):=by
 have hx:=Ctx.frzC_ext hb;have hbl:=qu hb;have hown:∀b1 n1,(X.frzC b).own b1 n1->b1≠b/\X.own b1 n1:=by
  intro b1 n1 ⟨h1,k1,h2,h3⟩;rcases q7d hbl h2 with⟨rfl,rfl⟩|⟨hne,h2⟩
  ·cases h3
  ·exact⟨hne,h1,k1,h2,h3⟩
 have hob:∀m,X.σ b=some m->X.own b m:=fun m hm=>⟨hm,_,hb,rfl⟩;constructor
 ·intro b1 k1 h;rcases q7d hbl h with⟨rfl,rfl⟩|⟨hne,h1⟩
  ·trivial
  ·exact jw.ext hx rfl (fun _ _=>rfl) (hs.blk b1 k1 h1)
 ·intro b1 b2 m h1 h2;exact hs.inj b1 b2 m (hown b1 m h1).2 (hown b2 m h2).2
 ·intro b1 m h1 h2;rcases h2 with h2|h2
  ·exact hs.notM b1 m (hown b1 m h1).2 h2
  ·exact(hown b1 m h1).1 (hs.inj b1 b m (hown b1 m h1).2 (hob m h2))
 ·intro m h;rcases h with h|h
  ·exact hs.ltM m h
  ·exact Ctx.own.lt hs (hob m h)
 ·intro m h;exact .inl (hs.M0 m h)
 ·intro m h;rcases h with h|h
  ·exact hs.newM m h
  ·exact .inr (hs.fresh b m (hob m h) hni)
 ·exact hs.os
 ·exact hs.tape
 ·exact hs.output
 ·exact hs.size
 ·exact hs.frame
 ·exact hs.imps
 ·intro b1 hb1;obtain⟨cs,h,hc⟩:=hs.impc b1 hb1;exact⟨cs,by simpa[Ctx.frzC,qJf (show b≠b1 by omega)] using h,hc⟩
 ·intro b1 n1 h1 h2;exact hs.fresh b1 n1 (hown b1 n1 h1).2 h2
 ·exact hs.kept
theorem qAG {a:AV}{s:Sh}{u:U}{v:Value}(h:uOf a=some (s,u))(hr:Rep X a v):RepU X.w X.M s u v:=by
 cases hr<;>simp only[uOf] at h<;>first|(cases h;done)|skip
 all_goals first|(cases h;exact .int _ _)|(cases h;exact .bool _)|(cases h;exact .str _)|skip
 rename_i himm;cases h;exact q9H himm
theorem qrg{X:Ctx}:∀{cs:List AV} {sh:List Sh} {row:List U} {vs:List Value},qHM cs=some (sh,row)->RepL X cs vs->sh.length=vs.length/\row.length=vs.length /\
  ∀j (hj:j<sh.length),∃v,vs[j]?=some v/\RepU X.w X.M sh[j] (row.getD j (.i 0)) v
 | [],sh,row,vs,h,hr=>by
  simp only[qHM] at h;cases h;cases hr;exact⟨rfl,rfl,fun j hj=>absurd hj (qLf j)⟩
 | a::cs,sh,row,vs,h,hr=>by
  simp only[qHM] at h;split at h
  ·rename_i s u ss us h1 h2;cases h;cases hr with
   | cons q1 q2=>
    obtain⟨g1,g2,g3⟩:=qrg h2 q2;refine⟨by simp[g1],by simp[g2],fun j hj=>?_⟩;cases j with
    | zero=>exact⟨_,rfl,qAG h1 q1⟩
    | succ j=>
     obtain⟨v,k1,k2⟩:=g3 j (by simpa using hj);exact⟨v,by simpa using k1,by simpa using k2⟩
  ·cases h
theorem qwB (hs:Sim E B X st a)(b:Nat):∃X',X'.w=X.w/\Sim E B X' (qBm E.nimp b st) a:=by
 unfold qBm;split
 ·rename_i cs hb;split
  ·rename_i sh row hu hni;have hbX:X.h[b]?=some (.cells cs):=by rw[hs.h];exact hb
   have hni':B.imps.length<=b:=qJg hs.ni (Nat.le_of_ble_eq_true hni);have hx:=Ctx.frzC_ext hbX;have h1:=hs.hs.frzC hbX hni';have hsim:=hs.ext hx h1;obtain⟨n,c,T,g1,g2,g3⟩:=hs.hs.blk b _ hbX;obtain⟨k1,k2,k3⟩:=qrg hu (g3.ext hx);have hrows:Rows (X.frzC b).w (X.frzC b).M sh [row] ⟨n,0,none⟩:=by
    intro r j hj hr;have hr0:r=0:=by simpa using hr
    subst hr0;obtain⟨v,q1,q2⟩:=k3 j hj;refine⟨.inr g1,v,?_,q2⟩;show World.cell? X.w ⟨n,0+0*sh.length+j,none⟩=some v;rw[show 0+0*sh.length+j=j from by omega,w8 g2];simpa using q1
   refine⟨X.frzC b,rfl,hsim.hs,by show X.h.set b .dead=_;rw[hs.h],?_,hsim.fs,hsim.glob,hsim.df,hsim.ni,hsim.y,hsim.pin⟩;have key:∀{azz:List AV} {vs:List Value},RepL (X.frzC b) azz vs->RepL (X.frzC b) (azz.map (qHn b sh row)) vs:=by
    intro azz;induction azz with
    | nil=>intro vs h;cases h;exact .nil
    | cons x azz ih=>
     intro vs h;cases h with
     | cons q1 q2=>
      refine .cons ?_ (ih q2);cases x<;>first|exact q1|skip
      rename_i b' off;show Rep _ (if Nat.beq b' b=true then AV.eptr sh [row] 0 off else AV.ptr b' off) _;split
      ·rename_i hbb;obtain rfl:=qKd hbb;cases q1 with
       | ptr _ _ n' hb' hσ=>
        have hσ':X.σ b'=some n':=hσ;rw[g1] at hσ';cases hσ';have:=Rep.eptr (X:=X.frzC b') sh [row] 0 off ⟨n,0,none⟩ rfl (qJE 0) (by simp) hrows;simpa using this
      ·exact q1
   exact key hsim.t
  ·exact⟨X,rfl,hs⟩
 ·exact⟨X,rfl,hs⟩
theorem qwA (hs:Sim E B X st a)(ops:List Oper):∃X',X'.w=X.w/\Sim E B X' (qr4 E ops st) a:=by
 unfold qr4;split
 ·exact qwB hs _
 ·exact⟨X,rfl,hs⟩
theorem qbC (hm:P.follows .mixedOrders=true)(hE:E.tok P)(hS:E.specs P)(hL:E.loopsOK P)(hf:P.funcs[f]?=some fn){cb:Code}(hb:fn.body=some cb){callH:q8G} (hcH:∀B,qx P E.iter f B->CallOK E P callH B) {callS:List Blk->q75} (hc:qiV E P callS) (hmo:q6C E callS) {rangeH:qdA} (hrg:qiA E P rangeH) :∀(c:Code) (k:Nat),(∀j c',(zr c)[j]?=some c'->(zr cb)[k+j]?=some c') ->∀{B:Base} {X:Ctx} {st:St} {a:Act} {r:Ex×St} {n0:Nat},qx P E.iter f B->Sim E B X st a->(yF E callH callS rangeH f c k st).run=some r->c.wpIn (q50 B.ro) n0 P (qvA E B r) a X.w:=by
 intro c;induction c with
 | skip=>
  intro k _ B X st a r n0 hbo hs h;simp only[yF,Tree.run,qJc] at h;subst h;exact wpIn_skip ⟨rfl,X,rfl,hs⟩
 | label _=>
  intro k _ B X st a r n0 hbo hs h;simp only[yF,Tree.run,qJc] at h;subst h;exact wpIn_label ⟨rfl,X,rfl,hs⟩
 | region id ops draw=>
  intro k _ B X st a r n0 hbo hs h;simp only[yF] at h;obtain⟨s,h1,h2⟩:=bind_some h;simp only[Tree.run,qJc] at h2;subst h2;obtain⟨X0,hw0,hs0⟩:=qwA hs ops.toList;rw[<-hw0];cases draw with
  | true=>exact quA hm hE hS (hcH B hbo) hc hmo hs0 h1 fun X' a' hs'=>⟨rfl,X',rfl,hs'⟩
  | false=>exact qqg hE (hcH B hbo) hs0 h1 fun X' a' hs'=>⟨rfl,X',rfl,hs'⟩
 | seq c d ihc ihd=>
  intro k hl B X st a r n0 hbo hs h;simp only[yF] at h;cases hfn:q9d E.loops f k with
  | some L=>
   rw[hfn] at h;obtain⟨fn',c1,c2,q1,q2,q3,q4⟩:=hL _ (qgk hfn);simp only at q1 q3 q4;rw[hf] at q1;cases q1;rw[hb] at q2;cases q2;have:=hl 0 (.seq c d) (by simp[zr]);rw[qJU,q3] at this;cases this;exact q4 E B X st a r rfl rfl hbo hs h n0
  | none=>
  rw[hfn] at h;obtain⟨r1,h1,h2⟩:=bind_some h;apply wpIn_seq;have g1:=ihc (k+1) (fun j c' hj=>by have:=hl (1+j) c' (by simp only[zr];rw[Nat.add_comm,qKe,qJp (qu hj)];exact hj);rw[show k+1+j=k+(1+j) by omega];exact this) (n0:=n0) hbo hs h1;refine wpIn_mono g1 fun e a' w' ⟨he,X',hw,hs'⟩=>?_;subst hw;obtain⟨x1,s1⟩:=r1;cases x1 with
  | normal=>
   subst he;refine ihd (k+1+zQ c) (fun j c' hj=>?_) hbo hs' h2;have:=hl (1+zQ c+j) c' (by simp only[zr];rw[show 1+zQ c+j=(zQ c+j)+1 by omega,qKe,qJz (by rw[kn];omega),kn];rw[show zQ c+j-zQ c=j by omega];exact hj);rw[show k+1+zQ c+j=k+(1+zQ c+j) by omega];exact this
  | exit i=>
   simp only[Tree.run,qJc] at h2;subst he h2;exact⟨rfl,X',rfl,hs'⟩
  | ret=>
   simp only[Tree.run,qJc] at h2;subst he h2;exact⟨rfl,X',rfl,hs'⟩
 | cond x c d ihc ihd=>
  intro k hl B X st a r n0 hbo hs h;simp only[yF] at h;have hlc:=fun j c' (hj:(zr c)[j]?=some c')=>hl j c' (by simp only[zr];rw[qJp (qu hj)];exact hj);have hld:∀j c',(zr d)[j]?=some c'->(zr cb)[k+zQ c+j]?=some c':=fun j c' hj=>by have:=hl (zQ c+j) c' (by simp only[zr];rw[qJz (by rw[kn];omega),kn];rw[show zQ c+j-zQ c=j by omega];exact hj);rw[show k+zQ c+j=k+(zQ c+j) by omega];exact this
  have hx:=q8l hs x;cases hv:E.opd st.t x with
  | blit b=>
   rw[hv] at h hx;generalize hev:a.eval x=vx at hx;cases hx;cases b with
   | true=>exact wpIn_cond_true hev (ihc k hlc hbo hs h)
   | false=>exact wpIn_cond_false hev (ihd _ hld hbo hs h)
  | bool b=>
   rw[hv] at h hx;generalize hev:a.eval x=vx at hx;cases hx;cases x with
   | tmp t=>
    simp only at h;have ht:st.t[t]?=some (.bool b):=by
     simp only[Env.opd,qJd] at hv;cases hg:st.t[t]? with
     | none=>rw[hg] at hv;cases hv
     | some y=>rw[hg] at hv;simp at hv;rw[hv]
    have hs':=hs.lit ht;cases b with
    | true=>exact wpIn_cond_true hev (ihc k hlc hbo hs' h)
    | false=>exact wpIn_cond_false hev (ihd _ hld hbo hs' h)
   | _=>cases h
  | _=>rw[hv] at h;cases h
 | block id c ihc=>
  intro k hl B X st a r n0 hbo hs h;simp only[yF] at h;obtain⟨r1,h1,h2⟩:=bind_some h;apply wpIn_block;have g1:=@ihc k hl _ _ _ _ _ n0 hbo hs h1;refine wpIn_mono g1 fun e a' w' ⟨he,X',hw,hs'⟩=>?_;subst hw he;obtain⟨x1,s1⟩:=r1;cases x1 with
  | normal=>
   simp only[Tree.run,qJc] at h2;subst h2;exact⟨rfl,X',rfl,hs'⟩
  | ret=>
   simp only[Tree.run,qJc] at h2;subst h2;exact⟨rfl,X',rfl,hs'⟩
  | exit i=>
   simp only[Ex.out,Exit.inBlock];simp only at h2;by_cases hi:i=id
   ·rw[if_pos hi] at h2 ⊢;simp only[Tree.run,qJc] at h2;subst h2;exact⟨rfl,X',rfl,hs'⟩
   ·rw[if_neg hi] at h2 ⊢;simp only[Tree.run,qJc] at h2;subst h2;exact⟨rfl,X',rfl,hs'⟩
 | loop c ihc=>
  intro k hl B X st a r n0 hbo hs h;simp only[yF] at h;cases hfn:q9d E.loops f k with
  | none=>rw[hfn] at h;cases h
  | some L=>
   rw[hfn] at h;obtain⟨fn',c1,c2,q1,q2,q3,q4⟩:=hL _ (qgk hfn);simp only at q1 q3 q4;rw[hf] at q1;cases q1;rw[hb] at q2;cases q2;have:=hl 0 (.loop c) (by simp[zr]);rw[qJU,q3] at this;cases this;exact q4 E B X st a r rfl rfl hbo hs h n0
 | exit id=>
  intro k _ B X st a r n0 hbo hs h;simp only[yF,Tree.run,qJc] at h;subst h;exact wpIn_exit ⟨rfl,X,rfl,hs⟩
 | ret  =>
  intro k _ B X st a r n0 hbo hs h;simp only[yF,Tree.run,qJc] at h;subst h;exact wpIn_ret ⟨rfl,X,rfl,hs⟩
 | goto _=>
  intro k _ B X st a r n0 hbo hs h;simp only[yF] at h;cases h
 | scope _ ihc=>
  intro k _ B X st a r n0 hbo hs h;simp only[yF] at h;cases h
 | rangeFunc x ps c d ihc ihd=>
  intro k hl B X st a r n0 hbo hs h;simp only[yF] at h;cases hx:E.opd st.t x with
  | fn g first caps=>
   rw[hx] at h;simp only at h;cases hcd:qrv E.iter g f k&&q84 E.iter f&&qww st with
   | false=>rw[hcd] at h;cases h
   | true=>
    rw[hcd] at h;simp only at h;refine qEa hrg hf hb (hl 0 _ (by simp[zr])) (fun B X st act r hbo hs hr n=>?_) (fun B X st act r hbo hs hr n=>?_) hbo hs hx hcd h
    ·refine ihc (k+1) (fun j c' hj=>?_) hbo hs hr;have:=hl (1+j) c' (by simp only[zr];rw[Nat.add_comm,qKe,qJp (qu hj)];exact hj);rw[show k+1+j=k+(1+j) by omega];exact this
    ·refine ihd (k+1+zQ c) (fun j c' hj=>?_) hbo hs hr;have:=hl (1+zQ c+j) c' (by simp only[zr];rw[show 1+zQ c+j=(zQ c+j)+1 by omega,qKe,qJz (by rw[kn];omega),kn];rw[show zQ c+j-zQ c=j by omega];exact hj);rw[show k+1+zQ c+j=k+(1+zQ c+j) by omega];exact this
  | _=>rw[hx] at h;cases h
 | _=>
  intro k hl B X st a r n0 hbo hs h;simp only[yF] at h;cases h
theorem qvI {w:World}{t:TypeId}{v u:Value}(h:(Instr.loadAt t v).run P w=.ok u w):∃ad,v=.pointer (some ad)/\(loadVar t ad).run P w=.ok u w:=by
 cases v with
 | pointer p=>
  cases p with
  | some ad=>exact⟨ad,rfl,by simpa[Instr.loadAt,Instr.sureAddr] using h⟩
  | none=>simp[Instr.loadAt,Instr.sureAddr] at h
 | _=>simp[Instr.loadAt,Instr.sureAddr] at h
def qH9(tmps:Array Value):ResultVar->Sem Value
 | .tmp t=>pure (tmps.getD t undef)
 | .cell a t=>do loadVar t (<-asAddr (tmps.getD a undef))
theorem qyJ (fn:Func)(tmps:Array Value):results fn tmps=(fn.results.mapM (qH9 tmps) >>= fun vs=>pure (if h:vs.size=1 then vs[0] else .tuple vs)):=by unfold results;congr 1
theorem qiE{E:Env}{P:Program}(hE:E.tok P){B:Base}{X:Ctx}{st:St}{a:Act}(hs:Sim E B X st a):∀(l:List ResultVar) (vs:List AV),qmU E st.h st.t l=some vs ->
  ∃us,(l.mapM (qH9 a.tmps)).run P X.w=.ok us X.w/\RepL X vs us
 | [],vs,h=>by simp only[qmU,qJc] at h;subst h;exact⟨[],by simp,.nil⟩
 | .tmp i::l,vs,h=>by
  simp only[qmU] at h;split at h
  ·rename_i r hr;cases h;obtain⟨us,h1,h2⟩:=qiE hE hs l r hr;have:=q8l hs (.tmp i);simp only[Env.opd,Act.eval] at this;exact⟨_::us,by simp[List.mapM_cons,qH9,h1],.cons this h2⟩
  ·cases h
 | .cell i ty::l,vs,h=>by
  simp only[qmU] at h;split at h
  ·rename_i v h' n r hld hr;cases h;obtain⟨us,h1,h2⟩:=qiE hE hs l r hr;have hv:=q8l hs (.tmp i);simp only[Env.opd,Act.eval] at hv;rw[<-hs.h] at hld;obtain⟨av,u,g1,g2,g3⟩:=qgF hE hs.hs hv (r:=(v,h',n)) (by rw[hld];rfl);obtain⟨ad,g4,g5⟩:=qvI g2;have:v=av:=congrArg Prod.fst g1;subst this;refine⟨u::us,?_,.cons g3 h2⟩;simp only[List.mapM_cons,qH9,qJh,g4,asAddr,qJN,qJn,g5,h1]
  ·cases h
theorem RepL.len:∀{azz:List AV} {vs:List Value},RepL X azz vs->azz.length=vs.length
 | _,_,.nil=>rfl
 | _,_,.cons _ t=>by simp[t.len]
theorem qta (hE:E.tok P)(hs:Sim E B X st a){vs:List AV}(h:qmU E st.h st.t fn.results.toList=some vs) :∃u,(results fn a.tmps).run P X.w=.ok u X.w/\Rep X (qCg vs) u:=by
 obtain⟨us,h1,h2⟩:=qiE hE hs _ _ h;have hm:(fn.results.mapM (qH9 a.tmps)).run P X.w=.ok us.toArray X.w:=by rw[Array.mapM_eq_mapM_toList,Sem.run_map,h1];rfl
 rw[qyJ,qJh,hm];simp only[qJn,qJN];have hl:=h2.len;cases h2 with
 | nil=>exact⟨_,rfl,.tuple [] [] .nil⟩
 | cons g1 g2=>
  cases g2 with
  | nil=>exact⟨_,rfl,by simpa[qCg] using g1⟩
  | cons g3 g4=>
   refine⟨_,rfl,?_⟩;rw[dif_neg (by simp)];exact .tuple _ _ (.cons g1 (.cons g3 g4))
theorem qCd {args:List AV}{vargs:List Value}(h:RepL X args vargs):RepL X (qyy fn args) (vargs.toArray++Array.replicate (fn.ntmps-vargs.toArray.size) undef).toList:=by
 have hrep:∀n,RepL X (List.replicate n .skip) (List.replicate n undef):=by
  intro n;induction n with
  | zero=>exact .nil
  | succ n ih=>simp only[qKG];exact .cons .skip ih
 unfold qyy;simp only[qLi,Array.toList_replicate,List.size_toArray];rw[h.len];exact h.append (hrep _)
def Env.bodies(E:Env)(P:Program):Prop:=∀x,x∈E.body->P.funcs[x.1]?=some x.2/\(x.2.name == "runtime.NumGoroutine")=false
theorem qkH (hm:P.follows .mixedOrders=true)(hE:E.tok P)(hS:E.specs P)(hL:E.loopsOK P)(hf:P.funcs[f]?=some fn){callH:q8G} (hcH:∀B,qx P E.iter f B->CallOK E P callH B) {callS:List Blk->q75} (hc:qiV E P callS) (hmo:q6C E callS) {rangeH:qdA} (hrg:qiA E P rangeH){args:List AV} {st:St} {r:AV×St} {B:Base} {X:Ctx} {vargs:List Value} (hro:B.ro=none) (hbo:qx P E.iter f B) (hs:SimF E B X st) (ha:RepL X args vargs) (h:(qs1 E callS callH rangeH f fn args st).run=some r) :fn.body.isNone=false/\Calls P f vargs.toArray X.w fun e w'=>∃v X',e=.returned v/\X'.w=w'/\Rep X' r.1 v/\SimF E B X' r.2:=by
 unfold qs1 at h;cases hb:fn.body with
 | none=>rw[hb] at h;cases h
 | some c=>
  rw[hb] at h;refine⟨rfl,qzI.1 (callsIn_of_wp_marks (F:=q50 none) (n:=0) hf hb trivial ?_)⟩;obtain⟨r1,h1,h2⟩:=bind_some h;have hsim:Sim E B X { t:=qyy fn args,fs:=st.t::st.fs,h:=st.h,pend:=st.pend } { tmps:=vargs.toArray++Array.replicate (fn.ntmps-vargs.toArray.size) undef,defers:=[] }:=
   ⟨hs.hs,hs.h,qCd ha,hs.fs,hs.glob,qwF.nil,hs.ni,hs.y,hs.pin⟩
  have hcode:=qbC (n0:=0) hm hE hS hL hf hb hcH hc hmo hrg c 0 (fun j c' hj=>by rw[qK5];exact hj) hbo hsim h1;rw[hro] at hcode;refine wpIn_mono hcode fun e a' w' ⟨he,X',hw,hs'⟩=>?_;subst he hw;obtain⟨x1,s1⟩:=r1;have fin:∀{vs:List AV} {caller:List AV} {fs:List (List AV)},qmU E s1.h s1.t fn.results.toList=some vs->s1.fs=caller::fs->r=(qCg vs,{ t:=caller,fs:=fs,h:=s1.h,pend:=s1.pend }) ->
    LeavesInM (q50 none) 0 P fn a'.tmps (fun e w'=>∃v X',e=.returned v/\X'.w=w'/\Rep X' r.1 v/\SimF E B X' r.2) a'.defers .returning X'.w:=by
   intro vs caller fs hr hfs hre;obtain⟨Ds,d1,_⟩:=hs'.df;rw[d1];refine qum Ds hs' d1 fun X2 hs2=>?_;obtain⟨u,g1,g2⟩:=qta hE hs2 hr;refine⟨u,g1,u,X2,rfl,rfl,by rw[hre];exact g2,?_⟩;rw[hre];exact⟨hs2.hs,hs2.h,by rw[<-hfs];exact hs2.fs,hs2.glob,hs2.ni,hs2.y,hs2.pin⟩
  unfold qDZ at h2;cases x1 with
  | exit i=>simp only at h2;cases h2
  | normal=>
   simp only at h2;split at h2
   ·rename_i vs caller fs hr hfs;cases h2;exact fin hr hfs rfl
   ·cases h2
  | ret=>
   simp only at h2;split at h2
   ·rename_i vs caller fs hr hfs;cases h2;exact fin hr hfs rfl
   ·cases h2
theorem ut (hf:P.funcs[f]?=some fn)(hn:(fn.name == "runtime.NumGoroutine")=false)(hb:fn.body.isNone=false):qbt P f:=by intro args w;unfold callFunc;rw[qJh];show (Result.ok P w).andThen _=_;simp only[qJn,hf,hn,hb,qJA,if_false,qJN]
theorem qGo {all:Array Oper}{k:Nat}{o:Oper}{s s':St}(h:(qpY all k o s).run=some s')(u:St)(hu:u.t=s.t):(qpY all k o u).run=some { u with t:=s'.t }:=by
 unfold qpY at h ⊢;split at h
 ·rename_i hg;rw[if_pos hg];split at h
  ·rename_i d hd;simp only[hu];split at h
   ·rename_i b hb;simp only[Tree.run] at h ⊢;cases b<;>(simp only[qJc] at h ⊢;subst h;rfl)
   ·rename_i hb;cases hx:s.t[d]? with
    | none=>simp only[Tree.run,qJc] at h ⊢;subst h;rw[<-hu]
    | some v=>
     rw[hx] at hb;cases v<;>first|(exact absurd rfl (hb _))|(simp only[Tree.run,qJc] at h ⊢;subst h;rw[<-hu])
  ·simp only[Tree.run,qJc] at h ⊢;subst h;rw[<-hu]
 ·rename_i hg;rw[if_neg hg];simp only[Tree.run,qJc] at h ⊢;subst h;rw[<-hu]
theorem qlt{E:Env}{callH:q8G}{all:Array Oper}{st0:St}:∀(l:List Oper) (k:Nat) (t t':List AV),(qqY E st0.h all k l t).run=some t'->(qjg E callH all k l { st0 with t:=t }).run=some { st0 with t:=t' }
 | [],k,t,t',h=>by simp only[qqY,Tree.run,qJc] at h;subst h;rfl
 | o::rest,k,t,t',h=>by
  simp only[qqY] at h;simp only[qjg];cases hw:q6b all o t with
  | none=>rw[hw] at h;cases h
  | some b=>
   rw[hw] at h;cases b with
   | false=>
    simp only at h ⊢;exact qlt rest (k+1) _ t' h
   | true=>
    simp only at h ⊢;cases hst:qcp E o.op with
    | false=>rw[hst] at h;cases h
    | true=>
     rw[hst] at h;obtain⟨r,h1,h2⟩:=bind_some h;obtain⟨s,h3,h4⟩:=bind_some h2;have hr:=qqK hst h1;have hstep:(qp8 E callH o { st0 with t:=t }).run=some { st0 with t:=qhQ t o.dst r.1 }:=by
      unfold qp8;split
      ·rename_i x args tys hop;rw[hop] at hst;cases hst
      ·rw[Tree.run_bind,h1];obtain⟨r1,r2⟩:=r;simp only at hr;subst hr;rfl
     rw[Tree.run_bind,hstep];simp only[qJH];rw[Tree.run_bind,qGo h3 { st0 with t:=qhQ t o.dst r.1 } rfl];exact qlt rest (k+1) _ t' h4
theorem qv0 {callH:q8G}{callS:List Blk->q75}{rangeH:qdA}{st0:St}:∀(c:Code) (k:Nat) (t:List AV) (r:Ex×List AV),(q29 E st0.h f c k t).run=some r ->(yF E callH callS rangeH f c k { st0 with t:=t }).run=some (r.1,{ st0 with t:=r.2 }):=by
 intro c;induction c with
 | skip=>intro k t r h;simp only[q29,Tree.run,qJc] at h;subst h;rfl
 | label _=>intro k t r h;simp only[q29,Tree.run,qJc] at h;subst h;rfl
 | region id ops draw=>
  intro k t r h;simp only[q29] at h;cases draw with
  | true=>cases h
  | false=>
   simp only at h;cases hfz:qFF E ops.toList t with
   | some b=>rw[hfz] at h;cases h
   | none=>
   rw[hfz] at h;obtain⟨s,h1,h2⟩:=bind_some h;simp only[Tree.run,qJc] at h2;subst h2;simp only[yF];have e0:qr4 E ops.toList { st0 with t:=t }={ st0 with t:=t }:=by unfold qr4;simp only;rw[hfz]
   rw[e0,Tree.run_bind,qlt (callH:=callH) _ _ _ _ h1];rfl
 | seq c d ihc ihd=>
  intro k t r h;simp only[q29] at h;simp only[yF];cases hfn:q9d E.loops f k with
  | some L=>rw[hfn] at h;cases h
  | none=>
   rw[hfn] at h;simp only at h ⊢;obtain⟨s,h1,h2⟩:=bind_some h;rw[Tree.run_bind,ihc _ _ _ h1];simp only[qJH];obtain⟨e,s2⟩:=s;cases e with
   | normal=>exact ihd _ _ _ h2
   | ret=>simp only[Tree.run,qJc] at h2 ⊢;subst h2;rfl
   | exit i=>simp only[Tree.run,qJc] at h2 ⊢;subst h2;rfl
 | cond x c d ihc ihd=>
  intro k t r h;simp only[q29] at h;simp only[yF];split at h
  ·exact ihc _ _ _ h
  ·exact ihd _ _ _ h
  ·rename_i b hx;cases x with
   | tmp d'=>
    simp only[Tree.run] at h ⊢;cases b with
    | true=>exact ihc _ _ _ h
    | false=>exact ihd _ _ _ h
   | _=>cases h
  ·cases h
 | block id c ihc=>
  intro k t r h;simp only[q29] at h;simp only[yF];obtain⟨s,h1,h2⟩:=bind_some h;rw[Tree.run_bind,ihc _ _ _ h1];simp only[qJH];obtain⟨e,s2⟩:=s;cases e with
  | normal=>simp only[Tree.run,qJc] at h2 ⊢;subst h2;rfl
  | ret=>simp only[Tree.run,qJc] at h2 ⊢;subst h2;rfl
  | exit i=>
   simp only at h2 ⊢;split at h2
   ·rename_i hi;rw[if_pos hi];simp only[Tree.run,qJc] at h2 ⊢;subst h2;rfl
   ·rename_i hi;rw[if_neg hi];simp only[Tree.run,qJc] at h2 ⊢;subst h2;rfl
 | exit id=>intro k t r h;simp only[q29,Tree.run,qJc] at h;subst h;rfl
 | ret=>intro k t r h;simp only[q29,Tree.run,qJc] at h;subst h;rfl
 | _=>intro k t r h;simp only[q29] at h;cases h
theorem qtM {callH:q8G}{rangeH:qdA}{args:List AV}{v:AV}(h:(qwj E st.h f fn args).run=some v):(qs1 E qsY callH rangeH f fn args st).run=some (v,st):=by
 unfold qwj at h;unfold qs1;cases hb:fn.body with
 | none=>rw[hb] at h;cases h
 | some c=>
  rw[hb] at h;simp only at h ⊢;obtain⟨r,h1,h2⟩:=bind_some h;rw[Tree.run_bind,qv0 (callH:=callH) (callS:=qsY) (rangeH:=rangeH) (st0:={ t:=[],fs:=st.t::st.fs,h:=st.h,pend:=st.pend }) c 0 _ r h1];simp only[qJH];obtain⟨e,t'⟩:=r;unfold qDZ;cases e with
  | exit i=>cases h2
  | normal=>
   simp only at h2 ⊢;cases hr:qmU E st.h t' fn.results.toList with
   | none=>rw[hr] at h2;cases h2
   | some vs=>rw[hr] at h2;cases h2;rfl
  | ret=>
   simp only at h2 ⊢;cases hr:qmU E st.h t' fn.results.toList with
   | none=>rw[hr] at h2;cases h2
   | some vs=>rw[hr] at h2;cases h2;rfl
theorem qj0 {it:List (FuncId×FuncId×Nat)}(h:q84 it f=true)(hB:B.ro.isSome=true->2<=B.fs.length):qx P it f B:=by
 refine⟨hB,?_⟩;unfold q84 at h;split at h
 ·cases h
 ·rename_i hn;rw[hn];trivial
theorem ql6 (E:Env)(P:Program):qiA E P qry:=fun _ _ _ _ _ _ _ _ _ _ _ _ _ h=>by cases h
theorem qAp (B:Base):CallOK E P (fun _ _ _=>.fail) B:=⟨(fun f args st r X a vargs _ _ h=>by cases h),(fun args st r X a vargs _ _ h=>by cases h)⟩
theorem qbi (hm:P.follows .mixedOrders=true)(hE:E.tok P)(hS:E.specs P)(hL:E.loopsOK P)(hb:E.bodies P):qiV E P (q7W E):=by
 intro f args st v B X a vargs hs ha h;unfold q7W at h;cases hsp:E.spec.find? fun x=>x.1==f with
 | some G=>rw[hsp] at h;exact qsP hS f args st v B X a vargs hs ha h
 | none=>
  rw[hsp] at h;simp only at h;cases hbd:E.body.find? fun x=>x.1==f with
  | none=>rw[hbd] at h;cases h
  | some fn=>
   rw[hbd] at h;simp only at h;cases hni:q84 E.iter f with
   | false=>rw[hni] at h;cases h
   | true=>
   rw[hni] at h;simp only at h;have hx:=hb fn (qK7 hbd);have hfe:fn.1=f:=by simpa using qKy hbd
   rw[hfe] at hx
   let B':Base:={ B with fs:=a.tmps.toList::B.fs,ro:=none,pin:=fun _=>X.kept }
   have hF:SimF E B' X st:=⟨hs.hs.base rfl rfl rfl,hs.h,.cons hs.t hs.fs,hs.glob,hs.ni,hs.y,fun p hp=>hp⟩;have h1:=qtM (callH:=fun _ _ _=>.fail) (rangeH:=qry) h;obtain⟨g1,g2⟩:=qkH hm hE hS hL hx.1 (fun B _=>qAp B) (callS:=qsY) (fun _ _ _ _ _ _ _ _ _ _ h=>by cases h) (qu5 E) (ql6 E P) (B:=B') rfl (qj0 hni (fun h=>by cases h)) hF ha h1;refine⟨ut hx.1 hx.2 g1 _,g2.mono fun e w' ⟨u,X',e1,e2,e3,e4⟩=>⟨u,X',e1,e2,e3,?_⟩⟩;have hpin:∀p,p∈X.kept->p∈X'.kept:=e4.pin;have hfs:RepLL X' (st.t::st.fs) (a.tmps.toList::B.fs):=e4.fs;obtain⟨Ds,d1,d2,d3⟩:=hs.df;refine⟨e4.hs.base rfl rfl rfl,e4.h,?_,?_,e4.glob,⟨Ds,d1,d2,fun D hD=>⟨hpin _ (d3 D hD).1,(d3 D hD).2⟩⟩,hs.ni,e4.y,fun p hp=>hpin p (hs.pin p hp)⟩
   ·cases hfs with|cons k1 k2=>exact k1
   ·cases hfs with|cons k1 k2=>exact k2
theorem qgN (hm:P.follows .mixedOrders=true)(hE:E.tok P)(hS:E.specs P)(hL:E.loopsOK P)(hbs:E.bodies P)(hf:P.funcs[f]?=some fn){callH:q8G} (hcH:∀B,qx P E.iter f B->CallOK E P callH B) {rangeH:qdA} (hrg:qiA E P rangeH){args:List AV} {st:St} {r:AV×St} {B:Base} {X:Ctx} {vargs:List Value} (hro:B.ro=none) (hbo:qx P E.iter f B) (hs:SimF E B X st) (ha:RepL X args vargs) (h:(qxX E callH rangeH f fn args st).run=some r) :fn.body.isNone=false/\Calls P f vargs.toArray X.w fun e w'=>∃v X',e=.returned v/\X'.w=w'/\Rep X' r.1 v/\SimF E B X' r.2:=qkH hm hE hS hL hf hcH (qbi hm hE hS hL hbs) (q7E E) hrg hro hbo hs ha h
theorem qdv (hm:P.follows .mixedOrders=true)(hE:E.tok P)(hS:E.specs P)(hL:E.loopsOK P)(hb:E.bodies P){callH:q8G}(hcH:∀B,CallOK E P callH B):qiA E P (qiX E callH):=by
 intro g y args st r B X vargs hs hbo hy hro ha h;unfold qiX at h;cases hbd:E.body.find? fun x=>x.1==g with
 | none=>rw[hbd] at h;cases h
 | some fn=>
  rw[hbd] at h;have hx:=hb fn (qK7 hbd);have hfe:fn.1=g:=by simpa using qKy hbd
  rw[hfe] at hx;obtain⟨g1,g2⟩:=qgN hm hE hS hL hb hx.1 (callH:=qD6 y callH) (fun B' hB'=>⟨(hcH B').fn,hy B' hB'⟩) (ql6 E P) hro hbo hs ha h;exact⟨ut hx.1 hx.2 g1 _,g2⟩
theorem qgx{E:Env}{P:Program}(hm:P.follows .mixedOrders=true)(hE:E.tok P)(hS:E.specs P)(hL:E.loopsOK P)(hb:E.bodies P):∀n B,CallOK E P (q8T E n) B
 | 0,_=>⟨(fun f args st r X a vargs _ _ h=>by simp only[q8T] at h;cases h),(fun args st r X a vargs _ _ h=>by simp only[q8T] at h;cases h)⟩
 | n+1,B=>⟨(fun f args st r X a vargs hs ha h=>by
  simp only[q8T] at h;cases hdl:qGs E f with
  | some e=>
   rw[hdl] at h;have hD:=qtl hS hdl;exact⟨hD.1 _,qur hE hD hs ha h⟩
  | none=>
  rw[hdl] at h;simp only at h;cases hsp:E.spec.find? fun x=>x.1==f with
  | some G=>
   rw[hsp] at h;have hG:=hS.sp G (qK7 hsp);have hfe:G.1=f:=by simpa using qKy hsp
   rw[hfe] at hG;exact⟨hG.1 _,q7x hG hs ha h⟩
  | none=>
   rw[hsp] at h;cases hbd:E.body.find? fun x=>x.1==f with
   | none=>rw[hbd] at h;cases h
   | some fn=>
    rw[hbd] at h;simp only at h;cases hni:q84 E.iter f with
    | false=>rw[hni] at h;cases h
    | true=>
    rw[hni] at h;simp only at h;obtain⟨r1,h1,h2⟩:=bind_some h;simp only[Tree.run,qJc] at h2;subst h2;have hx:=hb fn (qK7 hbd);have hfe:fn.1=f:=by simpa using qKy hbd
    rw[hfe] at hx
    let B':Base:={ B with fs:=a.tmps.toList::B.fs,ro:=none,pin:=fun _=>X.kept }
    have hF:SimF E B' X st:=⟨hs.hs.base rfl rfl rfl,hs.h,.cons hs.t hs.fs,hs.glob,hs.ni,hs.y,fun p hp=>hp⟩;obtain⟨g1,g2⟩:=qgN hm hE hS hL hb hx.1 (fun B _=>qgx hm hE hS hL hb n B) (qdv hm hE hS hL hb (qgx hm hE hS hL hb n)) (B:=B') rfl (qj0 hni (fun h=>by cases h)) hF ha h1;refine⟨ut hx.1 hx.2 g1 _,g2.mono fun e w' ⟨v,X',e1,e2,e3,e4⟩=>⟨v,X',e1,e2,e3,?_⟩⟩;have hpin:∀p,p∈X.kept->p∈X'.kept:=e4.pin;have hfs:RepLL X' (r1.2.t::r1.2.fs) (a.tmps.toList::B.fs):=e4.fs;obtain⟨Ds,d1,d2,d3⟩:=hs.df;refine⟨e4.hs.base rfl rfl rfl,e4.h,?_,?_,e4.glob,⟨Ds,d1,d2,fun D hD=>⟨hpin _ (d3 D hD).1,(d3 D hD).2⟩⟩,hs.ni,e4.y,fun p hp=>hpin p (hs.pin p hp)⟩
    ·cases hfs with|cons k1 k2=>exact k1
    ·cases hfs with|cons k1 k2=>exact k2),
  (fun args st r X a vargs _ _ h=>by simp only[q8T] at h;cases h)⟩
theorem qup (hm:P.follows .mixedOrders=true)(hE:E.tok P)(hS:E.specs P)(hL:E.loopsOK P)(hb:E.bodies P)(hf:P.funcs[f]?=some fn){n:Nat} {B:Base} {X:Ctx} {args:List AV} {vargs:List Value} {r:AV×List Blk} (hs:HSim B X) (h0:B.imps.length<=E.nimp) (hgl:q5D E.glob X) (ha:RepL X args vargs)(h:(qxp E n f fn args X.h).run=some r) :Calls P f vargs.toArray X.w fun e w'=>∃v X',e=.returned v/\X'.w=w'/\Rep X' r.1 v/\X'.h=r.2/\HSim B X'/\X'.y=X.y:=by
 unfold qxp at h;cases hni:q84 E.iter f with
 | false=>rw[hni] at h;cases h
 | true=>
 rw[hni] at h;simp only at h;obtain⟨r1,h1,h2⟩:=bind_some h;simp only[Tree.run,qJc] at h2;subst h2
 let B0:Base:={ B with fs:=[[]],ro:=none,y:=X.y,pin:=fun _=>[] }
 have hF:SimF E B0 X { t:=[],fs:=[],h:=X.h,pend:=none }:=⟨hs.base rfl rfl rfl,rfl,.cons .nil .nil,hgl,h0,rfl,fun p hp=>by cases hp⟩;obtain⟨_,g2⟩:=qgN hm hE hS hL hb hf (fun B _=>qgx hm hE hS hL hb n B) (qdv hm hE hS hL hb (qgx hm hE hS hL hb n)) (B:=B0) rfl (qj0 hni (fun h=>by cases h)) hF ha h1;refine g2.mono fun e w' ⟨v,X',e1,e2,e3,e4⟩=>⟨v,X',e1,e2,e3,e4.h,e4.hs.base rfl rfl rfl,e4.y⟩
end Go.Eng

namespace Go.Eng
variable {X:Ctx}
inductive PK where
 | i|b|s|r
inductive PV where
 | i (n:Int)|b (x:Bool)|s (l:qJb)|r (l:R)
def PV.kind:PV->PK|.i _=>.i|.b _=>.b|.s _=>.s|.r _=>.r
def PV.toI:PV->Int|.i n=>n|_=>0
def PV.toB:PV->Bool|.b x=>x|_=>false
def PV.toS:PV->List UInt8|.s x=>x|_=>[]
def PV.toR:PV->R|.r x=>x|_=>[]
inductive AP where
 | any|yld
 | int (k:IntKind)|bool|str|blit (b:Bool)
 | nilp|ptr (b off:Nat)|eptr (sh:List Sh) (off:Nat)|mptr (sh:List Sh) (off:Nat)|vptr (b off:Nat)
 | nils|imm (sh:List Sh)|vec (b:Nat)
 | nilf|fn (f:FuncId) (first caps:List AP)
 | agg (l:List AP)|tuple (l:List AP)
def qw:Nat->List AP->List AP
 | 0,l=>l
 | n+1,l=>.any::qw n l
def qC3:Option (List PV)->Option (List PV)->Option (List PV)
 | some a,some b=>some (a++b)
 | _,_=>none
mutual
def AP.take:AP->AV->Option (List PV)
 | .any,_=>some []
 | .yld,.yld=>some []
 | .int k,.int k' n=>if k=k' then some [.i n] else none
 | .int k,.ilit k' n=>if k=k' then some [.i n] else none
 | .bool,.bool b=>some [.b b]
 | .bool,.blit b=>some [.b b]
 | .str,.str s=>some [.s s]
 | .blit b,.blit b'=>if b=b' then some [] else none
 | .nilp,.nilp=>some []
 | .ptr b off,.ptr b' off'=>if b=b'/\off=off' then some [] else none
 | .eptr sh off,.eptr sh' l i off'=>if Sh.beqL sh sh'=true/\off=off' then some [.r l,.i i] else none
 | .mptr _ _,.nilp=>some [.b false,.r [],.i 0]
 | .mptr sh off,.eptr sh' l i off'=>if Sh.beqL sh sh'=true/\off=off' then some [.b true,.r l,.i i] else none
 | .mptr sh off,.mptr c sh' l i off'=>if Sh.beqL sh sh'=true/\off=off' then some [.b c,.r l,.i i] else none
 | .vptr b off,.vptr b' i off'=>if b=b'/\off=off' then some [.i i] else none
 | .nils,.nils=>some []
 | .imm sh,.imm sh' l=>if Sh.beqL sh sh'=true then some [.r l] else none
 | .imm _,.nils=>some [.r []]
 | .vec b,.vec b'=>if b=b' then some [] else none
 | .nilf,.nilf=>some []
 | .fn f p q,.fn g a c=>if f=g then qC3 (AP.takeL p a) (AP.takeL q c) else none
 | .agg l,.agg a=>AP.takeL l a
 | .tuple l,.tuple a=>AP.takeL l a
 | _,_=>none
def AP.takeL:List AP->List AV->Option (List PV)
 | [],[]=>some []
 | p::l,a::azz=>qC3 (p.take a) (AP.takeL l azz)
 | _,_=>none
end
mutual
def AP.make:AP->List PV->AV×List PV
 | .any,ps=>(.undef,ps)
 | .yld,ps=>(.yld,ps)
 | .int k,.i n::ps=>(.int k n,ps)
 | .bool,.b x::ps=>(.bool x,ps)
 | .str,.s x::ps=>(.str x,ps)
 | .blit b,ps=>(.blit b,ps)
 | .nilp,ps=>(.nilp,ps)
 | .ptr b off,ps=>(.ptr b off,ps)
 | .eptr sh off,.r l::.i i::ps=>(.eptr sh l i off,ps)
 | .mptr sh off,.b c::.r l::.i i::ps=>(.mptr c sh l i off,ps)
 | .vptr b off,.i i::ps=>(.vptr b i off,ps)
 | .nils,ps=>(.nils,ps)
 | .imm sh,.r l::ps=>(.imm sh l,ps)
 | .vec b,ps=>(.vec b,ps)
 | .nilf,ps=>(.nilf,ps)
 | .fn f p q,ps=>let x:=AP.makeL p ps;let y:=AP.makeL q x.2;(.fn f x.1 y.1,y.2)
 | .agg l,ps=>let x:=AP.makeL l ps;(.agg x.1,x.2)
 | .tuple l,ps=>let x:=AP.makeL l ps;(.tuple x.1,x.2)
 | _,ps=>(.undef,ps)
def AP.makeL:List AP->List PV->List AV×List PV
 | [],ps=>([],ps)
 | p::l,ps=>let x:=p.make ps;let y:=AP.makeL l x.2;(x.1::y.1,y.2)
end
mutual
def AP.kinds:AP->List PK
 | .int _=>[.i]|.bool=>[.b]|.str=>[.s]
 | .eptr _ _=>[.r,.i]|.mptr _ _=>[.b,.r,.i]|.vptr _ _=>[.i]|.imm _=>[.r]
 | .fn _ p q=>AP.kindsL p++AP.kindsL q
 | .agg l=>AP.kindsL l
 | .tuple l=>AP.kindsL l
 | _=>[]
def AP.kindsL:List AP->List PK
 | []=>[]
 | p::l=>p.kinds++AP.kindsL l
end
theorem q0l {a b:Option (List PV)}{c:List PV}(h:qC3 a b=some c):∃x y,a=some x/\b=some y/\c=x++y:=by cases a<;>cases b<;>simp[qC3] at h;exact⟨_,_,rfl,rfl,h.symm⟩
mutual
theorem AP.take_ok{X:Ctx}:∀(p:AP) (a:AV) (ps rest:List PV),p.take a=some ps->(p.make (ps++rest)).2=rest/\ps.map PV.kind=p.kinds/\∀v,Rep X a v->Rep X (p.make (ps++rest)).1 v
 | .any,a,ps,rest,h=>by simp only[AP.take,qJc] at h;subst h;exact⟨rfl,rfl,fun v _=>.undef v⟩
 | .yld,a,ps,rest,h=>by
  cases a<;>simp only[AP.take] at h<;>first|(cases h;done)|skip
  cases h;exact⟨rfl,rfl,fun v hv=>hv⟩
 | .int k,a,ps,rest,h=>by
  cases a<;>simp only[AP.take] at h<;>first|(cases h;done)|skip
  all_goals
   split at h
   ·rename_i hk;cases h;subst hk;refine⟨rfl,rfl,fun v hv=>?_⟩;cases hv;exact .int _ _
   ·cases h
 | .bool,a,ps,rest,h=>by
  cases a<;>simp only[AP.take] at h<;>first|(cases h;done)|skip
  all_goals
   cases h;refine⟨rfl,rfl,fun v hv=>?_⟩;cases hv;exact .bool _
 | .str,a,ps,rest,h=>by
  cases a<;>simp only[AP.take] at h<;>first|(cases h;done)|skip
  cases h;exact⟨rfl,rfl,fun v hv=>hv⟩
 | .blit b,a,ps,rest,h=>by
  cases a<;>simp only[AP.take] at h<;>first|(cases h;done)|skip
  split at h
  ·rename_i hb;cases h;subst hb;exact⟨rfl,rfl,fun v hv=>hv⟩
  ·cases h
 | .nilp,a,ps,rest,h=>by
  cases a<;>simp only[AP.take] at h<;>first|(cases h;done)|skip
  cases h;exact⟨rfl,rfl,fun v hv=>hv⟩
 | .ptr b off,a,ps,rest,h=>by
  cases a<;>simp only[AP.take] at h<;>first|(cases h;done)|skip
  split at h
  ·rename_i hb;cases h;obtain⟨rfl,rfl⟩:=hb;exact⟨rfl,rfl,fun v hv=>hv⟩
  ·cases h
 | .eptr sh off,a,ps,rest,h=>by
  cases a<;>simp only[AP.take] at h<;>first|(cases h;done)|skip
  split at h
  ·rename_i hb;cases h;obtain⟨hb,rfl⟩:=hb;have:=Sh.beqL_eq _ _ hb;subst this;exact⟨rfl,rfl,fun v hv=>hv⟩
  ·cases h
 | .mptr sh off,a,ps,rest,h=>by
  cases a<;>simp only[AP.take] at h<;>first|(cases h;done)|skip
  ·cases h;refine⟨rfl,rfl,fun v hv=>?_⟩;cases hv;exact .mnil _ _ _ _
  ·split at h
   ·rename_i hb;cases h;obtain⟨hb,rfl⟩:=hb;have:=Sh.beqL_eq _ _ hb;subst this;refine⟨rfl,rfl,fun v hv=>?_⟩;cases hv with
    | eptr _ _ _ _ a h1 h2 h3 h4=>exact .mptr _ _ _ _ a h1 h2 h3 h4
   ·cases h
  ·split at h
   ·rename_i hb;cases h;obtain⟨hb,rfl⟩:=hb;have:=Sh.beqL_eq _ _ hb;subst this;exact⟨rfl,rfl,fun v hv=>hv⟩
   ·cases h
 | .vptr b off,a,ps,rest,h=>by
  cases a<;>simp only[AP.take] at h<;>first|(cases h;done)|skip
  split at h
  ·rename_i hb;cases h;obtain⟨rfl,rfl⟩:=hb;exact⟨rfl,rfl,fun v hv=>hv⟩
  ·cases h
 | .nils,a,ps,rest,h=>by
  cases a<;>simp only[AP.take] at h<;>first|(cases h;done)|skip
  cases h;exact⟨rfl,rfl,fun v hv=>hv⟩
 | .imm sh,a,ps,rest,h=>by
  cases a<;>simp only[AP.take] at h<;>first|(cases h;done)|skip
  ·cases h;refine⟨rfl,rfl,fun v hv=>?_⟩;cases hv;exact .imm _ _ _ (.inl ⟨rfl,rfl⟩)
  ·split at h
   ·rename_i hb;cases h;have:=Sh.beqL_eq _ _ hb;subst this;exact⟨rfl,rfl,fun v hv=>hv⟩
   ·cases h
 | .vec b,a,ps,rest,h=>by
  cases a<;>simp only[AP.take] at h<;>first|(cases h;done)|skip
  split at h
  ·rename_i hb;cases h;subst hb;exact⟨rfl,rfl,fun v hv=>hv⟩
  ·cases h
 | .nilf,a,ps,rest,h=>by
  cases a<;>simp only[AP.take] at h<;>first|(cases h;done)|skip
  cases h;exact⟨rfl,rfl,fun v hv=>hv⟩
 | .fn f p q,a,ps,rest,h=>by
  cases a<;>simp only[AP.take] at h<;>first|(cases h;done)|skip
  rename_i g a c;split at h
  ·rename_i hf;subst hf;obtain⟨x,y,h1,h2,rfl⟩:=q0l h;obtain⟨a1,a2,a3⟩:=AP.takeL_ok (X:=X) p a x (y++rest) h1;obtain⟨b1,b2,b3⟩:=AP.takeL_ok (X:=X) q c y rest h2;simp only[AP.make,qJQ,a1,b1,AP.kinds,qJK,a2,b2,true_and];intro v hv;cases hv with
   | fn _ _ _ vf vc g1 g2=>exact .fn _ _ _ vf vc (a3 _ g1) (b3 _ g2)
  ·cases h
 | .agg l,a,ps,rest,h=>by
  cases a<;>simp only[AP.take] at h<;>first|(cases h;done)|skip
  obtain⟨a1,a2,a3⟩:=AP.takeL_ok (X:=X) l _ ps rest h;simp only[AP.make,a1,AP.kinds,a2,true_and];intro v hv;cases hv with
  | agg _ vs g=>exact .agg _ vs (a3 _ g)
 | .tuple l,a,ps,rest,h=>by
  cases a<;>simp only[AP.take] at h<;>first|(cases h;done)|skip
  obtain⟨a1,a2,a3⟩:=AP.takeL_ok (X:=X) l _ ps rest h;simp only[AP.make,a1,AP.kinds,a2,true_and];intro v hv;cases hv with
  | tuple _ vs g=>exact .tuple _ vs (a3 _ g)
theorem AP.takeL_ok{X:Ctx}:∀(p:List AP) (a:List AV) (ps rest:List PV),AP.takeL p a=some ps->(AP.makeL p (ps++rest)).2=rest/\ps.map PV.kind=AP.kindsL p/\∀v,RepL X a v->RepL X (AP.makeL p (ps++rest)).1 v
 | [],a,ps,rest,h=>by
  cases a<;>simp only[AP.takeL] at h<;>cases h;exact⟨rfl,rfl,fun v hv=>hv⟩
 | p::l,a,ps,rest,h=>by
  cases a with
  | nil=>simp only[AP.takeL] at h;cases h
  | cons a azz=>
   simp only[AP.takeL] at h;obtain⟨x,y,h1,h2,rfl⟩:=q0l h;obtain⟨a1,a2,a3⟩:=AP.take_ok (X:=X) p a x (y++rest) h1;obtain⟨b1,b2,b3⟩:=AP.takeL_ok (X:=X) l azz y rest h2;simp only[AP.makeL,qJQ,a1,b1,AP.kindsL,qJK,a2,b2,true_and];intro v hv;cases hv with
   | cons g1 g2=>exact .cons (a3 _ g1) (b3 _ g2)
end
def AP.takeLL:List (List AP)->List (List AV)->Option (List PV)
 | [],[]=>some []
 | p::l,a::azz=>qC3 (AP.takeL p a) (AP.takeLL l azz)
 | _,_=>none
def AP.makeLL:List (List AP)->List PV->List (List AV)×List PV
 | [],ps=>([],ps)
 | p::l,ps=>let x:=AP.makeL p ps;let y:=AP.makeLL l x.2;(x.1::y.1,y.2)
def AP.kindsLL:List (List AP)->List PK
 | []=>[]
 | p::l=>AP.kindsL p++AP.kindsLL l
theorem AP.takeLL_ok{X:Ctx}:∀(p:List (List AP)) (a:List (List AV)) (ps rest:List PV),AP.takeLL p a=some ps->(AP.makeLL p (ps++rest)).2=rest/\ps.map PV.kind=AP.kindsLL p/\∀v,RepLL X a v->RepLL X (AP.makeLL p (ps++rest)).1 v
 | [],a,ps,rest,h=>by
  cases a<;>simp only[AP.takeLL] at h<;>cases h;exact⟨rfl,rfl,fun v hv=>hv⟩
 | p::l,a,ps,rest,h=>by
  cases a with
  | nil=>simp only[AP.takeLL] at h;cases h
  | cons a azz=>
   simp only[AP.takeLL] at h;obtain⟨x,y,h1,h2,rfl⟩:=q0l h;obtain⟨a1,a2,a3⟩:=AP.takeL_ok (X:=X) p a x (y++rest) h1;obtain⟨b1,b2,b3⟩:=AP.takeLL_ok (X:=X) l azz y rest h2;simp only[AP.makeLL,qJQ,a1,b1,AP.kindsLL,qJK,a2,b2,true_and];intro v hv;cases hv with
   | cons g1 g2=>exact .cons (a3 _ g1) (b3 _ g2)
inductive BP where
 | cells (l:List AP)|big (l:List AP) (k:IntKind) (n:Nat)|vec (e:TypeId) (sh:List Sh)|frz (e:TypeId) (sh:List Sh)|dead
def BP.take:BP->Blk->Option (List PV)
 | .cells l,.cells cs=>AP.takeL l cs
 | .big l k n,.big cs k' n' r=>if k=k'/\n=n' then qC3 (AP.takeL l cs) (some [.r r]) else none
 | .vec e sh,.vec e' sh' l=>if e=e'/\Sh.beqL sh sh'=true then some [.r l] else none
 | .frz e sh,.frz e' sh' l=>if e=e'/\Sh.beqL sh sh'=true then some [.r l] else none
 | .dead,_=>some []
 | _,_=>none
def BP.make:BP->List PV->Blk×List PV
 | .cells l,ps=>let x:=AP.makeL l ps;(.cells x.1,x.2)
 | .big l k n,ps=>let x:=AP.makeL l ps;match x.2 with
  | .r r::qs=>(.big x.1 k n r,qs)
  | qs=>(.dead,qs)
 | .vec e sh,.r l::ps=>(.vec e sh l,ps)
 | .frz e sh,.r l::ps=>(.frz e sh l,ps)
 | _,ps=>(.dead,ps)
def BP.kinds:BP->List PK
 | .cells l=>AP.kindsL l
 | .big l _ _=>AP.kindsL l++[.r]
 | .vec _ _=>[.r]
 | .frz _ _=>[.r]
 | .dead=>[]
def BP.takeL:List BP->List Blk->Option (List PV)
 | [],[]=>some []
 | p::l,b::bs=>qC3 (p.take b) (BP.takeL l bs)
 | _,_=>none
def BP.makeL:List BP->List PV->List Blk×List PV
 | [],ps=>([],ps)
 | p::l,ps=>let x:=p.make ps;let y:=BP.makeL l x.2;(x.1::y.1,y.2)
def BP.kindsL:List BP->List PK
 | []=>[]
 | p::l=>p.kinds++BP.kindsL l
def BP.isCells:BP->Bool
 | .cells _|.big _ _ _=>true
 | _=>false
theorem BP.take_ok (p:BP)(k:Blk)(ps rest:List PV)(h:p.take k=some ps):(p.make (ps++rest)).2=rest/\ps.map PV.kind=p.kinds/\Wk X k (p.make (ps++rest)).1 /\(p.isCells=true->(p.make (ps++rest)).1.solid=true):=by
 cases p with
 | cells l=>
  cases k<;>simp only[BP.take] at h<;>first|(cases h;done)|skip
  obtain⟨a1,a2,a3⟩:=AP.takeL_ok (X:=X) l _ ps rest h;simp only[BP.make,a1,BP.kinds,a2,true_and];exact⟨.inr (.inr (.inl ⟨_,_,rfl,rfl,a3⟩)),fun _=>rfl⟩
 | big l kk n=>
  cases k<;>simp only[BP.take] at h<;>first|(cases h;done)|skip
  split at h
  ·rename_i hb;obtain⟨rfl,rfl⟩:=hb;obtain⟨x,y,h1,h2,rfl⟩:=q0l h;cases h2;rename_i cs r;obtain⟨a1,a2,a3⟩:=AP.takeL_ok (X:=X) l _ x ([.r r]++rest) h1;simp only[qKc,qKm] at a1 a3;simp only[BP.make,qJQ,a1,qKc,qKm,BP.kinds,qJK,a2,qKi,List.map_nil,PV.kind,true_and];exact⟨.inr (.inr (.inr ⟨_,_,_,_,_,rfl,rfl,a3⟩)),fun _=>rfl⟩
  ·cases h
 | vec e sh=>
  cases k<;>simp only[BP.take] at h<;>first|(cases h;done)|skip
  split at h
  ·rename_i hb;cases h;obtain⟨rfl,hb⟩:=hb;have:=Sh.beqL_eq _ _ hb;subst this;exact⟨rfl,rfl,.inr (.inl rfl),fun h=>by cases h⟩
  ·cases h
 | frz e sh=>
  cases k<;>simp only[BP.take] at h<;>first|(cases h;done)|skip
  split at h
  ·rename_i hb;cases h;obtain⟨rfl,hb⟩:=hb;have:=Sh.beqL_eq _ _ hb;subst this;exact⟨rfl,rfl,.inr (.inl rfl),fun h=>by cases h⟩
  ·cases h
 | dead=>
  have:ps=[]:=by cases k<;>simp[BP.take] at h<;>exact h
  subst this;exact⟨rfl,rfl,.inl rfl,fun h=>by cases h⟩
theorem BP.takeL_ok{X:Ctx}:∀(p:List BP) (k:List Blk) (ps rest:List PV),BP.takeL p k=some ps->(BP.makeL p (ps++rest)).2=rest/\ps.map PV.kind=BP.kindsL p /\
  (BP.makeL p (ps++rest)).1.length=k.length/\p.length=k.length/\∀(b:Nat) (k':Blk),(BP.makeL p (ps++rest)).1[b]?=some k'->∃k0,k[b]?=some k0/\Wk X k0 k'/\∀q:BP,p[b]?=some q->q.isCells=true->k'.solid=true
 | [],k,ps,rest,h=>by
  cases k<;>simp only[BP.takeL] at h<;>cases h;exact⟨rfl,rfl,rfl,rfl,fun b k' hb=>by simp[BP.makeL] at hb⟩
 | p::l,k,ps,rest,h=>by
  cases k with
  | nil=>simp only[BP.takeL] at h;cases h
  | cons k ks=>
   simp only[BP.takeL] at h;obtain⟨x,y,h1,h2,rfl⟩:=q0l h;obtain⟨a1,a2,a3,a4⟩:=BP.take_ok (X:=X) p k x (y++rest) h1;obtain⟨b1,b2,b3,b4,b5⟩:=BP.takeL_ok (X:=X) l ks y rest h2;simp only[BP.makeL,qJQ,a1,b1,BP.kindsL,qJK,a2,b2,qJM,b3,b4,true_and];intro b k' hb;cases b with
   | zero=>
    simp only[qKA,qJc] at hb;subst hb;exact⟨k,rfl,a3,fun q hq hc=>by simp only[qKA,qJc] at hq;subst hq;exact a4 hc⟩
   | succ b=>
    simp only[qKe] at hb ⊢;exact b5 b k' hb
def keep(n:Nat):Nat->Option Nat:=fun b=>if Nat.blt b n then some b else none
theorem qAk {n b b':Nat}(h:keep n b=some b'):b'=b/\b<n:=by
 unfold keep at h;split at h
 ·rename_i hb;cases h;exact⟨rfl,by simpa[Nat.blt_eq] using hb⟩
 ·cases h
def Ctx.cut(X:Ctx)(n:Nat):Ctx:={ X with h:=(X.h.take n).map (Blk.ren (keep n)) }
theorem Ctx.cut_get {n b:Nat}{k:Blk}(h:(X.cut n).h[b]?=some k):b<n/\∃k0,X.h[b]?=some k0/\k=k0.ren (keep n):=by
 have h':((X.h.take n).map (Blk.ren (keep n)))[b]?=some k:=h;rw[qJo,qKg] at h';split at h'
 ·rename_i hb;refine⟨hb,?_⟩;cases hk:X.h[b]? with
  | none=>rw[hk] at h';cases h'
  | some k0=>rw[hk] at h';exact⟨k0,rfl,(qJX h').symm⟩
 ·cases h'
theorem qxe {B:Base}(hs:HSim B X){n:Nat}(hn:B.imps.length<=n):HSim B (X.cut n)/\Move X (X.cut n) (keep n):=by
 have hvec:∀b sh m,(X.cut n).isVec b sh m->X.isVec b sh m:=by
  intro b sh m ⟨e,l,h1,h2⟩;refine⟨e,l,?_,h2⟩;rcases h1 with h1|h1
  ·obtain⟨_,k0,h3,h4⟩:=Ctx.cut_get h1;cases k0<;>simp[Blk.ren] at h4;obtain⟨rfl,rfl,rfl⟩:=h4;exact .inl h3
  ·obtain⟨_,k0,h3,h4⟩:=Ctx.cut_get h1;cases k0<;>simp[Blk.ren] at h4;obtain⟨rfl,rfl,rfl⟩:=h4;exact .inr h3
 have hm:Move X (X.cut n) (keep n):=by refine Move.of (fun _ h=>h) (fun _ _=>rfl) (fun b b' hb hf=>?_);obtain⟨rfl,hlt⟩:=qAk hf;exact⟨by simp[Ctx.cut];omega,rfl,hvec b',fun sh m _ k hk c T fr hc=>⟨c,T,fr,hc,rfl⟩⟩
 have hown:∀b m,(X.cut n).own b m->X.own b m:=by intro b m ⟨h1,k,h2,h3⟩;obtain⟨_,k0,h4,h5⟩:=Ctx.cut_get h2;exact⟨h1,k0,h4,by rw[h5,Blk.mut_ren] at h3;exact h3⟩
 refine⟨⟨?_,fun b b' m h h'=>hs.inj b b' m (hown _ _ h) (hown _ _ h'),fun b m h=>hs.notM b m (hown _ _ h),hs.ltM,hs.M0,hs.newM,hs.os,hs.tape,hs.output,hs.size,hs.frame,hs.imps,?_,fun b m h=>hs.fresh b m (hown _ _ h),hs.kept⟩,hm⟩
 ·intro b k hk;obtain⟨_,k0,h1,h2⟩:=Ctx.cut_get hk;rw[h2];exact jw.move hm.toMove0 rfl (fun _ _=>rfl) (hs.blk b k0 h1)
 ·intro b hb;obtain⟨cs,h1,h2⟩:=hs.impc b hb;refine⟨cs.ren (keep n),?_,by rw[Blk.solid_ren];exact h2⟩;show ((X.h.take n).map (Blk.ren (keep n)))[b]?=_;rw[qJo,qKg,if_pos (by omega),h1];rfl
end Go.Eng

namespace Go.Eng
variable {B:Base}{E:Env}{X:Ctx}{a:Act}{st:St}
def Ex.beq:Ex->Ex->Bool
 | .normal,.normal=>true
 | .ret,.ret=>true
 | .exit i,.exit j=>Nat.beq i j
 | _,_=>false
theorem Ex.beq_eq {x y:Ex}(h:x.beq y=true):x=y:=by cases x<;>cases y<;>simp[Ex.beq] at h ⊢;exact h
def peq:Option Ex->Option Ex->Bool
 | none,none=>true
 | some x,some y=>x.beq y
 | _,_=>false
theorem qHf {x y:Option Ex}(h:peq x y=true):x=y:=by cases x<;>cases y<;>simp[peq] at h ⊢;exact Ex.beq_eq h
structure Tmpl where
 t:List AP
 h:List BP
 pro:List (Nat×TypeId×List Sh):=[]
 fs:List (List AP):=[[]]
 pend:Option Ex:=none
 sw:List (Nat×Nat):=[]
 swn:Nat:=0
 prc:List (Nat×Nat×TypeId×List Sh):=[]
 fz:List Nat:=[]
def qyl:List (Nat×TypeId×List Sh)->St->St
 | [],st=>st
 | (i,e,sh)::l,st=>match st.t[i]? with
  | some .nils=>qyl l { st with t:=st.t.set i (.vec st.h.length),h:=st.h++[.vec e sh []] }
  | _=>qyl l st
def qmD:List (Nat×Nat×TypeId×List Sh)->St->St
 | [],st=>st
 | (i,off,e,sh)::l,st=>match st.t[i]? with
  | some (.ptr b _)=>(match st.h[b]? with
   | some (.cells cs)=>(match cs[off]? with
    | some .nils=>qmD l { st with h:=(st.h++[Blk.vec e sh []]).set b (.cells (cs.set off (.vec st.h.length))) }
    | _=>qmD l st)
   | _=>qmD l st)
  | _=>qmD l st
def qcg(n:Nat)(h:List BP):Bool:=Nat.ble n h.length&&(h.take n).all BP.isCells
def swp(b c x:Nat):Nat:=if Nat.beq x b then c else if Nat.beq x c then b else x
def swB(b c:Nat):Nat->Option Nat:=fun x=>some (swp b c x)
def qvF(b c:Nat)(h:List Blk):List Blk:=(h.set b (h.getD c .dead)).set c (h.getD b .dead)
def St.swap(b c:Nat)(st:St):St:={ t:=AV.renL (swB b c) st.t,fs:=st.fs.map (AV.renL (swB b c)),h:=(qvF b c st.h).map (Blk.ren (swB b c)),pend:=st.pend }
def qHe:AV->Option Nat
 | .ptr b _=>some b
 | .vec b=>some b
 | _=>none
def qIy(st:St)(i:Nat):Option Nat:=match Nat.blt i 1000000 with
 | true=>(st.t[i]?).bind qHe
 | false=>match st.t[i%1000000]? with
  | some (.ptr b _)=>(match st.h[b]? with
   | some (.cells cs)=>(cs[i/1000000-1]?).bind qHe
   | _=>none)
  | _=>none
def qpr(n:Nat):List (Nat×Nat)->St->St
 | [],st=>st
 | (i,b)::l,st=>match qIy st i with
  | some c=>(match Nat.ble n b&&Nat.ble n c&&Nat.blt b st.h.length&&Nat.blt c st.h.length&&!(Nat.beq b c) with
   | true=>qpr n l (st.swap b c)
   | false=>qpr n l st)
  | none=>qpr n l st
def Tmpl.take1(tm:Tmpl)(st:St):Option (List PV):=match peq tm.pend st.pend with
 | true=>qC3 (AP.takeL tm.t (AV.renL (keep tm.h.length) st.t)) (qC3 (AP.takeLL tm.fs (st.fs.map (AV.renL (keep tm.h.length)))) (BP.takeL tm.h ((st.h.take tm.h.length).map (Blk.ren (keep tm.h.length)))))
 | false=>none
def qHG(l:List Nat)(st:St):St:={ st with h:=qO st.h l }
def Tmpl.take(tm:Tmpl)(st:St):Option (List PV):=tm.take1 (qHG tm.fz (qpr tm.swn tm.sw (qmD tm.prc (qyl tm.pro st))))
def Tmpl.ok(n:Nat)(tm:Tmpl):Bool:=qcg n tm.h&&(tm.sw.isEmpty||Nat.ble n tm.swn)
def Tmpl.make(tm:Tmpl)(ps:List PV):St:=let x:=AP.makeL tm.t ps;let y:=AP.makeLL tm.fs x.2;{ t:=x.1,fs:=y.1,h:=(BP.makeL tm.h y.2).1,pend:=tm.pend }
def Tmpl.kinds(tm:Tmpl):List PK:=AP.kindsL tm.t++(AP.kindsLL tm.fs++BP.kindsL tm.h)
theorem qov {n:Nat}{h:List BP}(hc:qcg n h=true):n<=h.length/\∀b,b<n->∃q,h[b]?=some q/\q.isCells=true:=by
 simp only[qcg,qJx,Nat.ble_eq,qJL] at hc;refine⟨hc.1,fun b hb=>?_⟩;have hlt:b<h.length:=by omega
 refine⟨h[b],qJk hlt,hc.2 _ ?_⟩;rw[List.mem_take_iff_getElem];exact⟨b,by omega,rfl⟩
theorem qp4 {X X':Ctx}(hM:∀n,X.M n->X'.M n)(hw:X'.w=X.w)(hy:X'.y=X.y)(h:∀x,x∈E.glob->(∃sh l i off,x.2=.eptr sh l i off)/\qDa X x) :∀x,x∈E.glob->(∃sh l i off,x.2=.eptr sh l i off)/\qDa X' x:=by intro x hx;obtain⟨⟨sh,l,i,off,he⟩,hr⟩:=h x hx;refine⟨⟨sh,l,i,off,he⟩,hr.move hM (fun _ _=>by rw[hw]) ?_⟩;have hr:=hr.1;rw[he] at hr ⊢;exact hr.noMen rfl hM (fun _ _=>by rw[hw]) hy
theorem ql4{E:Env}{B:Base}{a:Act}:∀(l:List (Nat×TypeId×List Sh)) {X:Ctx} {st:St},Sim E B X st a->∃X',X'.w=X.w/\Sim E B X' (qyl l st) a
 | [],X,st,hs=>⟨X,rfl,hs⟩
 | (i,e,sh)::l,X,st,hs=>by
  simp only[qyl];split
  ·rename_i hi;have hw:=PushW.same X;have hk:jw (X.pushW (.vec e sh []) none X.w) X.h.length (.vec e sh []):=.inl ⟨by simp[Ctx.pushW],rfl⟩;have hs1:=HSim.push hs.hs hw hk;have hx:=Ctx.push_ext hs.hs (.vec e sh []) hw;have hsim:=hs.ext hx hs1;obtain⟨v,g1,g2⟩:=hs.t.get i _ hi;have hv:v=.slice none 0 0:=by cases g2;rfl
   subst hv;have hrep:Rep (X.pushW (.vec e sh []) none X.w) (.vec st.h.length) (.slice none 0 0):=by rw[<-hs.h];refine .vec _ _ _ _ (by simp[Ctx.pushW]) fun sh' m hv=>?_;unfold qtd;simp[Ctx.pushW]
   have hset:=RepL.set hrep hsim.t i;have he:a.tmps.toList.set i (.slice none 0 0)=a.tmps.toList:=by
    apply qK9;intro j;by_cases hj:j=i
    ·subst hj;rw[qJv (qu g1),g1]
    ·rw[qJf (qJI hj)]
   rw[he] at hset;obtain⟨X2,q1,q2⟩:=ql4 l (X:=X.pushW (.vec e sh []) none X.w) (st:={ st with t:=st.t.set i (.vec st.h.length),h:=st.h++[.vec e sh []] })
    ⟨hs1,by simp[Ctx.pushW,hs.h],hset,hsim.fs,hsim.glob,hsim.df,hsim.ni,hsim.y,hsim.pin⟩
   exact⟨X2,q1,q2⟩
  ·exact ql4 l hs
theorem qaH{E:Env}{B:Base}{a:Act}:∀(l:List (Nat×Nat×TypeId×List Sh)) {X:Ctx} {st:St},Sim E B X st a->∃X',X'.w=X.w/\Sim E B X' (qmD l st) a
 | [],X,st,hs=>⟨X,rfl,hs⟩
 | (i,off,e,sh)::l,X,st,hs=>by
  simp only[qmD];split
  ·rename_i b o hi;split
   ·rename_i cs hb;split
    ·rename_i hc;have hw:=PushW.same X;have hk:jw (X.pushW (.vec e sh []) none X.w) X.h.length (.vec e sh []):=.inl ⟨by simp[Ctx.pushW],rfl⟩;have hs1:=HSim.push hs.hs hw hk;have hx:=Ctx.push_ext hs.hs (.vec e sh []) hw;have hsim:=hs.ext hx hs1;have hbX:X.h[b]?=some (.cells cs):=by rw[hs.h];exact hb
     have hbl:=qu hbX;obtain⟨n,c,T,g1,g2,g3⟩:=hs.hs.blk b _ hbX;have hb1:(X.pushW (.vec e sh []) none X.w).h[b]?=some (.cells cs):=by show (X.h++[Blk.vec e sh []])[b]?=_;rw[qJp hbl];exact hbX
     have g1':(X.pushW (.vec e sh []) none X.w).σ b=some n:=by show (if b=X.h.length then none else X.σ b)=_;rw[if_neg (by omega)];exact g1
     have g3':=g3.ext hx;have hrep:Rep (X.pushW (.vec e sh []) none X.w) (.vec st.h.length) (.slice none 0 0):=by rw[<-hs.h];refine .vec _ _ _ _ (by simp[Ctx.pushW]) fun sh' m hv=>?_;unfold qtd;simp[Ctx.pushW]
     obtain⟨v,k1,k2⟩:=g3'.get off _ hc;have hv:v=.slice none 0 0:=by cases k2;rfl
     subst hv;have hset:=RepL.set hrep g3' off;have he:c.toList.set off (.slice none 0 0)=c.toList:=by
      apply qK9;intro j;by_cases hj:j=off
      ·subst hj;rw[qJv (qu k1),k1]
      ·rw[qJf (qJI hj)]
     rw[he] at hset;have hup:UpdW (X.pushW (.vec e sh []) none X.w) n c c T X.w:=⟨g2,g2,rfl,fun _ _=>rfl,rfl,rfl,rfl,rfl⟩;have hown:(X.pushW (.vec e sh []) none X.w).own b n:=⟨g1',_,hb1,rfl⟩;have hx2:=Ctx.upd_ext (k':=.cells (cs.set off (.vec st.h.length))) hs1 hb1 hown hup trivial;have hs2:=hs1.upd (k':=.cells (cs.set off (.vec st.h.length))) hb1 hown hup trivial ⟨n,c,T,g1',g2,hset.ext hx2⟩;have hsim2:=hsim.ext hx2 hs2;have hh:((X.pushW (.vec e sh []) none X.w).upd b (.cells (cs.set off (.vec st.h.length))) X.w).h=(st.h++[Blk.vec e sh []]).set b (.cells (cs.set off (.vec st.h.length))):=by show (X.h++[Blk.vec e sh []]).set b _=_;rw[hs.h]
     obtain⟨X3,q1,q2⟩:=qaH l hsim2;refine⟨X3,q1,?_⟩;rw[hh] at q2;exact q2
    ·exact qaH l hs
   ·exact qaH l hs
  ·exact qaH l hs
theorem qoh (b c x:Nat):swp b c (swp b c x)=x:=by
 unfold swp;simp only[Nat.beq_eq];by_cases h1:x=b
 ·subst h1;by_cases h2:c=x
  ·simp[h2]
  ·simp[h2]
 ·by_cases h2:x=c
  ·subst h2;simp[h1]
  ·simp[h1,h2]
theorem qI1 {b c x n:Nat}(hb:n<=b)(hc:n<=c):n<=swp b c x↔n<=x:=by
 unfold swp;simp only[Nat.beq_eq];split
 ·rename_i h;subst h;exact⟨fun _=>hb,fun _=>hc⟩
 ·split
  ·rename_i h;subst h;exact⟨fun _=>hc,fun _=>hb⟩
  ·exact Iff.rfl
theorem qHA {b c x n:Nat}(hb:b<n)(hc:c<n):swp b c x<n↔x<n:=by
 unfold swp;simp only[Nat.beq_eq];split
 ·rename_i h;subst h;exact⟨fun _=>hb,fun _=>hc⟩
 ·split
  ·rename_i h;subst h;exact⟨fun _=>hc,fun _=>hb⟩
  ·exact Iff.rfl
theorem qEj {b c x n:Nat}(hb:n<=b)(hc:n<=c)(hx:x<n):swp b c x=x:=by unfold swp;simp only[Nat.beq_eq];rw[if_neg (by omega),if_neg (by omega)]
theorem qA1 {b c:Nat}{h:List Blk}(hb:b<h.length)(hc:c<h.length)(hbc:b≠c)(i:Nat):(qvF b c h)[i]?=h[swp b c i]?:=by
 have e1:h.getD c .dead=h[c]:=by simp[hc]
 have e2:h.getD b .dead=h[b]:=by simp[hb]
 unfold qvF swp;simp only[Nat.beq_eq];rw[e1,e2];by_cases h1:i=b
 ·subst h1;rw[if_pos rfl,qJf (qJI hbc),qJv hb,qJk hc]
 ·by_cases h2:i=c
  ·subst h2;rw[if_neg h1,if_pos rfl,qJv (by simpa using hc),qJk hb]
  ·rw[if_neg h1,if_neg h2,qJf (qJI h2),qJf (qJI h1)]
def Ctx.swap(X:Ctx)(b c:Nat):Ctx:={ X with σ:=fun x=>X.σ (swp b c x),h:=(qvF b c X.h).map (Blk.ren (swB b c)) }
theorem qB0 (hs:HSim B X){b c:Nat}(hb:B.imps.length<=b)(hc:B.imps.length<=c)(hbl:b<X.h.length)(hcl:c<X.h.length)(hbc:b≠c) :HSim B (X.swap b c)/\Move X (X.swap b c) (swB b c):=by
 have hget:∀i,(X.swap b c).h[i]?=(X.h[swp b c i]?).map (Blk.ren (swB b c)):=fun i=>by show ((qvF b c X.h).map _)[i]?=_;rw[qJo,qA1 hbl hcl hbc]
 have hget':∀i k,(X.swap b c).h[i]?=some k->∃k0,X.h[swp b c i]?=some k0/\k=k0.ren (swB b c):=by
  intro i k h;rw[hget] at h;cases hk:X.h[swp b c i]? with
  | none=>rw[hk] at h;cases h
  | some k0=>rw[hk] at h;exact⟨k0,rfl,(qJX h).symm⟩
 have hσ:∀i,(X.swap b c).σ i=X.σ (swp b c i):=fun _=>rfl;have hm:Move X (X.swap b c) (swB b c):=by
  refine Move.of (fun _ h=>h) (fun _ _=>rfl) (fun b1 b2 hb1 hf=>?_);have hf':b2=swp b c b1:=(qJX hf).symm;subst hf';refine⟨?_,by rw[hσ,qoh],fun sh m ⟨e,l,h1,h2⟩=>⟨e,l,?_,h2⟩,fun sh m _ n hn c T fr hc=>⟨c,T,fr,hc,rfl⟩⟩
  ·show _<((qvF b c X.h).map _).length;simp only[qvF,qJm,qKE];exact(qHA hbl hcl).2 hb1
  ·rcases h1 with h1|h1
   ·obtain⟨k0,h3,h4⟩:=hget' _ _ h1;rw[qoh] at h3;rcases ql8 (.inl h4) with rfl|rfl
    ·exact .inl h3
    ·exact .inr h3
   ·obtain⟨k0,h3,h4⟩:=hget' _ _ h1;rw[qoh] at h3;rcases ql8 (.inr h4) with rfl|rfl
    ·exact .inl h3
    ·exact .inr h3
 have hown:∀i n,(X.swap b c).own i n->X.own (swp b c i) n:=by intro i n ⟨h1,k,h2,h3⟩;obtain⟨k0,h4,h5⟩:=hget' i k h2;exact⟨h1,k0,h4,by rw[h5,Blk.mut_ren] at h3;exact h3⟩
 refine⟨⟨?_,?_,fun i n h=>hs.notM _ n (hown _ _ h),hs.ltM,hs.M0,hs.newM,hs.os,hs.tape,hs.output,hs.size,hs.frame,?_,?_,?_,hs.kept⟩,hm⟩
 ·intro i k hk;obtain⟨k0,h1,h2⟩:=hget' i k hk;rw[h2];exact jw.move hm.toMove0 (hσ i) (fun _ _=>rfl) (hs.blk _ k0 h1)
 ·intro i j n h1 h2;have:=hs.inj _ _ n (hown _ _ h1) (hown _ _ h2);rw[<-qoh b c i,this,qoh]
 ·intro i hi;rw[hσ,qEj hb hc hi];exact hs.imps i hi
 ·intro i hi;obtain⟨k,h1,h2⟩:=hs.impc i hi;exact⟨k.ren (swB b c),by rw[hget,qEj hb hc hi,h1];rfl,by rw[Blk.solid_ren];exact h2⟩
 ·intro i n h1 h2;exact hs.fresh _ n (hown _ _ h1) ((qI1 hb hc).2 h2)
theorem qej{E:Env}{B:Base}{a:Act}{n:Nat}(hn:B.imps.length<=n):∀(l:List (Nat×Nat)) {X:Ctx} {st:St},Sim E B X st a->∃X',X'.w=X.w/\Sim E B X' (qpr n l st) a
 | [],X,st,hs=>⟨X,rfl,hs⟩
 | (i,b)::l,X,st,hs=>by
  simp only[qpr];split
  ·rename_i c hc;split
   ·rename_i hcond;simp only[qJx,Nat.ble_eq,Nat.blt_eq,qKU] at hcond;obtain⟨⟨⟨⟨c1,c2⟩,c3⟩,c4⟩,c5⟩:=hcond;have hne:b≠c:=fun e=>by subst e;simp at c5
    obtain⟨g1,g2⟩:=qB0 hs.hs (b:=b) (c:=c) (by omega) (by omega) (by rw[hs.h];exact c3) (by rw[hs.h];exact c4) hne;obtain⟨X2,q1,q2⟩:=qej hn l (X:=X.swap b c) (st:=st.swap b c) ⟨g1,by simp[Ctx.swap,St.swap,hs.h],hs.t.ren g2.toMove0,hs.fs.ren g2.toMove0,qp4 (X:=X) (fun _ h=>h) rfl rfl hs.glob,hs.df,hs.ni,hs.y,hs.pin⟩;exact⟨X2,q1,q2⟩
   ·exact qej hn l hs
  ·exact qej hn l hs
theorem Tmpl.weaken1 {tm:Tmpl}{ps:List PV}(hk:qcg E.nimp tm.h=true)(h:tm.take1 st=some ps)(hs:Sim E B X st a) :ps.map PV.kind=tm.kinds/\∃X',X'.w=X.w/\Sim E B X' (tm.make ps) a:=by
 unfold Tmpl.take1 at h;split at h
 ·rename_i hpe;have hpe':=qHf hpe;obtain⟨x,yz,h1,h0,rfl⟩:=q0l h;obtain⟨y,z,h2,h3,rfl⟩:=q0l h0;obtain⟨hc1,hc2⟩:=qov hk;obtain⟨c1,c2⟩:=qxe hs.hs (n:=tm.h.length) (qJg hs.ni hc1);obtain⟨a1,a2,a3⟩:=AP.takeL_ok (X:=X.cut tm.h.length) _ _ x (y++z) h1;obtain⟨d1,d2,d3⟩:=AP.takeLL_ok (X:=X.cut tm.h.length) _ _ y z h2;obtain⟨b1,b2,b3,b4,b5⟩:=BP.takeL_ok (X:=X.cut tm.h.length) _ _ z [] h3;have hch:(X.cut tm.h.length).h=(st.h.take tm.h.length).map (Blk.ren (keep tm.h.length)):=by rw[<-hs.h];rfl
  rw[<-hch] at b3 b5;rw[qKl] at b3 b5;obtain⟨e1,e2⟩:=qap c1 (h':=(BP.makeL tm.h z).1) b3 (fun b k' hb=>by obtain⟨k0,e1,e2,_⟩:=b5 b k' hb;exact⟨k0,e1,e2⟩)
   (fun b hb k' hk'=>by obtain⟨q,q1,q2⟩:=hc2 b (by have:=hs.ni;omega);obtain⟨k0,_,_,e3⟩:=b5 b k' hk';exact e3 q q1 q2)
  refine⟨by simp[Tmpl.kinds,a2,d2,b2],{ X.cut tm.h.length with h:=(BP.makeL tm.h z).1 },rfl,⟨e1,?_,?_,?_,?_,?_,hs.ni,hs.y,?_⟩⟩
  ·simp only[Tmpl.make,a1,d1]
  ·simp only[Tmpl.make];exact(a3 _ (hs.t.ren c2.toMove0)).ext e2
  ·simp only[Tmpl.make,a1];exact(d3 _ (hs.fs.ren c2.toMove0)).ext e2
  ·exact qp4 (X:=X) (fun _ h=>h) rfl rfl hs.glob
  ·show qwF X.kept (B.pin tm.pend) a.defers;rw[hpe'];exact hs.df
  ·show ∀p,p∈B.pin tm.pend->p∈X.kept;rw[hpe'];exact hs.pin
 ·cases h
theorem qyA (l:List Nat)(hs:Sim E B X st a):∃X',X'.w=X.w/\Sim E B X' (qHG l st) a:=by obtain⟨X1,f⟩:=q5p l hs.hs;refine⟨X1,f.w,?_⟩;have:=hs.ext f.ext f.hs;rw[f.h,hs.h] at this;exact this
theorem Tmpl.weaken {tm:Tmpl}{ps:List PV}(hk:tm.ok E.nimp=true)(h:tm.take st=some ps)(hs:Sim E B X st a) :ps.map PV.kind=tm.kinds/\∃X',X'.w=X.w/\Sim E B X' (tm.make ps) a:=by
 unfold Tmpl.ok at hk;simp only[qJx,qKJ,List.isEmpty_iff,Nat.ble_eq] at hk;obtain⟨X0,h0,h2'⟩:=ql4 tm.pro hs;obtain⟨X1,h1',h2⟩:=qaH tm.prc h2';have h1:=h1'.trans h0;have:∃X',X'.w=X1.w/\Sim E B X' (qpr tm.swn tm.sw (qmD tm.prc (qyl tm.pro st))) a:=by
  rcases hk.2 with h0|h0
  ·rw[h0];exact⟨X1,rfl,h2⟩
  ·exact qej (qJg hs.ni h0) tm.sw h2
 obtain⟨X1',h1',h2'⟩:=this;obtain⟨X1'',h1'',h2''⟩:=qyA tm.fz h2';obtain⟨g1,X2,g2,g3⟩:=Tmpl.weaken1 hk.1 h h2'';exact⟨g1,X2,((g2.trans h1'').trans h1').trans h1,g3⟩
structure Out where
 x:Ex
 tm:Tmpl
abbrev TR:=Tree (Nat×List PV)
def qGq:List Out->Nat->Ex×St->TR
 | [],_,_=>.fail
 | o::l,j,r=>match Ex.beq o.x r.1,o.tm.take r.2 with
  | true,some ps=>.leaf (j,ps)
  | _,_=>qGq l (j+1) r
def okR(R:TR):Bool:=R.run.isSome
def jR(R:TR):Nat:=match R.run with|some r=>r.1|none=>0
def pR(R:TR)(i:Nat):PV:=match R.run with|some r=>r.2.getD i (.i 0)|none=>.i 0
def gI(R:TR)(i:Nat):Int:=(pR R i).toI
def gB(R:TR)(i:Nat):Bool:=(pR R i).toB
def gS(R:TR)(i:Nat):List UInt8:=(pR R i).toS
def gR(R:TR)(i:Nat):Go.Eng.R:=(pR R i).toR
def jIs(R:TR)(j:Nat):Bool:=Nat.beq (jR R) j
def qkL(R:TR):List PK->Nat->List PV
 | [],_=>[]
 | .i::l,n=>.i (gI R n)::qkL R l (n+1)
 | .b::l,n=>.b (gB R n)::qkL R l (n+1)
 | .s::l,n=>.s (gS R n)::qkL R l (n+1)
 | .r::l,n=>.r (gR R n)::qkL R l (n+1)
theorem qk9{R:TR}{j:Nat}{ps:List PV}(hR:R.run=some (j,ps)):∀(ks:List PK) (n:Nat),(ps.drop n).map PV.kind=ks->qkL R ks n=ps.drop n
 | [],n,h=>by simp at h;simp[qkL];exact h
 | k::ks,n,h=>by
  cases hd:ps.drop n with
  | nil=>rw[hd] at h;cases h
  | cons v rest=>
   rw[hd] at h;simp only[qKi,qKK] at h;have hn:ps[n]?=some v:=by
    have:(ps.drop n)[0]?=some v:=by rw[hd];rfl
    rwa [qKh,qJU] at this
   have hr:ps.drop (n+1)=rest:=by rw[<-List.drop_drop,hd];rfl
   have ih:=qk9 hR ks (n+1) (by rw[hr];exact h.2);have hp:pR R n=v:=by simp[pR,hR,hn]
   rw[hr] at ih;cases v<;>simp only[PV.kind] at h<;>obtain⟨rfl,_⟩:=h<;>simp only[qkL,ih,gI,gB,gS,gR,hp,PV.toI,PV.toB,PV.toS,PV.toR]
def qHC(R:TR):List Out->Nat->Tree (Ex×St)
 | [],_=>.fail
 | o::l,j=>match l with
  | []=>.leaf (o.x,o.tm.make (qkL R o.tm.kinds 0))
  | _::_=>.br (jIs R j) (.leaf (o.x,o.tm.make (qkL R o.tm.kinds 0))) (qHC R l (j+1))
theorem qy2{R:TR}{j:Nat}{ps:List PV}(hR:R.run=some (j,ps)):∀(outs:List Out) (k:Nat) (o:Out) (r:Ex×St),k<=j->outs[j-k]?=some o->ps.map PV.kind=o.tm.kinds ->
  (qHC R outs k).run=some r->r=(o.x,o.tm.make ps)
 | [],k,o,r,_,h,_,_=>by simp at h
 | o'::l,k,o,r,hk,h,hp,hr=>by
  have hj:jR R=j:=by simp[jR,hR]
  simp only[qHC] at hr;cases l with
  | nil=>
   have:j-k=0:=by
    rcases qKj (j-k) with h0|h0
    ·exact h0
    ·rw[qJC (by simp;omega)] at h;cases h
   rw[this] at h;simp only[qKA,qJc] at h;subst h;simp only[Tree.run,qJc] at hr;rw[<-hr,qk9 hR _ 0 (by simpa using hp)];rfl
  | cons o2 l=>
   simp only[Tree.run] at hr;by_cases hjk:j=k
   ·have hb:jIs R k=true:=by simp[jIs,hj,hjk]
    rw[hb] at hr;simp only[qJc] at hr;subst hjk;simp only[qK3,qKA,qJc] at h;subst h;rw[<-hr,qk9 hR _ 0 (by simpa using hp)];rfl
   ·have hb:jIs R k=false:=by
     simp only[jIs,hj];cases hq:Nat.beq j k with
     | false=>rfl
     | true=>exact absurd (qKd hq) hjk
    rw[hb] at hr;simp only at hr;refine qy2 hR (o2::l) (k+1) o r (by omega) ?_ hp hr;rw[show j-k=(j-(k+1))+1 by omega,qKe] at h;exact h
theorem qxg:∀(outs:List Out) (k:Nat) (r:Ex×St) (j:Nat) (ps:List PV),(qGq outs k r).run=some (j,ps)->k<=j/\∃o,outs[j-k]?=some o/\o.x=r.1/\o.tm.take r.2=some ps
 | [],k,r,j,ps,h=>by simp only[qGq] at h;cases h
 | o::l,k,r,j,ps,h=>by
  simp only[qGq] at h;split at h
  ·rename_i ps' hb ht;simp only[Tree.run,qJc,qJO] at h;obtain⟨rfl,rfl⟩:=h;exact⟨qJe _,o,by simp,Ex.beq_eq hb,ht⟩
  ·obtain⟨h1,o',h2,h3,h4⟩:=qxg l (k+1) r j ps h;refine⟨by omega,o',?_,h3,h4⟩;rw[show j-k=(j-(k+1))+1 by omega,qKe];exact h2
def qj(tin:Tmpl)(outs:List Out)(T:List PV->TR):St->Tree (Ex×St):=fun st=>match tin.take st with
 | none=>.fail
 | some ps=>.br (okR (T ps)) (qHC (T ps) outs 0) .fail
theorem qyr {tin:Tmpl}{outs:List Out}{T:List PV->TR}{r:Ex×St}(h:(qj tin outs T st).run=some r) :∃ps j qs,tin.take st=some ps/\(T ps).run=some (j,qs)/\(qHC (T ps) outs 0).run=some r:=by
 unfold qj at h;cases ht:tin.take st with
 | none=>rw[ht] at h;cases h
 | some ps=>
  rw[ht] at h;simp only[Tree.run] at h;cases hr:(T ps).run with
  | none=>simp[okR,hr] at h
  | some q=>
   obtain⟨j,qs⟩:=q;simp only[okR,hr,qLt] at h;exact⟨ps,j,qs,rfl,hr,h⟩
theorem qvA.env {E E':Env}(he:E.glob=E'.glob)(hn:E.nimp=E'.nimp){r:Ex×St}{e:Exit}{w:World}(h:qvA E B r e a w):qvA E' B r e a w:=by obtain⟨h1,X',h2,h3⟩:=h;exact⟨h1,X',h2,h3.env he hn⟩
theorem qFB {ni:Nat}{outs:List Out}(h:(outs.all fun o=>o.tm.ok ni)=true){j:Nat}{o:Out}(ho:outs[j]?=some o):o.tm.ok ni=true:=qJL.1 h o (qKt ho)
theorem qsJ {p:Nat->Prop}(h:∃n,p n):∃n,p n/\∀m,p m->n<=m:=by
 obtain⟨n,hn⟩:=h;induction n using Nat.strongRecOn with
 | _ n ih=>
  by_cases hlt:∃m,m<n/\p m
  ·obtain⟨m,h1,h2⟩:=hlt;exact ih m h1 h2
  ·exact⟨n,hn,fun m hm=>Nat.le_of_not_lt fun h=>hlt ⟨m,h,hm⟩⟩
open Classical in
noncomputable def qrM(p:Nat->Prop):Nat:=if h:∃n,p n then Classical.choose (qsJ h) else 0
theorem qmR {p:Nat->Prop}(h:∃n,p n):p (qrM p)/\∀m,p m->qrM p<=m:=by unfold qrM;rw[dif_pos h];exact Classical.choose_spec (qsJ h)
def qCV(tin:Tmpl)(outs:List Out)(r:Ex×St):TR:=match r.1 with
 | .normal=>match tin.take r.2 with
  | some ps=>.leaf (0,ps)
  | none=>.fail
 | _=>qGq outs 1 r
def qjt(S:List PV->TR):Nat->List PV->TR
 | 0,_=>.fail
 | n+1,ps=>(S ps).bind fun r=>match r.1 with
  | 0=>qjt S n r.2
  | j+1=>.leaf (j,r.2)
theorem qBC {P:Program}{c:Code}{BO:Base->Prop}{ev:St->Tree (Ex×St)}(hev:∀(n0:Nat) B X st a r,BO B->Sim E B X st a->(ev st).run=some r->c.wpIn (q50 B.ro) n0 P (qvA E B r) a X.w){tin:Tmpl} {outs:List Out} {S T:List PV->TR} (hk:tin.ok E.nimp=true) (hko:(outs.all fun o=>o.tm.ok E.nimp)=true)(hS:∀ps r,ps.map PV.kind=tin.kinds->(S ps).run=some r->((ev (tin.make ps)).bind (qCV tin outs)).run=some r) (hT:∀ps,∃n,T ps=qjt S n ps) :ql P E.glob E.nimp BO (.loop c) (qj tin outs T):=by
 intro E' B X st a r he hn hbo hs h nf;obtain⟨ps,j,qs,h1,h2,h3⟩:=qyr h;obtain⟨hkd,X',hw,hs'⟩:=Tmpl.weaken hk h1 (hs.env he hn);obtain⟨n0,hn0⟩:=hT ps;have hend:∀(o:Out) (X3:Ctx) (a':Act),outs[j]?=some o->qs.map PV.kind=o.tm.kinds->Sim E B X3 (o.tm.make qs) a'->qvA E' B r o.x.out a' X3.w:=by intro o X3 a' q1 hkd2 hs3;have hr:=qy2 h2 outs 0 o r (qKL _) q1 hkd2 h3;subst hr;exact qvA.env he.symm hn.symm ⟨rfl,X3,rfl,hs3⟩
 rw[hn0] at h2
 let I:Nat->Act->World->Prop:=fun n a' w'=>∃X1 ps1,X1.w=w'/\ps1.map PV.kind=tin.kinds/\Sim E B X1 (tin.make ps1) a'/\(qjt S n ps1).run=some (j,qs)
 have key:∀a' w',(∃n,I n a' w')->c.wpIn (q50 B.ro) nf P (Exit.then (fun a'' w''=>∃n,I n a'' w''/\∀m,I m a' w'->n<m) (qvA E' B r)) a' w':=by
  intro a' w' hex;have hmin:=qsJ hex;obtain⟨n,⟨X1,ps1,rfl,hk1,hs1,hit⟩,hleast⟩:=hmin;cases n with
  | zero=>simp only[qjt] at hit;cases hit
  | succ n=>
   simp only[qjt] at hit;obtain⟨s,g1,g2⟩:=bind_some hit;obtain⟨r1,g3,g4⟩:=bind_some (hS ps1 s hk1 g1);refine wpIn_mono (hev nf B X1 _ a' r1 hbo hs1 g3) fun e a'' w'' ⟨p1,X2,p2,p3⟩=>?_;subst p1 p2;obtain⟨x1,s1⟩:=r1;have other:∀(_:(qGq outs 1 (x1,s1)).run=some s),qvA E' B r x1.out a'' X2.w:=by
    intro hf;obtain⟨sj,sps⟩:=s;obtain⟨f1,o,f2,f3,f4⟩:=qxg _ _ _ _ _ hf;cases sj with
    | zero=>omega
    | succ sj=>
     simp only[Tree.run,qJc,qJO] at g2;obtain⟨rfl,rfl⟩:=g2;simp only[qLu] at f2;obtain⟨hkd2,X3,hw3,hs3⟩:=Tmpl.weaken (qFB hko f2) f4 p3;have f3':o.x=x1:=f3;rw[<-f3',<-hw3];exact hend o X3 a'' f2 hkd2 hs3
   cases x1 with
   | normal=>
    simp only[qCV] at g4;cases htk:tin.take s1 with
    | none=>rw[htk] at g4;cases g4
    | some ps2=>
     rw[htk] at g4;simp only[Tree.run,qJc] at g4;subst g4;obtain⟨hkd2,X3,hw3,hs3⟩:=Tmpl.weaken hk htk p3;refine⟨n,⟨X3,ps2,hw3,hkd2,hs3,g2⟩,fun m hm=>?_⟩;have:=hleast m hm;omega
   | exit i=>exact other g4
   | ret=>exact other g4
 rw[<-hw];have hI0:∃n,I n a X'.w:=⟨n0,X',ps,rfl,hkd,hs',h2⟩;refine wpIn_loop (fun a' w'=>∃n,I n a' w') (fun a' w'=>qrM fun n=>I n a' w') hI0 fun a' w' hex=>?_;refine wpIn_mono (key a' w' hex) fun e a'' w'' hq=>?_;cases e with
 | normal=>
  obtain⟨n,hn1,hn2⟩:=hq;exact⟨⟨n,hn1⟩,qL7 ((qmR ⟨n,hn1⟩).2 n hn1) (hn2 _ (qmR hex).1)⟩
 | exit i=>exact hq
 | goto i=>exact hq
 | ret=>exact hq
 | panic ch=>exact hq
 | outgrown=>exact hq
end Go.Eng

namespace Go.Eng
variable {B:Base}{P:Program}{X:Ctx}{f:FuncId}{gl:List (Nat×AV)}{v:Value}
structure FOut where
 res:AP
 h:List BP
 pro:Option (Nat×TypeId×List Sh):=none
def qG2:Nat->AV->Bool
 | i,.tuple vs=>match vs[i]? with|some .nils=>true|_=>false
 | 0,.nils=>true
 | _,_=>false
def qIF(i:Nat)(v:AV):AV->AV
 | .tuple vs=>.tuple (vs.set i v)
 | .nils=>v
 | x=>x
def qIc(p:Option (Nat×TypeId×List Sh))(r:AV×List Blk):AV×List Blk:=match p with
 | none=>r
 | some (i,e,sh)=>match qG2 i r.1 with
  | true=>(qIF i (.vec r.2.length) r.1,r.2++[.vec e sh []])
  | false=>r
def qw8(h:List Blk):Blk->Blk
 | .cells cs=>.cells (AV.lendL h cs)
 | k=>k
def qdg(fz:Bool)(r:AV×List Blk):AV×List Blk:=match fz with
 | false=>r
 | true=>let h1:=qO r.2 (List.range r.2.length);(r.1.lend h1,h1.map (qw8 h1))
def FOut.take1(o:FOut)(r:AV×List Blk):Option (List PV):=qC3 (o.res.take (r.1.ren (keep o.h.length))) (BP.takeL o.h ((r.2.take o.h.length).map (Blk.ren (keep o.h.length))))
def FOut.take(o:FOut)(r:AV×List Blk):Option (List PV):=o.take1 (qIc o.pro r)
def FOut.make(o:FOut)(ps:List PV):AV×List Blk:=let x:=o.res.make ps;(x.1,(BP.makeL o.h x.2).1)
def FOut.kinds(o:FOut):List PK:=o.res.kinds++BP.kindsL o.h
def qGr:List FOut->Nat->AV×List Blk->TR
 | [],_,_=>.fail
 | o::l,j,r=>match o.take r with
  | some ps=>.leaf (j,ps)
  | none=>qGr l (j+1) r
def qB2(R:TR):List FOut->Nat->Tree (AV×List Blk)
 | [],_=>.fail
 | o::l,j=>match l with
  | []=>.leaf (o.make (qkL R o.kinds 0))
  | _::_=>.br (jIs R j) (.leaf (o.make (qkL R o.kinds 0))) (qB2 R l (j+1))
structure FIn where
 args:List AP
 h:List BP
def FIn.take(i:FIn)(args:List AV)(h:List Blk):Option (List PV):=qC3 (AP.takeL i.args args) (BP.takeL i.h h)
def FIn.make(i:FIn)(ps:List PV):List AV×List Blk:=let x:=AP.makeL i.args ps;(x.1,(BP.makeL i.h x.2).1)
def FIn.kinds(i:FIn):List PK:=AP.kindsL i.args++BP.kindsL i.h
def q9(i:FIn)(outs:List FOut)(T:List PV->TR):zE:=fun args h=>match i.take args h with
 | none=>.fail
 | some ps=>.br (okR (T ps)) (qB2 (T ps) outs 0) .fail
theorem qnr{R:TR}{j:Nat}{ps:List PV}(hR:R.run=some (j,ps)):∀(outs:List FOut) (k:Nat) (o:FOut) (r:AV×List Blk),k<=j->outs[j-k]?=some o->ps.map PV.kind=o.kinds ->
  (qB2 R outs k).run=some r->r=o.make ps
 | [],k,o,r,_,h,_,_=>by simp at h
 | o'::l,k,o,r,hk,h,hp,hr=>by
  have hj:jR R=j:=by simp[jR,hR]
  simp only[qB2] at hr;cases l with
  | nil=>
   have:j-k=0:=by
    rcases qKj (j-k) with h0|h0
    ·exact h0
    ·rw[qJC (by simp;omega)] at h;cases h
   rw[this] at h;simp only[qKA,qJc] at h;subst h;simp only[Tree.run,qJc] at hr;rw[<-hr,qk9 hR _ 0 (by simpa using hp)];rfl
  | cons o2 l=>
   simp only[Tree.run] at hr;by_cases hjk:j=k
   ·have hb:jIs R k=true:=by simp[jIs,hj,hjk]
    rw[hb] at hr;simp only[qJc] at hr;subst hjk;simp only[qK3,qKA,qJc] at h;subst h;rw[<-hr,qk9 hR _ 0 (by simpa using hp)];rfl
   ·have hb:jIs R k=false:=by
     simp only[jIs,hj];cases hq:Nat.beq j k with
     | false=>rfl
     | true=>exact absurd (qKd hq) hjk
    rw[hb] at hr;simp only at hr;refine qnr hR (o2::l) (k+1) o r (by omega) ?_ hp hr;rw[show j-k=(j-(k+1))+1 by omega,qKe] at h;exact h
theorem qwU:∀(outs:List FOut) (k:Nat) (r:AV×List Blk) (j:Nat) (ps:List PV),(qGr outs k r).run=some (j,ps)->k<=j/\∃o,outs[j-k]?=some o/\o.take r=some ps
 | [],k,r,j,ps,h=>by simp only[qGr] at h;cases h
 | o::l,k,r,j,ps,h=>by
  simp only[qGr] at h;split at h
  ·rename_i ps' ht;simp only[Tree.run,qJc,qJO] at h;obtain⟨rfl,rfl⟩:=h;exact⟨qJe _,o,by simp,ht⟩
  ·obtain⟨h1,o',h2,h4⟩:=qwU l (k+1) r j ps h;refine⟨by omega,o',?_,h4⟩;rw[show j-k=(j-(k+1))+1 by omega,qKe];exact h2
theorem qjS {i:FIn}{outs:List FOut}{T:List PV->TR}{args:List AV}{h:List Blk}{r:AV×List Blk}(hr:(q9 i outs T args h).run=some r) :∃ps j qs,i.take args h=some ps/\(T ps).run=some (j,qs)/\(qB2 (T ps) outs 0).run=some r:=by
 unfold q9 at hr;cases ht:i.take args h with
 | none=>rw[ht] at hr;cases hr
 | some ps=>
  rw[ht] at hr;simp only[Tree.run] at hr;cases hq:(T ps).run with
  | none=>simp[okR,hq] at hr
  | some q=>
   obtain⟨j,qs⟩:=q;simp only[okR,hq,qLt] at hr;exact⟨ps,j,qs,rfl,hq,hr⟩
theorem qq2 (hs:HSim B X)(fz:Bool){r:AV×List Blk}(hr:Rep X r.1 v)(hh:X.h=r.2) :∃X',X'.w=X.w/\X'.h=(qdg fz r).2/\HSim B X'/\Rep X' (qdg fz r).1 v/\X'.y=X.y:=by
 cases fz with
 | false=>exact⟨X,rfl,hh,hs,hr,rfl⟩
 | true=>
  obtain⟨X1,f⟩:=q5p (List.range r.2.length) hs;have hf:X1.h=qO r.2 (List.range r.2.length):=by rw[f.h,hh]
  obtain⟨d1,d2⟩:=qap f.hs (h':=X1.h.map (qw8 X1.h)) (by simp) (fun b k' hb=>by
   rw[qJo] at hb;cases hk:X1.h[b]? with
   | none=>rw[hk] at hb;cases hb
   | some k0=>
    rw[hk] at hb;simp only[qJR,qJc] at hb;refine⟨k0,rfl,?_⟩;cases k0 with
    | cells cs=>exact .inr (.inr (.inl ⟨cs,_,rfl,hb.symm,fun vs hv=>qdw f.hs hv⟩))
    | _=>exact .inr (.inl hb.symm)) (fun b hb k' hk'=>by
   obtain⟨cs,hc,hc2⟩:=f.hs.impc b hb;rw[qJo,hc] at hk';simp only[qJR,qJc] at hk';subst hk';cases cs<;>first|(cases hc2;done)|rfl)
  refine⟨{ X1 with h:=X1.h.map (qw8 X1.h) },f.w,?_,d1,?_,f.ext.y⟩
  ·simp only[qdg,hf]
  ·have:=(qxM f.hs (hr.ext f.ext)).ext d2;simp only[qdg];rw[<-hf];exact this
theorem qAm (hs:HSim B X)(p:Option (Nat×TypeId×List Sh)){r:AV×List Blk}(hr:Rep X r.1 v)(hh:X.h=r.2) :∃X',X'.w=X.w/\X'.h=(qIc p r).2/\HSim B X'/\Rep X' (qIc p r).1 v/\X'.y=X.y:=by
 cases p with
 | none=>exact⟨X,rfl,hh,hs,hr,rfl⟩
 | some p=>
  obtain⟨i,e,sh⟩:=p;obtain⟨a,h⟩:=r;simp only at hr hh;subst hh;simp only[qIc];cases hn:qG2 i a with
  | false=>exact⟨X,rfl,rfl,hs,hr,rfl⟩
  | true=>
   simp only;have hw:=PushW.same X;have hk:jw (X.pushW (.vec e sh []) none X.w) X.h.length (.vec e sh []):=.inl ⟨by simp[Ctx.pushW],rfl⟩;have hs1:=HSim.push hs hw hk;have hx:=Ctx.push_ext hs (.vec e sh []) hw;have hrep:Rep (X.pushW (.vec e sh []) none X.w) (.vec X.h.length) (.slice none 0 0):=by refine .vec _ _ _ _ (by simp[Ctx.pushW]) fun sh' m hv=>?_;unfold qtd;simp[Ctx.pushW]
   refine⟨X.pushW (.vec e sh []) none X.w,rfl,by simp[Ctx.pushW],hs1,?_,rfl⟩;cases a with
   | nils=>
    cases hr;exact hrep
   | tuple vs=>
    cases hr with
    | tuple _ us hu=>
     simp only[qG2] at hn;cases hg:vs[i]? with
     | none=>rw[hg] at hn;cases hn
     | some x=>
      rw[hg] at hn;cases x<;>first|(cases hn;done)|skip
      obtain⟨u,g1,g2⟩:=hu.get i _ hg;have hue:u=.slice none 0 0:=by cases g2;rfl
      subst hue;have hset:=RepL.set hrep (hu.ext hx) i;have he:us.set i (.slice none 0 0)=us:=by
       apply qK9;intro j;by_cases hj:j=i
       ·subst hj;rw[qJv (qu g1),g1]
       ·rw[qJf (qJI hj)]
      rw[he] at hset;exact .tuple _ _ hset
   | _=>cases i<;>cases hn
theorem FOut.weaken1 {o:FOut}{r:AV×List Blk}{ps:List PV}(hk:qcg B.imps.length o.h=true)(h:o.take1 r=some ps)(hs:HSim B X)(hr:Rep X r.1 v)(hh:X.h=r.2) :ps.map PV.kind=o.kinds/\∃X',X'.w=X.w/\X'.h=(o.make ps).2/\HSim B X'/\Rep X' (o.make ps).1 v/\X'.y=X.y:=by
 unfold FOut.take1 at h;obtain⟨x,y,h1,h2,rfl⟩:=q0l h;obtain⟨hc1,hc2⟩:=qov hk;obtain⟨c1,c2⟩:=qxe hs (n:=o.h.length) hc1;obtain⟨a1,a2,a3⟩:=AP.take_ok (X:=X.cut o.h.length) _ _ x y h1;obtain⟨b1,b2,b3,b4,b5⟩:=BP.takeL_ok (X:=X.cut o.h.length) _ _ y [] h2;have hch:(X.cut o.h.length).h=(r.2.take o.h.length).map (Blk.ren (keep o.h.length)):=by rw[<-hh];rfl
 rw[<-hch] at b3 b5;rw[qKl] at b3 b5;obtain⟨d1,d2⟩:=qap c1 (h':=(BP.makeL o.h y).1) b3 (fun b k' hb=>by obtain⟨k0,e1,e2,_⟩:=b5 b k' hb;exact⟨k0,e1,e2⟩)
  (fun b hb k' hk'=>by obtain⟨q,q1,q2⟩:=hc2 b hb;obtain⟨k0,_,_,e3⟩:=b5 b k' hk';exact e3 q q1 q2)
 refine⟨by simp[FOut.kinds,a2,b2],{ X.cut o.h.length with h:=(BP.makeL o.h y).1 },rfl,?_,d1,?_,rfl⟩
 ·simp only[FOut.make,a1]
 ·simp only[FOut.make];exact(a3 _ (hr.ren c2.toMove0)).ext d2
theorem FOut.weaken {o:FOut}{r:AV×List Blk}{ps:List PV}(hk:qcg B.imps.length o.h=true)(h:o.take r=some ps)(hs:HSim B X)(hr:Rep X r.1 v)(hh:X.h=r.2) :ps.map PV.kind=o.kinds/\∃X',X'.w=X.w/\X'.h=(o.make ps).2/\HSim B X'/\Rep X' (o.make ps).1 v/\X'.y=X.y:=by obtain⟨X1,h1,h2,h3,h4,h5⟩:=qAm hs o.pro hr hh;obtain⟨g1,X2,g2,g3,g4,g5,g6⟩:=FOut.weaken1 hk h h3 h4 h2;exact⟨g1,X2,g2.trans h1,g3,g4,g5,g6.trans h5⟩
theorem qAD {E:Env}(hm:P.follows .mixedOrders=true)(hE:E.tok P)(hS:E.specs P)(hL:E.loopsOK P)(hb:E.bodies P){fn:Func}(hf:P.funcs[f]?=some fn)(hn:(fn.name == "runtime.NumGoroutine")=false) (hbd:fn.body.isNone=false) {n:Nat} {fz:Bool} {i:FIn} {outs:List FOut} {T:List PV->TR}(hi:i.h.length=E.nimp/\i.h.all BP.isCells=true) (ho:(outs.all fun o=>qcg E.nimp o.h)=true)(hT:∀ps r,ps.map PV.kind=i.kinds->(T ps).run=some r->((qxp E n f fn (i.make ps).1 (i.make ps).2).bind fun q=>qGr outs 0 (qdg fz q)).run=some r) :qT P E.glob f (q9 i outs T):=by
 refine⟨ut hf hn hbd,fun B X args vargs r hs hen hgl ha h=>?_⟩;obtain⟨ps,j,qs,h1,h2,h3⟩:=qjS h;unfold FIn.take at h1;obtain⟨x,y,g1,g2,rfl⟩:=q0l h1;obtain⟨a1,a2,a3⟩:=AP.takeL_ok (X:=X) _ _ x y g1;obtain⟨b1,b2,b3,b4,b5⟩:=BP.takeL_ok (X:=X) _ _ y [] g2;rw[qKl] at b3 b5;have himp:B.imps.length=X.h.length:=by rw[hen.imps];simp
 obtain⟨d1,d2⟩:=qap hs (h':=(BP.makeL i.h y).1) b3 (fun b k' hb=>by obtain⟨k0,e1,e2,_⟩:=b5 b k' hb;exact⟨k0,e1,e2⟩)
  (fun b hb k' hk'=>by
   obtain⟨k0,_,_,e3⟩:=b5 b k' hk';have hlt:b<i.h.length:=by omega
   exact e3 i.h[b] (qJk hlt) (qJL.1 hi.2 _ (qJT hlt)))
 have hkd:(x++y).map PV.kind=i.kinds:=by simp[FIn.kinds,a2,b2]
 have hgl1:q5D E.glob ({ X with h:=(BP.makeL i.h y).1 }:Ctx):=qp4 (X:=X) (fun _ h=>h) rfl rfl hgl;obtain⟨q,k1,k2⟩:=bind_some (hT _ _ hkd h2);have hmk:i.make (x++y)=((AP.makeL i.args (x++y)).1,(BP.makeL i.h y).1):=by simp only[FIn.make,a1]
 rw[hmk] at k1;have hcalls:=qup hm hE hS hL hb hf (n:=n) d1 (by omega) hgl1 ((a3 _ ha).ext d2) k1;refine hcalls.mono fun e w' ⟨v,X',e1,e2,e3,e4,e5,e6⟩=>?_;obtain⟨X2,p1,p2,p3,p4,p5⟩:=qq2 e5 fz e3 e4;obtain⟨_,o,q1,q2⟩:=qwU _ _ _ _ _ k2;have hco:qcg B.imps.length o.h=true:=by rw[himp,<-b4,hi.1];exact qJL.1 ho o (qKt q1)
 obtain⟨m1,X3,m2,m3,m4,m5,m6⟩:=FOut.weaken hco q2 p3 p4 p2;have hre:=qnr h2 outs 0 o r (qKL _) q1 m1 h3;subst hre;exact⟨v,X3,e1,by rw[m2,p1,e2],m5,m3,m4,(m6.trans p5).trans e6⟩
def qIV(l:List (FIn×zE)):zE:=fun args h=>match l.find? fun c=>(c.1.take args h).isSome with
 | some c=>c.2 args h
 | none=>.fail
theorem qDU {l:List (FIn×zE)}(he:qbt P f)(hl:∀c,c∈l->qT P gl f c.2):qT P gl f (qIV l):=by
 refine⟨he,fun B X args vargs r hs hen hg ha h=>?_⟩;unfold qIV at h;cases hc:l.find? fun c=>(c.1.take args X.h).isSome with
 | none=>rw[hc] at h;cases h
 | some c=>
  rw[hc] at h;exact(hl c (qK7 hc)).2 B X args vargs r hs hen hg ha h
theorem qEY:∀c,c∈([]:List (FIn×zE))->qT P gl f c.2:=fun _ h=>by cases h
theorem qx4 {i:FIn}{G:zE}{l:List (FIn×zE)}(h:qT P gl f G)(t:∀c,c∈l->qT P gl f c.2):∀c,c∈(i,G)::l->qT P gl f c.2:=fun c hc=>by
 rcases qJi.1 hc with rfl|hc
 ·exact h
 ·exact t c hc
end Go.Eng

