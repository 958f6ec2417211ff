/- Texts of the proof, merged: what the code computes, and plain laws. No statement stands here. -/
import Derived.Orders
import Derived.RangeFuncRecord
import Derived.Test.YtgphdcbbofjndaaGreatDoorM1
namespace Go.Eng
variable {B:Base}{X:Ctx}
structure Entry (B:Base) (X:Ctx):Prop where
 w0:B.w0=X.w
 imps:B.imps=(List.range X.h.length).map X.σ
 M0:∀n,X.M n->B.M0 n
def qc7(P:Program)(f:FuncId):Prop:=∀(args:Array Value) (w:World),(callFunc f args).run P w=.ok (.enter f args) w
def qV(P:Program)(gl:List (Nat×AV))(f:FuncId)(G:wk):Prop:=
 qc7 P f/\∀(B:Base) (X:Ctx) (args:List AV) (vargs:List Value) (r:AV×List Blk),HSim B X->Entry B X->q5o gl X->RepL X args vargs->(G args X.h).run=some r ->
  Calls P f vargs.toArray X.w fun e w'=>∃v X',e=.returned v/\X'.w=w'/\Rep X' r.1 v/\X'.h=r.2/\HSim B X'/\X'.y=X.y
mutual
theorem qp6{B:Base}{X:Ctx}(hs:HSim B X):∀{av:AV} {v:Value},Rep X av v->Rep X (av.lend X.h) v
 | .vec b,v,h=>by
  unfold AV.lend;split
  ·rename_i e sh l hb;exact .imm _ _ _ (qbg hs hb h)
  ·exact .undef v
 | .agg cs,_,.agg _ vs h=>.agg _ vs (q80 hs h)
 | .tuple cs,_,.tuple _ vs h=>.tuple _ vs (q80 hs h)
 | .undef,_,h|.skip,_,h|.yld,_,h|.blit _,_,h|.bool _,_,h|.ilit _ _,_,h|.int _ _,_,h|.str _,_,h|.nilp,_,h|.ptr _ _,_,h|.eptr _ _ _ _,_,h|.mptr _ _ _ _ _,_,h|.vptr _ _ _,_,h|.vsub _ _,_,h|.aptr _ _ _,_,h|.asub _ _ _ _ _,_,h|.bagg _ _ _ _,_,h
 | .nils,_,h|.imm _ _,_,h|.full _ _,_,h|.nilf,_,h|.fn _ _ _,_,h=>h
theorem q80{B:Base}{X:Ctx}(hs:HSim B X):∀{azz:List AV} {vs:List Value},RepL X azz vs->RepL X (AV.lendL X.h azz) vs
 | _,_,.nil=>.nil
 | _,_,.cons h t=>.cons (qp6 hs h) (q80 hs t)
end
def Wk(X:Ctx)(k k':Blk):Prop:=k'=.dead\/k'=k\/(∃cs cs',k=.cells cs/\k'=.cells cs'/\∀vs,RepL X cs vs->RepL X cs' vs)\/∃cs cs' kk n l,k=.big cs kk n l/\k'=.big cs' kk n l/\∀vs,RepL X cs vs->RepL X cs' vs
theorem q63 (hs:HSim B X){h':List Blk}(hl:h'.length=X.h.length)(hw:∀(b:Nat) (k':Blk),h'[b]?=some k'->∃k0,X.h[b]?=some k0/\Wk X k0 k')(hc:∀b:Nat,b<B.imps.length->∀k':Blk,h'[b]?=some k'->k'.solid=true):HSim B { X with h:=h' }/\Ext X { X with h:=h' }:=by
 have hvec:∀b sh m,({ X with h:=h' }:Ctx).isVec b sh m->X.isVec b sh m:=by
  intro b sh m ⟨e,l,h1,h2⟩;refine⟨e,l,?_,h2⟩;rcases h1 with h1|h1
  ·obtain⟨k0,h3,h4⟩:=hw b _ h1;rcases h4 with h4|h4|⟨_,_,_,h4,_⟩|⟨_,_,_,_,_,_,h4,_⟩
   ·cases h4
   ·exact .inl (h4▸h3)
   ·cases h4
   ·cases h4
  ·obtain⟨k0,h3,h4⟩:=hw b _ h1;rcases h4 with h4|h4|⟨_,_,_,h4,_⟩|⟨_,_,_,_,_,_,h4,_⟩
   ·cases h4
   ·exact .inr (h4▸h3)
   ·cases h4
   ·cases h4
 have hx:Ext X { X with h:=h' }:=by refine Move.of (fun _ h=>h) (fun _ _=>rfl) (fun b b' hb hf=>?_);cases hf;exact⟨by show b<h'.length;omega,rfl,hvec b,fun sh m _ k hk c T fr hc=>⟨c,T,fr,hc,rfl⟩⟩
 have hown:∀b m,({ X with h:=h' }:Ctx).own b m->X.own b m:=by
  intro b m ⟨h1,k,h2,h3⟩;obtain⟨k0,h4,h5⟩:=hw b k h2;refine⟨h1,k0,h4,?_⟩;rcases h5 with h5|h5|⟨_,_,h5,_,_⟩|⟨_,_,_,_,_,h5,_,_⟩
  ·subst h5;cases h3
  ·exact h5▸h3
  ·subst h5;rfl
  ·subst h5;rfl
 refine⟨⟨?_,fun b b' m h h'=>hs.inj b b' m (hown _ _ h) (hown _ _ h'),fun b m h=>hs.notM b m (hown _ _ h),hs.ltM,hs.M0,hs.newM,hs.os,hs.tape,hs.output,hs.size,hs.frame,hs.imps,?_,fun b m h=>hs.fresh b m (hown _ _ h),hs.kept⟩,hx⟩
 ·intro b k hk;obtain⟨k0,h1,h2⟩:=hw b k hk;have h3:=hs.blk b k0 h1;rcases h2 with h2|h2|⟨cs,cs',h2,h4,h5⟩|⟨cs,cs',kk,N,l,h2,h4,h5⟩
  ·subst h2;trivial
  ·subst h2;exact vD.ext hx rfl (fun _ _=>rfl) h3
  ·subst h2 h4;obtain⟨m,c,T,e1,e2,e3⟩:=h3;exact⟨m,c,T,e1,e2,(h5 _ e3).ext hx⟩
  ·subst h2 h4;obtain⟨m,c,T,vs,e1,e2,e3,e4,e5⟩:=h3;exact⟨m,c,T,vs,e1,e2,(h5 _ e3).ext hx,e4,e5⟩
 ·intro b hb;have hlt:b<h'.length:=by have:=hs.hlen;omega
  exact⟨_,qxO hlt,hc b hb _ (qxO hlt)⟩
theorem Frozen.trans {X Y Z:Ctx}{h h':List Blk}(f:Frozen B X Y h)(g:Frozen B Y Z h'):Frozen B X Z h':=⟨g.h,g.w.trans f.w,g.σ.trans f.σ,g.hs,Move.trans f.ext g.ext⟩
theorem qcG{B:Base}:∀(l:List Nat) {X:Ctx} (_:HSim B X),∃X',Frozen B X X' (q6w X.h l)
 | [],X,hs=>⟨X,rfl,rfl,rfl,hs,Ext.refl X⟩
 | b::l,X,hs=>by
  simp only[q6w];split
  ·rename_i cs hb;obtain⟨d1,d2⟩:=q63 hs (h':=X.h.set b (.cells (AV.lendL X.h cs))) (by simp) (fun b' k' hk=>by
    by_cases hbb:b'=b
    ·subst hbb;rw[qxN (qj hb)] at hk;exact⟨.cells cs,hb,.inr (.inr (.inl ⟨cs,_,rfl,(qy6 hk).symm,fun vs hv=>q80 hs hv⟩))⟩
    ·rw[qxD (qxS hbb)] at hk;exact⟨k',hk,.inr (.inl rfl)⟩) (fun b' hb' k' hk=>by
    by_cases hbb:b'=b
    ·subst hbb;rw[qxN (qj hb)] at hk;rw[<-qy6 hk];rfl
    ·rw[qxD (qxS hbb)] at hk;obtain⟨cs',h1,h2⟩:=hs.impc b' hb';rw[h1] at hk;rw[<-qy6 hk];exact h2)
   obtain⟨X2,f⟩:=qcG l d1;have f0:Frozen B X { X with h:=X.h.set b (.cells (AV.lendL X.h cs)) } (X.h.set b (.cells (AV.lendL X.h cs))):=⟨rfl,rfl,rfl,d1,d2⟩;exact⟨X2,f0.trans f⟩
  ·exact qcG l hs
theorem qkU (args:List AV)(hs:HSim B X):∃X',Frozen B X X' (wj X.h args):=by unfold wj;obtain⟨X1,f1⟩:=q1P (args.flatMap zv) hs;simp only;rw[<-f1.h];obtain⟨X2,f2⟩:=q1P (q3K X1.h (AV.menL (AV.lendL X1.h args))) f1.hs;rw[<-f2.h];obtain⟨X3,f3⟩:=qcG (AV.menL (AV.lendL X1.h args)) f2.hs;exact⟨X3,(f1.trans f2).trans f3⟩
mutual
theorem AV.ren_of_men(f:Nat->Option Nat):∀av:AV,av.men=[]->av.ren f=av
 | .undef,_|.skip,_|.yld,_|.blit _,_|.bool _,_|.ilit _ _,_|.int _ _,_|.str _,_|.nilp,_|.eptr _ _ _ _,_|.mptr _ _ _ _ _,_|.nils,_|.imm _ _,_|.full _ _,_|.nilf,_=>rfl
 | .ptr _ _,h=>by simp[AV.men] at h
 | .vptr _ _ _,h=>by simp[AV.men] at h
 | .vsub _ _,h=>by simp[AV.men] at h
 | .aptr _ _ _,h=>by simp[AV.men] at h
 | .asub _ _ _ _ _,h=>by simp[AV.men] at h
 | .bagg cs k n l,h=>by simp only[AV.men] at h;simp only[AV.ren,AV.renL_of_men f cs h]
 | .vec _,h=>by simp[AV.men] at h
 | .fn g a b,h=>by
  simp only[AV.men,List.append_eq_nil_iff] at h;simp only[AV.ren,AV.renL_of_men f a h.1,AV.renL_of_men f b h.2]
 | .agg cs,h=>by simp only[AV.men] at h;simp only[AV.ren,AV.renL_of_men f cs h]
 | .tuple cs,h=>by simp only[AV.men] at h;simp only[AV.ren,AV.renL_of_men f cs h]
theorem AV.renL_of_men(f:Nat->Option Nat):∀l:List AV,AV.menL l=[]->AV.renL f l=l
 | [],_=>rfl
 | a::l,h=>by
  simp only[AV.menL,List.append_eq_nil_iff] at h;simp only[AV.renL,AV.ren_of_men f a h.1,AV.renL_of_men f l h.2]
end
theorem RepL.noMen {X X':Ctx}{azz:List AV}{vs:List Value}(h:RepL X azz vs)(hm:AV.menL azz=[])(hM:∀n,X.M n->X'.M n)(hw:∀a:Addr,X.M a.block->X'.w.cell? a=X.w.cell? a)(hy:X'.y=X.y:=by rfl):RepL X' azz vs:=by
 have:=h.ren (X':=X') (f:=fun _=>none) ⟨hM,hw,(fun _ _ _ h=>by cases h),hy⟩
 rwa [AV.renL_of_men _ _ hm] at this
theorem Rep.noMen {X X':Ctx}{a:AV}{v:Value}(h:Rep X a v)(hm:a.men=[])(hM:∀n,X.M n->X'.M n)(hw:∀a:Addr,X.M a.block->X'.w.cell? a=X.w.cell? a)(hy:X'.y=X.y:=by rfl):Rep X' a v:=by
 have:=h.ren (X':=X') (f:=fun _=>none) ⟨hM,hw,(fun _ _ _ h=>by cases h),hy⟩
 rwa [AV.ren_of_men _ _ hm] at this
theorem qcX:∀l:List Nat,(qd3 l).Nodup
 | []=>List.nodup_nil
 | a::l=>by
  simp only[qd3];split
  ·exact qcX l
  ·rename_i h;exact List.nodup_cons.2 ⟨by simpa using h,qcX l⟩
theorem qpF {l:List Nat}{b k:Nat}(h:qrx l b=some k):l[k]?=some b:=by
 simp only[qrx] at h;split at h
 ·rename_i hlt;cases h;rw[qxO hlt];have:=List.findIdx_getElem (p:=(·==b)) (w:=hlt);simpa using this
 ·cases h
theorem qdV:∀{fp:List Nat} {h:List Blk} {hin:List Blk},q2x h fp=some hin->hin.length=fp.length /\
  ∀(k:Nat) (b:Nat),fp[k]?=some b->∃cs,h[b]?=some cs/\hin[k]?=some cs/\cs.plain=true
 | [],h,hin,e=>by simp[q2x] at e;subst e;exact⟨rfl,fun k b hk=>by simp at hk⟩
 | b::l,h,hin,e=>by
  simp only[q2x] at e;split at e
  ·rename_i cs r h1 h2;split at e
   ·rename_i hm;cases e;obtain⟨g1,g2⟩:=qdV h2;refine⟨by simp[g1],fun k b' hk=>?_⟩;cases k with
    | zero=>simp at hk;subst hk;exact⟨cs,h1,by simp,hm⟩
    | succ k=>
     obtain⟨cs',q1,q2,q3⟩:=g2 k b' (by simpa using hk);exact⟨cs',q1,by simpa using q2,q3⟩
   ·cases e
  ·cases e
theorem qfs:∀{fp:List Nat} {h hout h2:List Blk},uz h fp hout=some h2->fp.Nodup->(∀b∈fp,b<h.length)->h2.length=h.length/\fp.length<=hout.length /\
  (∀b,b∉fp->h2[b]?=h[b]?)/\∀(k:Nat) (b:Nat),fp[k]?=some b->∃cs,hout[k]?=some cs/\h2[b]?=some cs/\cs.plain=true
 | [],h,hout,h2,e,_,_=>by
  simp[uz] at e;subst e;exact⟨rfl,by simp,fun _ _=>rfl,fun k b hk=>by simp at hk⟩
 | b::l,h,hout,h2,e,hn,hl=>by
  cases hout with
  | nil=>simp[uz] at e
  | cons cs r=>
    simp only[uz] at e;by_cases hm:cs.plain=true
    ·rw[if_pos hm] at e;cases hp:uz h l r with
     | none=>rw[hp] at e;cases e
     | some h'=>
      rw[hp] at e;simp only[qy0,qxB] at e;subst e;obtain⟨hn1,hn2⟩:=List.nodup_cons.1 hn;obtain⟨g1,g2,g3,g4⟩:=qfs hp hn2 (fun x hx=>hl x (qxQ _ hx));have hb:=hl b qxM;refine⟨by simp[g1],by simp;omega,fun x hx=>?_,fun k b' hk=>?_⟩
      ·have:x≠b:=fun e=>hx (e▸qxM);rw[qxD (qxS this)];exact g3 x fun h=>hx (qxQ _ h)
      ·cases k with
       | zero=>simp at hk;subst hk;exact⟨cs,by simp,by rw[qxN (by omega)],hm⟩
       | succ k=>
        have hk':l[k]?=some b':=by simpa using hk
        obtain⟨cs',q1,q2,q3⟩:=g4 k b' hk';have:b'≠b:=fun e=>hn1 (e▸qyC hk');exact⟨cs',by simpa using q1,by rw[qxD (qxS this)];exact q2,q3⟩
    ·rw[if_neg hm] at e;cases e
theorem qpj {b:Nat}{k:Blk}(hp:k.plain=true)(h:vD X b k):∃n,X.σ b=some n:=by
 cases k with
 | cells cs=>obtain⟨n,_,_,e,_⟩:=h;exact⟨n,e⟩
 | big cs k N l=>obtain⟨n,_,_,_,e,_⟩:=h;exact⟨n,e⟩
 | _=>cases hp
theorem qja {X X':Ctx}{b b':Nat}{k:Blk}(hp:k.plain=true)(h:vD X b k)(hσ:X'.σ b'=X.σ b)(hw:∀n,X.σ b=some n->X'.w.heap[n]?=X.w.heap[n]?)(hM:∀n,X.M n->X'.M n) (hc:∀a:Addr,X.M a.block->X'.w.cell? a=X.w.cell? a) (hy:X'.y=X.y):vD X' b' k:=by
 cases k with
 | cells cs=>
  obtain⟨n,c,T,e1,e2,e3⟩:=h;exact⟨n,c,T,by rw[hσ];exact e1,by rw[hw n e1];exact e2,e3.noMen (by simpa[Blk.plain] using hp) hM hc hy⟩
 | big cs k N l=>
  obtain⟨n,c,T,vs,e1,e2,e3,e4,e5⟩:=h;exact⟨n,c,T,vs,by rw[hσ];exact e1,by rw[hw n e1];exact e2,e3.noMen (by simpa[Blk.plain] using hp) hM hc hy,e4,e5⟩
 | _=>cases hp
theorem qd4 {k:Blk}(hp:k.plain=true):k.solid=true/\k.mut=true/\(∀e sh l,k≠.vec e sh l/\k≠.frz e sh l):=by cases k<;>first|(cases hp;done)|exact⟨rfl,rfl,fun _ _ _=>⟨(nomatch ·),(nomatch ·)⟩⟩
theorem q3I {E:Env}{P:Program}{f:FuncId}{G:wk}(hG:qV P E.glob f G){args:List AV}{st:St}{r:AV×St}{a:Act}{vargs:List Value}(hsim:Sim E B X st a) (hargs:RepL X args vargs) (h:(uC G args st).run=some r) :Calls P f vargs.toArray X.w fun e w'=>∃v X',e=.returned v/\X'.w=w'/\Rep X' r.1 v/\Sim E B X' r.2 a:=by
 unfold uC at h;obtain⟨X1,fz⟩:=qkU args hsim.hs;rw[<-hsim.h] at h;rw[<-fz.h] at h;simp only at h;have hs1:=fz.hs;generalize hfp:qd3 (AV.menL (AV.lendL X1.h args))=fp at h;have hnd:fp.Nodup:=hfp▸qcX _;cases htk:q2x X1.h fp with
 | none=>rw[htk] at h;cases h
 | some hin=>
  rw[htk] at h;obtain⟨r0,h1,h2⟩:=bind_some h;cases hput:uz X1.h fp r0.2 with
  | none=>rw[hput] at h2;cases h2
  | some hh2=>
   rw[hput] at h2;cases h2;obtain⟨k1,k2⟩:=qdV htk;have hfpl:∀b∈fp,b<X1.h.length:=by intro b hb;obtain⟨k,hk⟩:=qzk hb;obtain⟨cs,q1,_⟩:=k2 k b hk;exact qj q1
   obtain⟨p1,p2,p3,p4⟩:=qfs hput hnd hfpl;have hcell:∀(k b:Nat),fp[k]?=some b->∃cs n,X1.h[b]?=some cs/\hin[k]?=some cs/\cs.plain=true/\X1.σ b=some n/\X1.own b n:=by intro k b hk;obtain⟨cs,q1,q2,q3⟩:=k2 k b hk;obtain⟨n,e1⟩:=qpj q3 (hs1.blk b _ q1);exact⟨cs,n,q1,q2,q3,e1,e1,_,q1,(qd4 q3).2.1⟩
   let X0:Ctx:={ σ:=fun k=>(fp[k]?).bind X1.σ,h:=hin,w:=X1.w,M:=X1.M,y:=X1.y }
   let B0:Base:={ w0:=X1.w,imps:=(List.range hin.length).map X0.σ,M0:=X1.M,fs:=[] }
   have hget0:∀(k:Nat) (blk:Blk),X0.h[k]?=some blk->∃(b:Nat) (cs:Blk) (n:Nat),fp[k]?=some b/\blk=cs/\X1.h[b]?=some cs/\cs.plain=true/\X1.σ b=some n/\X1.own b n:=by
    intro k blk hk;have hlt:k<fp.length:=by rw[<-k1];exact qj hk
    have hfk:fp[k]?=some fp[k]:=qxO hlt;obtain⟨cs,n,q1,q2,q3,q4,q5⟩:=hcell k _ hfk;have:blk=cs:=by have hk':hin[k]?=some blk:=hk;rw[q2] at hk';exact(qy6 hk').symm
    exact⟨fp[k],cs,n,hfk,this,q1,q3,q4,q5⟩
   have hσ0:∀(k b:Nat),fp[k]?=some b->X0.σ k=X1.σ b:=by intro k b hk;show (fp[k]?).bind X1.σ=_;rw[hk];rfl
   have hown0:∀(k n:Nat),X0.own k n->∃b:Nat,fp[k]?=some b/\X1.own b n:=by intro k n ⟨e1,blk,e2,e3⟩;obtain⟨b,cs,n',q1,q2,q3,q4,q5,q6⟩:=hget0 k blk e2;rw[hσ0 k b q1,q5] at e1;cases e1;exact⟨b,q1,q6⟩
   have hs0:HSim B0 X0:=by
    constructor
    ·intro k blk hk;obtain⟨b,cs,n,q1,q2,q3,q4,q5,q6⟩:=hget0 k blk hk;subst q2;exact qja q4 (hs1.blk b _ q3) (hσ0 k b q1) (fun _ _=>rfl) (fun _ h=>h) (fun _ _=>rfl) rfl
    ·intro k k' n hk hk';obtain⟨b,q1,q2⟩:=hown0 k n hk;obtain⟨b',q3,q4⟩:=hown0 k' n hk';have:=hs1.inj b b' n q2 q4;subst this;have hlt:=qj q1;exact(List.getElem?_inj hlt hnd).1 (q1.trans q3.symm)
    ·intro k n hk;obtain⟨b,_,q2⟩:=hown0 k n hk;exact hs1.notM b n q2
    ·exact hs1.ltM
    ·exact fun n hn=>hn
    ·exact fun n hn=>.inl hn
    ·rfl
    ·rfl
    ·rfl
    ·exact qxC _
    ·intro _ _ _;rfl
    ·intro k hk;have hk':k<hin.length:=by simpa[B0] using hk
     simp[B0,hk']
    ·intro k hk;have hk':k<hin.length:=by simpa[B0] using hk
     obtain⟨b,cs,n,q1,q2,q3,q4,q5,q6⟩:=hget0 k _ (qxO hk');exact⟨cs,by rw[<-q2];exact qxO hk',(qd4 q4).1⟩
    ·intro k n hk hk2;obtain⟨b,q1,_⟩:=hown0 k n hk;have:k<hin.length:=by rw[k1];exact qj q1
     simp[B0] at hk2;omega
    ·intro p hp;cases hp
   have hent:Entry B0 X0:=⟨rfl,rfl,fun _ h=>h⟩;have hgl:q5o E.glob X0:=by intro x hx;obtain⟨⟨sh,l,i,off,he⟩,hr⟩:=hsim.glob x hx;refine⟨⟨sh,l,i,off,he⟩,hr.move fz.ext.M fz.ext.w ?_⟩;have h3:=hr.1.ext fz.ext;rw[he] at h3 ⊢;exact h3.noMen rfl (fun _ h=>h) (fun _ _=>rfl)
   have hmove:Move0 X1 X0 (qrx fp):=by
    refine⟨fun _ h=>h,fun _ _=>rfl,fun b k hb hk=>?_,rfl⟩;have hfk:=qpF hk;have hnv:∀sh m,¬X0.isVec k sh m:=by intro sh m ⟨e,l,q1,_⟩;rcases q1 with q1|q1<;>obtain⟨_,_,_,_,q2,_,q4,_⟩:=hget0 k _ q1<;>subst q2<;>cases q4
    exact⟨by show k<hin.length;rw[k1];exact qj hfk,hσ0 k b hfk,fun sh m hv=>absurd hv (hnv sh m),fun sh m hv=>absurd hv (hnv sh m)⟩
   have hrep0:RepL X0 (AV.renL (qrx fp) (AV.lendL X1.h args)) vargs:=(q80 hs1 (hargs.ext fz.ext)).ren hmove;have hcalls:=hG.2 B0 X0 _ vargs r0 hs0 hent hgl hrep0 h1;have hw1:X0.w=X.w:=fz.w;rw[hw1] at hcalls;refine hcalls.mono fun e w' ⟨v,X0',e1,e2,e3,e4,e5,e6⟩=>?_;have hB0:B0.imps.length=fp.length:=by simp[B0,k1]
   have hσ0':∀(k b:Nat),fp[k]?=some b->X0'.σ k=X1.σ b:=by
    intro k b hk;have hlt:=qj hk;have:=e5.imps k (by rw[hB0];exact hlt);rw[this,<-hσ0 k b hk];have hk':k<hin.length:=by omega
    simp[B0,hk']
   let X':Ctx:={ σ:=fun b=>if b<X1.h.length then X1.σ b else X0'.σ (fp.length+(b-X1.h.length)),h:=hh2++(r0.2.drop fp.length).map (Blk.ren (qfT fp X1.h.length)),w:=X0'.w,M:=X0'.M,kept:=X1.kept,y:=X1.y }
   have hM01:∀n,X1.M n->X0'.M n:=fun n hn=>e5.M0 n hn;have himp:∀n,some n∈B0.imps->∃(k b:Nat),fp[k]?=some b/\X1.own b n:=by
    intro n hn;obtain⟨k,hk,hk2⟩:=qyy.1 hn;have hk':k<fp.length:=by rw[<-k1];simpa using hk
    have hfk:fp[k]?=some fp[k]:=qxO hk';obtain⟨cs,n',q1,q2,q3,q4,q5⟩:=hcell k _ hfk;rw[hσ0 k _ hfk,q4] at hk2;cases hk2;exact⟨k,_,hfk,q5⟩
   have hkeep:∀n,n<X1.w.heap.size->(∀(k b:Nat),fp[k]?=some b->¬X1.own b n)->X0'.w.heap[n]?=X1.w.heap[n]?:=by intro n hn hno;refine e5.frame n hn fun hm=>?_;obtain⟨k,b,q1,q2⟩:=himp n hm;exact hno k b q1 q2
   have hh2l:hh2.length=X1.h.length:=p1;have hget':∀(b:Nat) (blk:Blk),X'.h[b]?=some blk ->
     (b<X1.h.length/\b∉fp/\X1.h[b]?=some blk)\/(b<X1.h.length/\∃(k:Nat) (cs:Blk),fp[k]?=some b/\blk=cs/\X0'.h[k]?=some cs/\cs.plain=true) \/
     (X1.h.length<=b/\∃k0,X0'.h[fp.length+(b-X1.h.length)]?=some k0/\blk=k0.ren (qfT fp X1.h.length)):=by
    intro b blk hb;have hb':(hh2++(r0.2.drop fp.length).map (Blk.ren (qfT fp X1.h.length)))[b]?=some blk:=hb;rcases qxG b X1.h.length with hlt|hge
    ·rw[qxK (by omega)] at hb';by_cases hbf:b∈fp
     ·obtain⟨k,hk⟩:=qzk hbf;obtain⟨cs,q1,q2,q3⟩:=p4 k b hk;rw[q2] at hb';cases hb';exact .inr (.inl ⟨hlt,k,blk,hk,rfl,by rw[e4];exact q1,q3⟩)
     ·rw[p3 b hbf] at hb';exact .inl ⟨hlt,hbf,hb'⟩
    ·rw[qxU (by omega),qxZ,qyl] at hb';refine .inr (.inr ⟨hge,?_⟩);rw[hh2l] at hb';cases hq:r0.2[fp.length+(b-X1.h.length)]? with
     | none=>rw[hq] at hb';cases hb'
     | some k0=>
      rw[hq] at hb';simp only[qy0,qxB] at hb';exact⟨k0,by rw[e4];exact hq,hb'.symm⟩
   have hσlt:∀b,b<X1.h.length->X'.σ b=X1.σ b:=fun b hb=>by show (if b<X1.h.length then _ else _)=_;rw[if_pos hb]
   have hσge:∀b,X1.h.length<=b->X'.σ b=X0'.σ (fp.length+(b-X1.h.length)):=fun b hb=>by show (if b<X1.h.length then _ else _)=_;rw[if_neg (by omega)]
   have hnotin:∀b n,b∉fp->X1.own b n->∀(k b':Nat),fp[k]?=some b'->¬X1.own b' n:=by intro b n hb ho k b' hk ho';exact hb (hs1.inj b b' n ho ho'▸qyC hk)
   have hMnot:∀n,X1.M n->∀(k b':Nat),fp[k]?=some b'->¬X1.own b' n:=fun n hn k b' _ ho=>hs1.notM b' n ho hn;have hsz:=e5.size;have hback:Move0 X0' X' (qfT fp X1.h.length):=by
    refine⟨fun _ h=>h,fun _ _=>rfl,fun k b hk hf=>?_,e6.symm⟩;simp only[qfT] at hf;by_cases hlt:k<fp.length
    ·rw[if_pos hlt] at hf;have hbl:=hfpl b (qyC hf);have hnv:∀sh m,¬X'.isVec b sh m:=by
      intro sh m ⟨e,l,q1,_⟩;rcases q1 with q1|q1<;>rcases hget' b _ q1 with⟨_,h3,_⟩|⟨_,_,_,_,h3,_,h3p⟩|⟨h3,_⟩ <;>
       first|omega|exact absurd (qyC hf) h3|(subst h3;cases h3p)
     exact⟨by show b<List.length (_++_);simp;omega,by rw[hσlt b hbl,hσ0' k b hf],fun sh m hv=>absurd hv (hnv sh m),fun sh m hv=>absurd hv (hnv sh m)⟩
    ·rw[if_neg hlt] at hf;cases hf;have hk2:k<r0.2.length:=by rw[<-e4];exact hk
     have hidx:fp.length+(X1.h.length+(k-fp.length)-X1.h.length)=k:=by omega
     refine⟨?_,?_,fun sh m ⟨e,l,q1,q2⟩=>?_,fun sh m _ n hn c T fr hc=>⟨c,T,fr,hc,rfl⟩⟩
     ·show _<List.length (_++_);simp;omega
     ·rw[hσge _ (by omega),hidx]
     ·rcases q1 with q1|q1<;>rcases hget' _ _ q1 with⟨h3,_⟩|⟨h3,_⟩|⟨_,k0,h3,h4⟩<;>first|omega|skip
      ·rw[hidx] at h3;rcases qeC (.inl h4) with rfl|rfl
       ·exact⟨e,l,.inl h3,q2⟩
       ·exact⟨e,l,.inr h3,q2⟩
      ·rw[hidx] at h3;rcases qeC (.inr h4) with rfl|rfl
       ·exact⟨e,l,.inl h3,q2⟩
       ·exact⟨e,l,.inr h3,q2⟩
   have hext:Ext X1 X':=by
    refine Move.of hM01 (fun ad had=>qyt (hkeep _ (hs1.ltM _ had) (hMnot _ had))) (fun b b' hb hf=>?_);cases hf;have hvec:∀sh m,X'.isVec b sh m->b∉fp/\X1.isVec b sh m:=by
     intro sh m ⟨e,l,q1,q2⟩;rcases q1 with q1|q1<;>rcases hget' b _ q1 with⟨_,h3,h4⟩|⟨_,_,_,_,h3,_,h3p⟩|⟨h3,_⟩<;>first|omega|(subst h3;cases h3p;done)|skip
     ·exact⟨h3,e,l,.inl h4,q2⟩
     ·exact⟨h3,e,l,.inr h4,q2⟩
    refine⟨by show _<List.length (_++_);simp;omega,hσlt b hb,fun sh m hv=>(hvec sh m hv).2,fun sh m hv n hn c T fr hc=>⟨c,T,fr,?_,rfl⟩⟩;obtain⟨h3,e,l,h4,_⟩:=hvec sh m hv;refine(hkeep n (qxI.1 hc).1 ?_).trans hc;rcases h4 with h4|h4
    ·exact hnotin b n h3 ⟨hn,_,h4,rfl⟩
    ·rcases hs1.blk b _ h4 with⟨h5,_⟩|⟨n',c',h5,_,_,h6⟩
     ·rw[hn] at h5;cases h5
     ·rw[hn] at h5;cases h5;exact hMnot n h6
   have hown':∀(b n:Nat),X'.own b n->(b<X1.h.length/\X1.own b n)\/(X1.h.length<=b/\X0'.own (fp.length+(b-X1.h.length)) n):=by
    intro b n ⟨q1,blk,q2,q3⟩;rcases hget' b blk q2 with⟨h3,_,h4⟩|⟨h3,k,cs,h4,h5,_,_⟩|⟨h3,k0,h4,h5⟩
    ·exact .inl ⟨h3,by rw[<-hσlt b h3];exact q1,blk,h4,q3⟩
    ·obtain⟨cs',n',w1,_,_,w4,w5⟩:=hcell k b h4;rw[hσlt b h3,w4] at q1;cases q1;exact .inl ⟨h3,w5⟩
    ·subst h5;exact .inr ⟨h3,by rw[<-hσge b h3];exact q1,k0,h4,by rwa [Blk.mut_ren] at q3⟩
   have hnewge:∀k n,fp.length<=k->X0'.own k n->X1.w.heap.size<=n:=fun k n hk ho=>e5.fresh k n ho (by rw[hB0];exact hk);have hs':HSim B X':=by
    constructor
    ·intro b blk hb;rcases hget' b blk hb with⟨h3,h4,h5⟩|⟨h3,k,cs,h4,h5,h6,h7⟩|⟨h3,k0,h4,h5⟩
     ·by_cases hd:blk=.dead
      ·subst hd;trivial
      ·refine vD.ext hext (hσlt b h3) (fun n hn=>hkeep n (hs1.lt h5 hd hn) ?_) (hs1.blk b blk h5);by_cases hm1:blk.mut=true
       ·exact hnotin b n h4 ⟨hn,blk,h5,hm1⟩
       ·cases blk with
        | cells=>exact absurd rfl hm1
        | big=>exact absurd rfl hm1
        | vec=>exact absurd rfl hm1
        | dead=>exact absurd rfl hd
        | frz e sh l=>
         rcases hs1.blk b _ h5 with⟨h6,_⟩|⟨n',c',h6,_,_,h7⟩
         ·rw[hn] at h6;cases h6
         ·rw[hn] at h6;cases h6;exact hMnot n h7
     ·subst h5;exact qja h7 (e5.blk k _ h6) (by rw[hσlt b h3,<-hσ0' k b h4]) (fun _ _=>rfl) (fun _ h=>h) (fun _ _=>rfl) e6.symm
     ·subst h5;exact vD.move hback (hσge b h3) (fun _ _=>rfl) (e5.blk _ k0 h4)
    ·intro b b' n h3 h4;rcases hown' b n h3 with⟨w1,w2⟩|⟨w1,w2⟩<;>rcases hown' b' n h4 with⟨w3,w4⟩|⟨w3,w4⟩
     ·exact hs1.inj b b' n w2 w4
     ·have:=hnewge _ n (by omega) w4;have:=Ctx.own.lt hs1 w2;omega
     ·have:=hnewge _ n (by omega) w2;have:=Ctx.own.lt hs1 w4;omega
     ·have:=e5.inj _ _ n w2 w4;omega
    ·intro b n h3 h4;rcases hown' b n h3 with⟨w1,w2⟩|⟨w1,w2⟩
     ·rcases e5.newM n h4 with h5|h5
      ·exact hs1.notM b n w2 h5
      ·have h6:X1.w.heap.size<=n:=h5;have:=Ctx.own.lt hs1 w2;omega
     ·exact e5.notM _ n w2 h4
    ·exact e5.ltM
    ·exact fun n hn=>hM01 n (hs1.M0 n hn)
    ·intro n hn;rcases e5.newM n hn with h5|h5
     ·exact hs1.newM n h5
     ·have h6:X1.w.heap.size<=n:=h5;have:=hs1.size;exact .inr (by omega)
    ·exact e5.os.trans hs1.os
    ·exact e5.tape.trans hs1.tape
    ·exact e5.output.trans hs1.output
    ·have h6:X1.w.heap.size<=X0'.w.heap.size:=hsz;have:=hs1.size;show B.w0.heap.size<=X0'.w.heap.size;omega
    ·intro n hn hni;have h6:=hs1.size;have:X0'.w.heap[n]?=X1.w.heap[n]?:=by
      refine hkeep n (by omega) fun k b hk ho=>?_;rcases qxG b B.imps.length with hlt|hge
      ·have h7:=hs1.imps b hlt;rw[ho.1,qxO hlt] at h7;simp at h7;exact hni (h7▸qyu hlt)
      ·have:=hs1.fresh b n ho hge;omega
     exact this.trans (hs1.frame n hn hni)
    ·intro b hb;have:=hs1.hlen;rw[hσlt b (by omega)];exact hs1.imps b hb
    ·intro b hb;have:=hs1.hlen;obtain⟨cs,h3,h3s⟩:=hs1.impc b hb;by_cases hbf:b∈fp
     ·obtain⟨k,hk⟩:=qzk hbf;obtain⟨cs',q1,q2,q3⟩:=p4 k b hk;exact⟨cs',by show (_++_)[b]?=_;rw[qxK (by omega)];exact q2,(qd4 q3).1⟩
     ·exact⟨cs,by show (_++_)[b]?=_;rw[qxK (by omega),p3 b hbf];exact h3,h3s⟩
    ·intro b n h3 h4;rcases hown' b n h3 with⟨w1,w2⟩|⟨w1,w2⟩
     ·exact hs1.fresh b n w2 h4
     ·have:=hnewge _ n (by omega) w2;have:=hs1.size;omega
    ·intro p hp;obtain⟨q1,q2,q3⟩:=hs1.kept p hp;refine⟨(hkeep p.1 (qxI.1 q1).1 fun k b _ ho=>?_).trans q1,q2,q3⟩;obtain⟨c,T,fr,hc⟩:=ho.cells hs1;rw[hc] at q1;exact q2 _ _ _ (qy6 q1).symm
   exact⟨v,X',e1,e2,e3.ren hback,(hsim.ext fz.ext hs1).ext hext hs'⟩
end Go.Eng

namespace Go.Eng
variable {E:Env}{t:TypeId}
def jG(h:List Blk):Tree Res->Prop
 | .leaf r=>r.2=(h,none)
 | .br _ t e=>jG h t/\jG h e
 | .fail=>True
theorem jG.run {h:List Blk}{t:Tree Res}{r:Res}(ht:jG h t)(hr:t.run=some r):r.2=(h,none):=by
 induction t with
 | leaf x=>cases hr;exact ht
 | br b t e iht ihe=>cases b<;>simp only[Tree.run] at hr<;>first|exact iht ht.1 hr|exact ihe ht.2 hr
 | fail=>cases hr
theorem qe7 (h:List Blk)(k:IntKind)(f:Int->Int->Int)(l:Bool)(x y:Int):jG h (q2M h k f l x y):=by unfold q2M;split<;>rfl
theorem qo0 (h:List Blk)(f:Int->Int->Bool)(l:Bool)(x y:Int):jG h (qpg h f l x y):=by unfold qpg;split<;>rfl
theorem qpQ (E:Env)(h:List Blk)(t:TypeId)(p:AV):jG h (q9h E h t p):=by
 unfold q9h;dsimp only
 repeat' (first|exact rfl|exact trivial|split)
theorem qnE (E:Env)(h:List Blk)(t:TypeId)(ps:List (Nat×AV)):jG h (qad E h t ps):=by
 unfold qad
 repeat' (first|exact rfl|exact trivial|split)
theorem qn1 (E:Env)(h:List Blk)(t:TypeId)(p:AV):jG h (q79 E h t p):=by
 unfold q79 qrG
 repeat' (first|exact qpQ _ _ _ _|exact rfl|exact trivial|exact⟨rfl,trivial⟩|split)
theorem qlW (E:Env)(h:List Blk)(t:TypeId)(ps:List (Nat×AV)):jG h (q6O E h t ps):=by
 unfold q6O
 repeat' (first|exact qnE _ _ _ _|exact rfl|exact trivial|split)
theorem qhu (E:Env)(h:List Blk)(s:TypeId)(x:AV)(f:Nat):jG h (q06 E h s x f):=by
 unfold q06
 repeat' (first|exact rfl|exact trivial|split)
theorem qeB (E:Env)(h:List Blk)(t:TypeId)(cs:List AV)(o:Nat):jG h (qaH E h t cs o):=by
 unfold qaH
 repeat' (first|exact rfl|exact trivial|split)
theorem qnR (E:Env)(h:List Blk)(s:TypeId)(x:AV)(f:Nat):jG h (qb0 E h s x f):=by
 unfold qb0
 repeat' (first|exact rfl|exact trivial|exact qeB _ _ _ _ _|split)
theorem qe3(h:List Blk)(i:Int)(f:Nat->AV):∀n,jG h (qb3 h i f n)
 | 0=>trivial
 | n+1=>⟨rfl,qe3 h i f n⟩
theorem qhp (E:Env)(h:List Blk)(t:TypeId)(x i:AV):jG h (ju E h t x i):=by
 unfold ju
 repeat' (first|exact qe3 _ _ _ _|exact rfl|exact trivial|exact⟨rfl,trivial⟩|split)
theorem qg2 (E:Env)(h:List Blk)(t:TypeId)(x i:AV):jG h (um E h t x i):=by
 unfold um
 repeat' (first|exact qhp _ _ _ _ _|exact rfl|exact trivial|exact⟨rfl,trivial⟩|split)
theorem qjl(E:Env)(h:List Blk)(e:TypeId)(cs:List AV)(es:Nat)(i:Int):∀m j,jG h (qfE E h e cs es i j m)
 | 0,_=>trivial
 | m+1,j=>⟨qeB _ _ _ _ _,qjl E h e cs es i m (j+1)⟩
theorem qnm (E:Env)(h:List Blk)(t:TypeId)(x i:AV):jG h (qaa E h t x i):=by
 unfold qaa
 repeat' (first|exact rfl|exact trivial|exact⟨rfl,trivial⟩|exact qeB _ _ _ _ _|exact qjl _ _ _ _ _ _ _ _|split)
theorem qsb (d:TD)(h:List Blk)(op:BinOp)(x y:AV):jG h (qlU d h op x y):=by
 unfold qlU
 repeat' (first|exact rfl|exact trivial|exact qe7 _ _ _ _ _ _|exact qo0 _ _ _ _ _|exact⟨rfl,trivial⟩|exact⟨qe7 _ _ _ _ _ _,trivial⟩|split)
theorem qo6 (E:Env)(h:List Blk)(op:BinOp)(t:TypeId)(x y:AV):jG h (qcm E h op t x y):=by
 unfold qcm;split
 ·unfold qhD
  repeat' (first|exact rfl|exact trivial|split)
 ·exact qsb _ _ _ _ _
theorem qtk (h:List Blk)(op:UnOp)(x:AV):jG h (qvz h op x):=by
 unfold qvz
 repeat' (first|exact rfl|exact trivial|split)
theorem qqf (E:Env)(h:List Blk)(s d:TypeId)(x:AV):jG h (qfS E h s d x):=by
 unfold qfS
 repeat' (first|exact rfl|exact trivial|split)
theorem qo7 (E:Env)(h:List Blk)(s d:TypeId)(x:AV):jG h (qaR E h s d x):=by
 unfold qaR;split
 ·split
  ·unfold qhJ
   repeat' (first|exact rfl|exact trivial|split)
  ·trivial
 ·exact qqf _ _ _ _ _
theorem qrQ (E:Env)(h:List Blk)(ts:List TypeId)(azz:List AV):jG h (qh7 E h ts azz):=by
 unfold qh7;split
 ·unfold qrT
  repeat' (first|exact rfl|exact trivial|split)
 ·trivial
theorem qoQ (f:Int->Int->Int)(h:List Blk)(azz:List AV):jG h (qkk f h azz):=by
 unfold qkk
 repeat' (first|exact rfl|exact trivial|split)
theorem qnW (ht:(E.ty t).d=.str)(h:List Blk)(x:AV)(lo hi mx:Option AV):jG h (q7r E h t x lo hi mx):=by
 unfold q7r;rw[ht];cases mx with
 | some _=>trivial
 | none=>
  cases x<;>first|trivial|skip
  simp only;split
  ·exact⟨⟨rfl,trivial⟩,trivial⟩
  ·trivial
theorem qm7 (ht:(E.ty t).d=.str)(h:List Blk)(x:AV)(lo hi mx:Option AV):jG h (jE E h t x lo hi mx):=by unfold jE;rw[ht];exact qnW ht _ _ _ _ _
theorem qmu {n:Nat}{e:TypeId}{es:Nat}(ht:(E.ty t).d=.array n e es)(h:List Blk)(x:AV)(lo hi mx:Option AV):jG h (jE E h t x lo hi mx):=by
 unfold jE;rw[ht];simp only;unfold qtS qms
 repeat' (first|exact rfl|exact trivial|exact⟨⟨rfl,trivial⟩,trivial⟩|exact⟨⟨⟨rfl,trivial⟩,trivial⟩,trivial⟩|split)
theorem qlo {e:TypeId}{es:Nat}(ht:(E.ty t).d=.slice e es)(h:List Blk)(x:AV)(lo hi:Option AV){mx:Option AV}(hm:mx.isSome=true):jG h (jE E h t x lo hi mx):=by
 unfold jE;rw[ht];simp only;unfold q7r;cases mx with
 | none=>cases hm
 | some m=>
  simp only;rw[ht]
  repeat' (first|exact rfl|exact trivial|exact⟨⟨⟨rfl,trivial⟩,trivial⟩,trivial⟩|split)
theorem qj9 {h:List Blk}{ev:Operand->AV}{op:Op}(hs:q6Y E op=true){r:Res}(hr:(qgl E h ev op).run=some r):r.2=(h,none):=by
 have key:jG h (qgl E h ev op):=by
  unfold qgl;cases op<;>simp only[q6Y] at hs<;>try (cases hs)
  case move=>rfl
  case assign=>rfl
  case pick=>simp only;split<;>first|rfl|exact⟨rfl,rfl⟩|trivial
  case build=>exact qlW _ _ _ _
  case load=>exact qn1 _ _ _ _
  case nilCheck=>simp only;repeat' (first|exact rfl|exact⟨rfl,trivial⟩|exact trivial|split)
  case binOp=>exact qo6 _ _ _ _ _ _
  case unOp=>exact qtk _ _ _
  case convert=>exact qo7 _ _ _ _ _
  case makeFunc fn _ _=>cases fn<;>first|rfl|trivial
  case slice t x lo hi mx=>
   split at hs
   ·rename_i ht;exact qm7 ht _ _ _ _ _
   ·rename_i ht;exact qmu ht _ _ _ _ _
   ·rename_i ht;exact qlo ht _ _ _ _ (by simpa using hs)
   ·cases hs
  case fieldAddr=>exact qhu _ _ _ _ _
  case field=>exact qnR _ _ _ _ _
  case indexAddr=>exact qg2 _ _ _ _ _
  case index=>exact qnm _ _ _ _ _
  case extract=>simp only;repeat' (first|exact rfl|exact trivial|split)
  case call c=>
   obtain⟨callee,args,tys⟩:=c;cases callee with
   | builtin b=>
    cases b<;>simp only at hs<;>try (cases hs)
    ·exact qrQ _ _ _ _
    ·exact qoQ _ _ _
    ·exact qoQ _ _ _
   | value x=>simp only at hs;cases hs
   | invoke x n=>simp only at hs;cases hs
 exact key.run hr
end Go.Eng

namespace Go.Eng
variable {E:Env}
theorem qkn {callS:q32}{h:List Blk}{f g:Operand->AV}{op:Op}(hfg:∀x∈op.operands.toList,f x=g x):q7y E callS h f op=q7y E callS h g op:=by
 have hmap:∀(l:List Operand),(∀x∈l,x∈op.operands.toList)->l.map f=l.map g:=fun l hl=>qyZ fun x hx=>hfg x (hl x hx);have hop:q6Y E op=true->qgl E h f op=qgl E h g op:=by
  intro hst;unfold qgl;cases op<;>simp only[q6Y] at hst<;>try (cases hst)
  case move x=>simp only;rw[hfg x (by simp[Op.operands])]
  case assign x=>simp only;rw[hfg x (by simp[Op.operands])]
  case pick c a b=>simp only;rw[hfg c (by simp[Op.operands]),hfg a (by simp[Op.operands]),hfg b (by simp[Op.operands])]
  case build t ps=>
   simp only;have:(ps.toList.map fun p=>(p.1,f p.2))=ps.toList.map fun p=>(p.1,g p.2):=qyZ fun p hp=>by rw[hfg p.2 (by simp only[Op.operands];exact List.mem_map_of_mem hp)]
   rw[this]
  case load t a=>simp only;rw[hfg a (by simp[Op.operands])]
  case nilCheck a=>simp only;rw[hfg a (by simp[Op.operands])]
  case binOp o t x y ty=>simp only;rw[hfg x (by simp[Op.operands]),hfg y (by simp[Op.operands])]
  case unOp o t x=>simp only;rw[hfg x (by simp[Op.operands])]
  case convert s d x=>simp only;rw[hfg x (by simp[Op.operands])]
  case makeFunc fn a b=>cases fn<;>simp only;rw[hmap a.toList (fun x hx=>by simp only[Op.operands,qzb];exact qyk _ hx),hmap b.toList (fun x hx=>by simp only[Op.operands,qzb];exact qya _ hx)]
  case slice t x lo hi mx=>
   simp only;have hlo:∀y,lo=some y->f y=g y:=fun y hy=>hfg y (by subst hy;simp[Op.operands]);have hhi:∀y,hi=some y->f y=g y:=fun y hy=>hfg y (by subst hy;simp[Op.operands]);have hmx:∀y,mx=some y->f y=g y:=fun y hy=>hfg y (by subst hy;simp[Op.operands]);have e1:lo.map f=lo.map g:=by
    cases lo with
    | none=>rfl
    | some y=>exact congrArg some (hlo y rfl)
   have e2:hi.map f=hi.map g:=by
    cases hi with
    | none=>rfl
    | some y=>exact congrArg some (hhi y rfl)
   have e3:mx.map f=mx.map g:=by
    cases mx with
    | none=>rfl
    | some y=>exact congrArg some (hmx y rfl)
   rw[e1,e2,e3,hfg x (by simp[Op.operands])]
  case fieldAddr s x i=>simp only;rw[hfg x (by simp[Op.operands])]
  case field s x i=>simp only;rw[hfg x (by simp[Op.operands])]
  case indexAddr t x i=>simp only;rw[hfg x (by simp[Op.operands]),hfg i (by simp[Op.operands])]
  case index t x i=>simp only;rw[hfg x (by simp[Op.operands]),hfg i (by simp[Op.operands])]
  case extract x i=>simp only;rw[hfg x (by simp[Op.operands])]
  case call c=>
   obtain⟨callee,args,tys⟩:=c;cases callee with
   | builtin b=>
    simp only;rw[hmap args.toList (fun x hx=>by simpa[Op.operands,Call.operands] using hx)]
   | value x=>simp only at hst;cases hst
   | invoke x n=>simp only at hst;cases hst
 unfold q7y;split
 ·rename_i x args tys;rw[hfg x (by simp[Op.operands,Call.operands]),hmap args.toList (fun y hy=>by simp only[Op.operands,Call.operands,qzb];exact qya _ hy)]
 ·split
  ·rename_i hst;rw[hop hst]
  ·rfl
def qcp(E:Env)(P:Program)(callS:List Blk->q32):Prop:=
 ∀(f:FuncId) (args:List AV) (st:St) (v:AV) (B:Base) (X:Ctx) (a:Act) (vargs:List Value),Sim E B X st a->RepL X args vargs->(callS st.h f args).run=some v ->
  (∀w,(callFunc f vargs.toArray).run P w=.ok (.enter f vargs.toArray) w) /\
  Calls P f vargs.toArray X.w fun e w'=>∃u X',e=.returned u/\X'.w=w'/\Rep X' v u/\Sim E B X' st a
def q2z(E:Env)(callS:List Blk->q32):Prop:=∀(h h':List Blk) (f:FuncId) (args:List AV),(qaS E f).isSome=true->(∀b,b∈AV.menL args->h'[b]?=h[b]?)->callS h' f args=callS h f args
def qf6(P:Program)(f:FuncId)(e:TypeId):Prop:=(∀args w,(callFunc f args).run P w=.ok (.enter f args) w) /\
 ∀(w:World) (n len cap i j:Nat) (c:Array Value) (T:TypeId),w.heap[n]?=some (.cells c T (0,0))->c.size=cap*P.cellsOf e->(∀k v,k<len*P.cellsOf e->c[k]?=some v->v.oneCell'=true)->0<P.cellsOf e ->
  len<=cap->cap<=9223372036854775807->i<=j->j<=len ->
  Calls P f #[.slice (some ⟨n,0,none⟩) len cap,.int .i64 i,.int .i64 j] w fun x w'=>x=.returned (.slice (some ⟨n,0,none⟩) (len-(j-i)) cap) /\
   ∃c',w'.heap[n]?=some (.cells c' T (0,0))/\c'.size=c.size/\(∀k,k<(len-(j-i))*P.cellsOf e->c'[k]?=if k<i*P.cellsOf e then c[k]? else c[k+(j-i)*P.cellsOf e]?) /\
    (∀m,m≠n->w'.heap[m]?=w.heap[m]?)/\w'.heap.size=w.heap.size/\w'.os=w.os/\w'.tape=w.tape/\w'.output=w.output
structure Env.specs (E:Env) (P:Program):Prop where
 sp:∀x,x∈E.spec->qV P E.glob x.1 x.2
 dl:∀x,x∈E.dels->qf6 P x.1 x.2
theorem qch:∀(l:List Nat) (h:List Blk),l.all (qcs h)=true->qx h l=h
 | [],_,_=>rfl
 | b::l,h,hl=>by
  simp only[qz6,qxL] at hl;have:zm h b=h:=by
   unfold zm;have:=hl.1;unfold qcs at this;split at this
   ·rename_i hb;rw[hb]
   ·cases this
  simp only[qx,this];exact qch l h hl.2
theorem qla {P:Program}(hS:E.specs P):qcp E P (q5g E):=by
 intro f args st v B X a vargs hsim hargs h;unfold q5g at h;cases hf:E.spec.find? fun x=>x.1==f with
 | none=>rw[hf] at h;cases h
 | some G=>
  rw[hf] at h;have hG:=hS.sp G (qyi hf);have hfe:G.1=f:=by simpa using qyv hf
  simp only at h;split at h
  ·rename_i hc;obtain⟨r,h1,h2⟩:=bind_some h;have hr2:r.2=[]/\(r.1.men)=[]/\v=r.1:=by
    split at h2
    ·rename_i he;split at h2
     ·rename_i hm;cases h2;exact⟨he,by simpa using hm,rfl⟩
     ·cases h2
    ·cases h2
   obtain⟨q1,q2,rfl⟩:=hr2;have hfz:qx st.h (args.flatMap zv)=st.h:=qch _ _ hc.1;have hmen:AV.menL (AV.lendL st.h args)=[]:=by simpa using hc.2
   have hcs:(uC G.2 args st).run=some (r.1,st):=by
    unfold uC;have hpr:wj st.h args=st.h:=by unfold wj;simp only[hfz,hmen,q3K,qx,q6w]
    simp only[hpr,hmen,qd3,q2x];rw[AV.renL_of_men _ _ hmen,Tree.run_bind,h1];simp only[qy3,uz,q1,qyq,List.drop_nil,List.map_nil,qyD];rw[AV.ren_of_men _ _ q2];rfl
   rw[hfe] at hG;refine⟨hG.1 _,?_⟩;exact q3I hG hsim hargs hcs
  ·cases h
theorem qkK {P:Program}(hE:E.tok P){callS:List Blk->q32}(hc:qcp E P callS){B:Base}{X:Ctx}{st:St}{a:Act}(hs:Sim E B X st a){o:Oper}{av:AV}(h:(q7y E (callS st.h) st.h (E.opd st.t) o.op).run=some av) {next:Act->World->Prop} {Q:Exit->Act->World->Prop}(hq:∀X' v,Sim E B X' st a->Rep X' av v->next (a.put o.dst v) X'.w):o.wp P a X.w next Q:=by
 unfold q7y at h;split at h
 ·rename_i x args tys hop;cases hx:E.opd st.t x with
  | fn f first caps=>
   rw[hx] at h;have hv:=q4d hs x;rw[hx] at hv;generalize hev:a.eval x=vx at hv;cases hv with
   | fn _ _ _ vf vc q1 q2=>
    have hargs:=q12 hs args.toList;have hall:RepL X (first++args.toList.map (E.opd st.t)++caps) (vf++args.toList.map a.eval++vc):=(q1.append hargs).append q2;obtain⟨g1,g2⟩:=hc f _ st av B X a _ hs hall h;unfold Oper.wp;have hrun:(execOp a.eval o).run P X.w=.ok (.enter f (vf++args.toList.map a.eval++vc).toArray) X.w:=by
     simp only[execOp,hop,resolve,hev,Deferred.ofValue,qxF,qxW,qxH,invoke];have:vf.toArray++args.map a.eval++vc.toArray=(vf++args.toList.map a.eval++vc).toArray:=by apply qyo;simp
     rw[this];exact g1 X.w
    rw[hrun];refine g2.mono fun e w' ⟨v,X',e1,e2,e3,e4⟩=>?_;subst e1 e2;exact hq X' _ e4 e3
  | _=>rw[hx] at h;cases h
 ·split at h
  ·rename_i hst;obtain⟨r,h1,h2⟩:=bind_some h;cases h2;have hr2:=qj9 hst h1;obtain⟨nx,v,X',g1,g2,g3,g4,g5⟩:=qdR hE hs h1;have hrn:r.2.2=none:=by rw[hr2]
   rw[hrn] at g5;have hXh:X'.h=st.h:=by rw[g5.1,hr2]
   have hs':Sim E B X' st a:=by have:=hs.ext g5.2 g4;rw[hXh] at this;exact this
   unfold Oper.wp;rw[g1];rcases g2 with rfl|⟨rfl,rfl⟩
   ·exact hq X' _ hs' g3
   ·exact hq X' _ hs' g3
  ·cases h
theorem Sim.drawn {B:Base}{X:Ctx}{st:St}{a:Act}(hs:Sim E B X st a)(n:Nat):Sim E B { X with w:={ X.w with drawn:=n } } st a:=by
 have hx:Ext X { X with w:={ X.w with drawn:=n } }:=
  Move.of (fun _ h=>h) (fun _ _=>rfl) (fun b b' hb h=>by cases h;exact⟨hb,rfl,fun _ _ h=>h,fun _ _ _ _ _ c T fr h=>⟨c,T,fr,h,rfl⟩⟩)
 have h0:=hs.hs;have hs':HSim B { X with w:={ X.w with drawn:=n } }:=
  ⟨fun b k hk=>vD.ext hx rfl (fun _ _=>rfl) (h0.blk b k hk),h0.inj,h0.notM,h0.ltM,h0.M0,h0.newM,h0.os,h0.tape,h0.output,h0.size,h0.frame,h0.imps,h0.impc,h0.fresh,h0.kept⟩
 have:=hs.ext hx hs';have e:({ st with h:=X.h }:St)=st:=by rw[hs.h]
 exact e▸this
end Go.Eng

namespace Go.Eng
def qmR(all:Array Oper)(k:Nat)(v:AV):AV:=if qmY all k then (match v with|.bool b=>.blit b|v=>v) else v
theorem qi2{X:Ctx}{all:Array Oper}{k:Nat}{v:AV}{u:Value}(h:Rep X v u):Rep X (qmR all k v) u:=by
 unfold qmR;split
 ·cases h with
  | bool b=>exact .blit b
  | undef=>exact .undef _
  | skip=>exact .skip
  | yld=>exact .yld
  | blit b=>exact .blit b
  | ilit k n=>exact .ilit k n
  | int k n=>exact .int k n
  | str s=>exact .str s
  | nilp=>exact .nilp
  | ptr b off n h1 h2=>exact .ptr b off n h1 h2
  | eptr sh l i off a h1 h2 h3 h4=>exact .eptr sh l i off a h1 h2 h3 h4
  | mnil sh l i off=>exact .mnil sh l i off
  | mptr sh l i off a h1 h2 h3 h4=>exact .mptr sh l i off a h1 h2 h3 h4
  | vptr b i off n k h1 h2 h3=>exact .vptr b i off n k h1 h2 h3
  | vsub b i n k m c h1 h2 h3=>exact .vsub b i n k m c h1 h2 h3
  | aptr b o i n h1 h2 h3=>exact .aptr b o i n h1 h2 h3
  | asub b o N i m n k c h1 h2 h3 h4 h5 h6=>exact .asub b o N i m n k c h1 h2 h3 h4 h5 h6
  | nils=>exact .nils
  | imm sh l _ h=>exact .imm sh l _ h
  | full sh l p n h=>exact .full sh l p n h
  | vec b p n c h1 h2=>exact .vec b p n c h1 h2
  | nilf=>exact .nilf
  | fn f a b c d h1 h2=>exact .fn f a b c d h1 h2
  | agg cs vs h=>exact .agg cs vs h
  | tuple cs vs h=>exact .tuple cs vs h
  | bagg cs k n l vs h hl=>exact .bagg cs k n l vs h hl
 ·exact h
theorem qs8{all:Array Oper}{k:Nat}{o:Oper}{st st':St}{v:AV}(h:(qiS all k o { st with t:=qbY st.t o.dst v }).run=some st') :st'={ st with t:=qbY st.t o.dst (qmR all k v) }:=by
 unfold qiS at h;unfold qmR;by_cases hg:qmY all k=true
 ·rw[if_pos hg] at h ⊢;cases hd:o.dst with
  | none=>rw[hd] at h;cases h;rfl
  | some d=>
   rw[hd] at h;simp only[qbY] at h ⊢;rcases qxG d st.t.length with hlt|hge
   ·rw[qxN hlt] at h;cases v<;>simp only at h<;>try (cases h;rfl)
    rename_i b;cases b<;>(cases h;simp[List.set_set])
   ·rw[List.set_eq_of_length_le hge] at h;rw[qxR hge] at h;cases h;rw[List.set_eq_of_length_le hge]
 ·rw[if_neg hg] at h ⊢;cases h;rfl
def q8d(V:Nat->AV):Nat->List Oper->List AV->List AV
 | _,[],t=>t
 | k,o::rest,t=>q8d V (k+1) rest (qbY t o.dst (V k))
theorem qhN{V W:Nat->AV}:∀(l:List Oper) (k:Nat) (t:List AV),(∀j,k<=j->V j=W j)->q8d V k l t=q8d W k l t
 | [],_,_,_=>rfl
 | o::l,k,t,h=>by
  simp only[q8d];rw[h k (qxC _)];exact qhN l (k+1) _ fun j hj=>h j (by omega)
section
variable (dst:Nat->Option Tmp) (V:Nat->AV) (T0:List AV)
def TLp(L:Nat->Bool):Nat->List AV
 | 0=>T0
 | m+1=>if L m then qbY (TLp L m) (dst m) (V m) else TLp L m
variable {dst V T0}
theorem qnG(t:List AV)(d:Option Tmp)(v:AV):(qbY t d v).length=t.length:=by cases d<;>simp[qbY]
theorem q83(L:Nat->Bool):∀m,(TLp dst V T0 L m).length=T0.length
 | 0=>rfl
 | m+1=>by simp only[TLp];split<;>simp[qnG,q83 L m]
theorem q51{L:Nat->Bool}{t:Tmp}:∀m,(∀j,j<m->L j=true->dst j≠some t)->(TLp dst V T0 L m)[t]?=T0[t]?
 | 0,_=>rfl
 | m+1,h=>by
  simp only[TLp];split
  ·rename_i hl;have:=h m (qyW m) hl;cases hd:dst m with
   | none=>exact q51 m fun j hj=>h j (by omega)
   | some d=>
    rw[hd] at this;simp only[qbY];rw[qxD (fun e=>this (by rw[e]))];exact q51 m fun j hj=>h j (by omega)
  ·exact q51 m fun j hj=>h j (by omega)
theorem qbf{L:Nat->Bool}{t:Tmp}{j:Nat}(hj:L j=true)(hd:dst j=some t):∀m,j<m->(∀k,k<m->k≠j->dst k≠some t) ->
  (TLp dst V T0 L m)[t]?=if t<T0.length then some (V j) else none
 | 0,h,_=>by omega
 | m+1,h,hu=>by
  by_cases hm:j=m
  ·subst hm;simp only[TLp,hj,if_true,hd,qbY];rw[qzl];simp[q83]
  ·simp only[TLp];split
   ·have:=hu m (qyW m) (fun e=>hm e.symm);cases hdm:dst m with
    | none=>exact qbf hj hd m (by omega) fun k hk=>hu k (by omega)
    | some d=>
     rw[hdm] at this;simp only[qbY];rw[qxD (fun e=>this (by rw[e]))];exact qbf hj hd m (by omega) fun k hk=>hu k (by omega)
   ·exact qbf hj hd m (by omega) fun k hk=>hu k (by omega)
theorem quI{L:Nat->Bool}{i n:Nat}(hi:i<n)(hL:L i=false)(hu:∀k,k<n->k≠i->∀t,dst i=some t->dst k≠some t) :TLp dst V T0 (fun j=>if j=i then true else L j) n=qbY (TLp dst V T0 L n) (dst i) (V i):=by
 apply qyc;intro t;cases hd:dst i with
 | none=>
  simp only[qbY];by_cases hex:∃j,j<n/\L j=true/\dst j=some t
  ·
   clear hex;have:∀m,m<=n->TLp dst V T0 (fun j=>if j=i then true else L j) m=TLp dst V T0 L m:=by
    intro m;induction m with
    | zero=>intro _;rfl
    | succ m ih=>
     intro hm;simp only[TLp];by_cases hmi:m=i
     ·subst hmi;rw[ih (by omega)];simp[hL,hd,qbY]
     ·rw[ih (by omega)];simp[hmi]
   rw[this n (qxC _)]
  ·have h1:∀j,j<n->L j=true->dst j≠some t:=fun j hj hl he=>hex ⟨j,hj,hl,he⟩;rw[q51 n h1];refine q51 n fun j hj hl he=>?_;by_cases hji:j=i
   ·subst hji;rw[hd] at he;cases he
   ·simp[hji] at hl;exact h1 j hj hl he
 | some d=>
  simp only[qbY];by_cases htd:t=d
  ·subst htd;rw[qbf (j:=i) (by simp) hd n hi (fun k hk hki=>hu k hk hki t hd),qzl];simp[q83]
  ·rw[qxD (fun e=>htd e.symm)];have:∀m,m<=n->(TLp dst V T0 (fun j=>if j=i then true else L j) m)[t]?=(TLp dst V T0 L m)[t]?:=by
    intro m;induction m with
    | zero=>intro _;rfl
    | succ m ih=>
     intro hm;simp only[TLp];by_cases hmi:m=i
     ·subst hmi;simp only[if_true,hL,qy5,if_false,hd,qbY];rw[qxD (fun e=>htd e.symm)];exact ih (by omega)
     ·simp only[hmi,if_false];split
      ·cases hdm:dst m with
       | none=>exact ih (by omega)
       | some d'=>
        simp only[qbY,qzl];rw[q83,q83,ih (by omega)]
      ·exact ih (by omega)
   exact this n (qxC _)
end
theorem qtK{V:Nat->AV}{l:List Oper}{T0:List AV}:∀j,j<=l.length->TLp (fun i=>(l[i]?).bind (·.dst)) V T0 (fun _=>true) j=q8d V 0 (l.take j) T0:=by
 have app:∀(l:List Oper) (o:Oper) (k:Nat) (t:List AV),q8d V k (l++[o]) t=qbY (q8d V k l t) o.dst (V (k+l.length)):=by
  intro l;induction l with
  | nil=>intro o k t;simp[q8d]
  | cons a l ih=>intro o k t;simp only[qyn,q8d,ih];congr 2;simp;omega
 intro j;induction j with
 | zero=>intro _;simp[TLp,q8d]
 | succ j ih=>
  intro hj;have hlt:j<l.length:=by omega
  have ht:l.take (j+1)=l.take j++[l[j]]:=by rw[List.take_succ_eq_append_getElem hlt]
  rw[ht,app,<-ih (by omega)];simp only[TLp,if_true];rw[qxO hlt];simp only[qy3];congr 2;simp;omega
end Go.Eng

namespace Go.Eng
variable {all:Array Oper}
def qnB(acc:List Nat)(o:Oper):Nat:=o.after.toList.foldl (fun s e=>if Region.binds .any e then s ||| 2^e.on ||| acc.getD e.on 0 else s) 0
theorem qhe(acc:List Nat)(x:Nat):∀(es:List Edge) (s:Nat),(es.foldl (fun s e=>if Region.binds .any e then s ||| 2^e.on ||| acc.getD e.on 0 else s) s).testBit x=true ->
  s.testBit x=true\/∃e,e∈es/\Region.binds .any e=true/\(x=e.on\/(acc.getD e.on 0).testBit x=true)
 | [],s,h=>.inl h
 | e::es,s,h=>by
  simp only[qz7] at h;rcases qhe acc x es _ h with h1|⟨e',h1,h2,h3⟩
  ·split at h1
   ·rename_i hb;rw[Nat.testBit_or,Nat.testBit_or,qyE,qyE] at h1;rcases h1 with (h1|h1)|h1
    ·exact .inl h1
    ·rw[Nat.testBit_two_pow] at h1;have h2:e.on=x:=by simpa using h1
     exact .inr ⟨e,qxM,hb,.inl h2.symm⟩
    ·exact .inr ⟨e,qxM,hb,.inr h1⟩
   ·exact .inl h1
  ·exact .inr ⟨e',qxQ _ h1,h2,h3⟩
def qvf(ops:List Oper)(acc:List Nat):Prop:=∀i x,(acc.getD i 0).testBit x=true->∃o e,ops[i]?=some o/\e∈o.after.toList/\Region.binds .any e=true/\(x=e.on\/(acc.getD e.on 0).testBit x=true)
theorem qjw:∀(rest done:List Oper) (acc:List Nat),acc.length=done.length->qvf done acc->qvf (done++rest) (rest.foldl (fun acc o=>acc++[qnB acc o]) acc)
 | [],done,acc,_,h=>by simpa using h
 | o::rest,done,acc,hl,h=>by
  simp only[qz7];have:=qjw rest (done++[o]) (acc++[qnB acc o]) (by simp[hl]) ?_
  ·simpa using this
  ·intro i x hb;have grow:∀(j x:Nat),(acc.getD j 0).testBit x=true->((acc++[qnB acc o]).getD j 0).testBit x=true:=by
    intro j x hj;rcases qxG j acc.length with hlt|hge
    ·rw[qxE,qxK hlt,<-qxE];exact hj
    ·rw[qxE,qxR hge] at hj;simp at hj
   rcases qxG i acc.length with hlt|hge
   ·rw[qxE,qxK hlt,<-qxE] at hb;obtain⟨o',e,h1,h2,h3,h4⟩:=h i x hb;refine⟨o',e,by rw[qxK (by omega)];exact h1,h2,h3,?_⟩;exact h4.elim .inl fun q=>.inr (grow _ _ q)
   ·rcases qyJ hge with he|hgt
    ·rw[qxE,<-he,qxU (qxC _)] at hb;simp only[Nat.sub_self,qyr,qyK] at hb;rcases qhe acc x _ _ hb with h1|⟨e,h1,h2,h3⟩
     ·simp at h1
     ·exact⟨o,e,by rw[<-he,qxU (by omega)];simp[hl],h1,h2,h3.elim .inl fun q=>.inr (grow _ _ q)⟩
    ·rw[qxE,qxR (by simp;omega)] at hb;simp at hb
theorem ql8 (ops:List Oper):qvf ops (q9M ops):=by have:=qjw ops [] [] rfl (fun i x h=>by simp at h);exact this
structure DrawOk (all:Array Oper):Prop where
 edge:∀i o,all[i]?=some o->∀e,e∈o.after.toList->Region.binds .any e=true->e.on<i
 dst:∀i j oi oj,all[i]?=some oi->all[j]?=some oj->j≠i->∀t,oj.dst=some t->oi.dst≠some t /\
  (t∈qpS all oi->((q9M all.toList).getD i 0).testBit j=true\/((q9M all.toList).getD j 0).testBit i=true)
theorem qtc (h:qrC all=true):DrawOk all:=by
 unfold qrC at h;simp only[qxV,qyR] at h;have main:∀i oi,all[i]?=some oi->(∀e,e∈oi.after.toList->Region.binds .any e=true->e.on<i) /\
   ∀j oj,all[j]?=some oj->j≠i->∀t,oj.dst=some t->oi.dst≠some t/\(t∈qpS all oi->((q9M all.toList).getD i 0).testBit j=true\/((q9M all.toList).getD j 0).testBit i=true):=by
  intro i oi hi;have hi':all.toList[i]?=some oi:=by simpa using hi
  have:=h i (qj hi');rw[hi'] at this;simp only[qxL,qxV,qyR,qyE,beq_iff_eq] at this;obtain⟨h1,h2⟩:=this;refine⟨fun e he hb=>?_,fun j oj hj hne t ht=>?_⟩
  ·have:=h1 e he;rw[hb] at this;simpa using this
  ·have hj':all.toList[j]?=some oj:=by simpa using hj
   have:=(h2 j (qj hj')).resolve_left hne;rw[hj'] at this;simp only[ht,qxL,bne_iff_ne,ne_eq,qyE,qyw,List.contains_eq_mem,decide_eq_false_iff_not] at this;refine⟨this.1,fun hm=>?_⟩;rcases this.2 with (h3|h3)|h3
   ·exact absurd hm h3
   ·exact .inl h3
   ·exact .inr h3
 exact⟨fun i o hi=>(main i o hi).1,fun i j oi oj hi hj hne=>(main i oi hi).2 j oj hj hne⟩
theorem quv (hd:DrawOk all):∀(i x:Nat),((q9M all.toList).getD i 0).testBit x=true->x<i:=by
 intro i;induction i using Nat.strongRecOn with
 | _ i ih=>
  intro x hx;obtain⟨o,e,h1,h2,h3,h4⟩:=ql8 all.toList i x hx;have he:=hd.edge i o (by simpa using h1) e h2 h3;rcases h4 with rfl|h4
  ·exact he
  ·have:=ih e.on he x h4;omega
def qfQ(all:Array Oper)(L:Nat->Bool):Prop:=∀i o,all[i]?=some o->L i=true->∀e,e∈o.after.toList->Region.binds .any e=true->L e.on=true
theorem qjo (hd:DrawOk all){L:Nat->Bool}(hc:qfQ all L):∀(i x:Nat),L i=true->((q9M all.toList).getD i 0).testBit x=true->L x=true:=by
 intro i;induction i using Nat.strongRecOn with
 | _ i ih=>
  intro x hi hx;obtain⟨o,e,h1,h2,h3,h4⟩:=ql8 all.toList i x hx;have ho:all[i]?=some o:=by simpa using h1
  have he:=hc i o ho hi e h2 h3;rcases h4 with rfl|h4
  ·exact he
  ·exact ih e.on (hd.edge i o ho e h2 h3) x he h4
section
variable {E:Env} {callS:q32} {h:List Blk} {all:Array Oper} {V:Nat->AV} {T0:List AV}
def jr(all:Array Oper):Nat->Option Tmp:=fun i=>(all[i]?).bind (·.dst)
theorem qvF (hd:DrawOk all){L:Nat->Bool}(hc:qfQ all L){n i:Nat}{o:Oper}(hi:all[i]?=some o)(hin:i<=n)(hL:L i=false)(hedge:∀e,e∈o.after.toList->Region.binds .any e=true->L e.on=true) {t:Tmp} (ht:t∈qpS all o) :(TLp (jr all) V T0 L n)[t]?=(TLp (jr all) V T0 (fun _=>true) i)[t]?:=by
 by_cases hex:∃j oj,all[j]?=some oj/\j≠i/\oj.dst=some t
 ·obtain⟨j,oj,hj,hne,hjt⟩:=hex;have hdj:jr all j=some t:=by simp[jr,hj,hjt]
  have huniq:∀m k,k<m->k≠j->jr all k≠some t:=by
   intro m k _ hkj he;unfold jr at he;cases hk:all[k]? with
   | none=>rw[hk] at he;cases he
   | some ok=>
    rw[hk] at he;simp only[qy3] at he;exact(hd.dst j k oj ok hj hk hkj t he).1 hjt
  rcases (hd.dst i j o oj hi hj hne t hjt).2 ht with ha|ha
  ·
   have hji:=quv hd i j ha;have hLj:L j=true:=by
    obtain⟨o',e,h1,h2,h3,h4⟩:=ql8 all.toList i j ha;have:o'=o:=by
     have h1':all[i]?=some o':=by simpa using h1
     rw[hi] at h1';exact(qy6 h1').symm
    subst this;have he:=hedge e h2 h3;rcases h4 with rfl|h4
    ·exact he
    ·exact qjo hd hc _ _ he h4
   rw[qbf hLj hdj n (by omega) (huniq n),qbf rfl hdj i hji (huniq i)]
  ·
   have hij:=quv hd j i ha;have hLj:L j=false:=by
    cases hLj:L j with
    | false=>rfl
    | true=>have:=qjo hd hc _ _ hLj ha;rw[hL] at this;cases this
   have e1:(TLp (jr all) V T0 L n)[t]?=T0[t]?:=q51 n fun k hk hLk he=>by
    by_cases hkj:k=j
    ·subst hkj;rw[hLj] at hLk;cases hLk
    ·exact huniq n k hk hkj he
   have e2:(TLp (jr all) V T0 (fun _=>true) i)[t]?=T0[t]?:=q51 i fun k hk _ he=>by
    by_cases hkj:k=j
    ·omega
    ·exact huniq i k hk hkj he
   rw[e1,e2]
 ·have hno:∀k,k≠i->jr all k≠some t:=by
   intro k hki he;unfold jr at he;cases hk:all[k]? with
   | none=>rw[hk] at he;cases he
   | some ok=>
    rw[hk] at he;exact hex ⟨k,ok,hk,hki,he⟩
  have e1:(TLp (jr all) V T0 L n)[t]?=T0[t]?:=q51 n fun k hk hLk=>hno k (fun e=>by subst e;rw[hL] at hLk;cases hLk);have e2:(TLp (jr all) V T0 (fun _=>true) i)[t]?=T0[t]?:=q51 i fun k hk _=>hno k (by omega);rw[e1,e2]
end
def unl(listed:Array Bool):Nat->Nat
 | 0=>0
 | m+1=>unl listed m+if listed.getD m false then 0 else 1
theorem qkl{listed:Array Bool}:∀{m:Nat},unl listed m=0->∀i,i<m->listed.getD i false=true
 | 0,_,i,hi=>by omega
 | m+1,h,i,hi=>by
  simp only[unl] at h;by_cases him:i=m
  ·subst him;cases hl:listed.getD i false with
   | true=>rfl
   | false=>rw[hl] at h;simp at h
  ·exact qkl (Nat.add_eq_zero_iff.1 h).1 i (by omega)
theorem uv {listed:Array Bool}{i j:Nat}(hi:i<listed.size):(listed.setIfInBounds i true).getD j false=if j=i then true else listed.getD j false:=by
 by_cases h:j=i
 ·subst h;simp[hi]
 ·simp[h,Array.getElem?_setIfInBounds_ne (qxS h)]
theorem qne{listed:Array Bool}{i:Nat}(hi:i<listed.size)(hl:listed.getD i false=false):∀m,(m<=i->unl (listed.setIfInBounds i true) m=unl listed m)/\(i<m->unl (listed.setIfInBounds i true) m+1=unl listed m)
 | 0=>⟨fun _=>rfl,fun h=>by omega⟩
 | m+1=>by
  obtain⟨h1,h2⟩:=qne hi hl m;refine⟨fun h=>?_,fun h=>?_⟩
  ·simp only[unl];rw[h1 (by omega),uv hi,if_neg (show ¬m=i by omega)]
  ·simp only[unl];rw[uv hi];by_cases him:m=i
   ·subst him;rw[h1 (qxC _),if_pos rfl,hl];simp
   ·rw[if_neg him];have:=h2 (by omega);omega
end Go.Eng

namespace Go.Eng
variable {E:Env}{op:Op}{t:TypeId}
def yv(h':List Blk):Tree Res->Tree Res->Prop
 | .leaf r,t'=>t'=.leaf (r.1,h',none)
 | .br b t e,.br b' t' e'=>b=b'/\yv h' t t'/\yv h' e e'
 | .fail,_=>True
 | .br _ _ _,_=>False
theorem yv.run{h':List Blk}:∀{t t':Tree Res} {r:Res},yv h' t t'->t.run=some r->t'.run=some (r.1,h',none)
 | .leaf _,t',_,hm,hr=>by cases hr;simp only[yv] at hm;subst hm;rfl
 | .fail,_,_,_,hr=>by cases hr
 | .br b t e,.br b' t' e',r,hm,hr=>by
  simp only[yv] at hm;obtain⟨rfl,h1,h2⟩:=hm;cases b<;>simp only[Tree.run] at hr ⊢
  ·exact yv.run h2 hr
  ·exact yv.run h1 hr
 | .br _ _ _,.leaf _,_,hm,_=>by cases hm
 | .br _ _ _,.fail,_,hm,_=>by cases hm
section
variable {h h':List Blk}
def Agr(h h':List Blk)(p:AV):Prop:=∀b,b∈p.men->h'[b]?=h[b]?
theorem zx (v:AV):yv h' (okv h v) (okv h' v):=rfl
theorem vY {b:Bool}{t t' e e':Tree Res}(h1:yv h' t t')(h2:yv h' e e'):yv h' (.br b t e) (.br b t' e'):=⟨rfl,h1,h2⟩
theorem qU {c:Prop}[Decidable c]{t t' e e':Tree Res}(h1:yv h' t t')(h2:yv h' e e'):yv h' (if c then t else e) (if c then t' else e'):=by split<;>assumption
theorem q5A (kk:IntKind)(f:Int->Int->Int)(l:Bool)(x y:Int):yv h' (q2M h kk f l x y) (q2M h' kk f l x y):=by unfold q2M;cases l<;>rfl
theorem qrl (f:Int->Int->Bool)(l:Bool)(x y:Int):yv h' (qpg h f l x y) (qpg h' f l x y):=by unfold qpg;cases l<;>rfl
theorem qb9 {v:AV}(H:Agr h h' v):wn h' v=wn h v:=by
 cases v<;>first|rfl|skip
 rename_i b;simp only[wn];rw[H b (by simp[AV.men])]
theorem qlD (E:Env)(t:TypeId)(p:AV)(H:Agr h h' p):yv h' (q9h E h t p) (q9h E h' t p):=by
 unfold q9h;dsimp only;refine qU trivial ?_;cases p with
 | ptr b off=>
  simp only;rw[H b (by simp[AV.men])];cases hb:h[b]? with
  | none=>trivial
  | some x=>
   cases x with
   | cells cs=>
    simp only;refine qU (qU (zx _) trivial) ?_;cases cs[off]?<;>first|trivial|rfl
   | _=>trivial
 | eptr sh l i off=>
  simp only;refine qU ?_ ?_
  ·cases q5z sh l i off (E.ty t).size<;>first|trivial|rfl
  ·cases q9q sh l i off<;>first|trivial|rfl
 | vptr b i off=>
  simp only;rw[qb9 (v:=.vec b) H];cases hb:wn h (.vec b) with
  | none=>trivial
  | some x=>
   obtain⟨sh,l⟩:=x;simp only;refine qU ?_ ?_
   ·cases q5z sh l i off (E.ty t).size<;>first|trivial|rfl
   ·cases q9q sh l i off<;>first|trivial|rfl
 | _=>trivial
theorem qq7 (E:Env)(t:TypeId)(p:AV)(H:Agr h h' p):yv h' (q79 E h t p) (q79 E h' t p):=by
 cases p with
 | ptr b off=>
  have hm:=qlD E t (.ptr b off) H;unfold q79;simp only;rw[H b (by simp[AV.men])];cases hb:h[b]? with
  | none=>
   have:q9h E h t (.ptr b off)=.fail:=by unfold q9h;simp only[hb];split<;>rfl
   simp only[this];trivial
  | some x=>
   cases x with
   | big cs kk n l=>
    simp only;unfold qrG;refine qU trivial (qU (qU (zx _) trivial) ?_);cases cs[off]? with
    | none=>exact qU (zx _) trivial
    | some v=>exact zx _
   | _=>exact hm
 | aptr b o i=>
  unfold q79;simp only;rw[H b (by simp[AV.men])];cases hb:h[b]? with
  | none=>trivial
  | some x=>
   cases x with
   | big cs kk n l=>exact qU (vY (zx _) trivial) trivial
   | _=>trivial
 | _=>unfold q79;exact qlD _ _ _ H
theorem qqq (E:Env)(t:TypeId)(ps:List (Nat×AV)):yv h' (qad E h t ps) (qad E h' t ps):=by
 unfold qad;refine qU trivial ?_;cases (E.ty t).d with
 | struct fs=>
  simp only;refine qU ?_ trivial;cases q7O (fun i=>(fs[i]?).map fun f=>(f.1,f.2.2)) ((E.ty t).zero.map vh) ps<;>first|trivial|rfl
 | array n e es=>
  simp only;refine qU trivial ?_;cases q7O (fun i=>some (i*es,es)) ((E.ty t).zero.map vh) ps<;>first|trivial|rfl
 | _=>trivial
theorem qnI (E:Env)(t:TypeId)(ps:List (Nat×AV)):yv h' (q6O E h t ps) (q6O E h' t ps):=by
 unfold q6O;cases qpW E t with
 | none=>exact qqq _ _ _
 | some q=>
  obtain⟨o,kk,n⟩:=q;simp only;cases (E.ty t).d with
  | struct fs=>
   simp only;refine qU ?_ trivial;cases q7O (fun i=>(fs[i]?).map fun f=>(f.1,f.2.2)) (((E.ty t).zero.take o).map vh) ps<;>first|trivial|rfl
  | _=>trivial
theorem qir (E:Env)(s:TypeId)(x:AV)(f:Nat):yv h' (q06 E h s x f) (q06 E h' s x f):=by
 unfold q06;cases (E.ty s).d with
 | struct fs=>
  simp only;cases fs[f]? with
  | none=>trivial
  | some o=>
   obtain⟨o,tt,sz⟩:=o;simp only;refine qU trivial ?_;cases x<;>first|rfl|trivial
 | _=>trivial
theorem qhy (E:Env)(t:TypeId)(cs:List AV)(o:Nat):yv h' (qaH E h t cs o) (qaH E h' t cs o):=by unfold qaH;cases q9B E t cs o<;>first|rfl|trivial
theorem qqb (E:Env)(s:TypeId)(x:AV)(f:Nat):yv h' (qb0 E h s x f) (qb0 E h' s x f):=by
 unfold qb0;cases (E.ty s).d with
 | struct fs=>
  cases x with
  | agg cs=>
   simp only;cases fs[f]? with
   | none=>trivial
   | some o=>exact qhy _ _ _ _
  | _=>trivial
 | _=>trivial
theorem q9Z(i:Int)(f:Nat->AV):∀n,yv h' (qb3 h i f n) (qb3 h' i f n)
 | 0=>trivial
 | n+1=>⟨rfl,rfl,q9Z i f n⟩
theorem qiO (E:Env)(t:TypeId)(x i:AV)(H:Agr h h' x):yv h' (ju E h t x i) (ju E h' t x i):=by
 unfold ju;cases (E.ty t).d with
 | slice e es=>
  cases x with
  | imm sh l=>
   cases asI i with
   | none=>trivial
   | some y=>exact qU (vY (zx _) trivial) trivial
  | vec b=>
   cases asI i with
   | none=>trivial
   | some y=>
    simp only;rw[qb9 (v:=.vec b) H];cases hb:wn h (.vec b) with
    | none=>trivial
    | some z=>exact qU (vY (zx _) trivial) trivial
  | _=>trivial
 | array n e es=>
  cases x with
  | ptr b off=>
   simp only;cases i with
   | ilit kk j=>exact qU (zx _) trivial
   | int kk j=>exact qU (q9Z _ _ _) trivial
   | _=>trivial
  | eptr sh l i0 off=>
   simp only;cases i with
   | ilit kk j=>exact qU (zx _) trivial
   | int kk j=>exact qU (q9Z _ _ _) trivial
   | _=>trivial
  | _=>trivial
 | _=>trivial
theorem qhh (E:Env)(t:TypeId)(x i:AV)(H:Agr h h' x):yv h' (um E h t x i) (um E h' t x i):=by
 have hm:=qiO E t x i H;unfold um;split
 ·split
  ·split
   ·split
    ·exact qU (vY (zx _) trivial) trivial
    ·exact hm
   ·exact hm
  ·exact hm
 ·exact hm
theorem qm6(E:Env)(e:TypeId)(cs:List AV)(es:Nat)(i:Int):∀m j,yv h' (qfE E h e cs es i j m) (qfE E h' e cs es i j m)
 | 0,_=>trivial
 | m+1,j=>vY (qhy _ _ _ _) (qm6 E e cs es i m (j+1))
theorem qpd (E:Env)(t:TypeId)(x i:AV):yv h' (qaa E h t x i) (qaa E h' t x i):=by
 unfold qaa;cases (E.ty t).d with
 | array n e es=>
  cases x with
  | agg cs=>
   cases hi:asI i with
   | none=>trivial
   | some y=>
    cases i with
    | ilit kk j=>exact qU (qhy _ _ _ _) trivial
    | int kk j=>
     simp only;cases (E.ty e).d with
     | int k2=>
      simp only;refine qU ?_ trivial;cases qdj k2 cs with
      | none=>trivial
      | some l=>exact vY (zx _) trivial
     | slice e2 es2=>
      simp only;refine qU ?_ trivial;split
      ·exact qm6 _ _ _ _ _ _ _
      ·trivial
     | _=>trivial
    | _=>cases hi
  | _=>trivial
 | str=>
  cases x with
  | str s=>
   cases asI i with
   | none=>trivial
   | some y=>exact vY (zx _) trivial
  | _=>trivial
 | _=>trivial
theorem qoU (d:TD)(op:BinOp)(x y:AV)(H:Agr h h' x):yv h' (qlU d h op x y) (qlU d h' op x y):=by
 unfold qlU;cases hx:asI x with
 | some p=>
  obtain⟨kk,a⟩:=p;cases hy:asI y with
  | some q=>
   obtain⟨kk',b⟩:=q;simp only;refine qU ?_ trivial;cases op<;>simp only<;>first
    | exact q5A _ _ _ _ _
    | exact qrl _ _ _ _
    | trivial
    | skip
   ·cases y<;>simp only<;>first|exact qU trivial (q5A _ _ _ _ _)|exact vY (q5A _ _ _ _ _) trivial
   ·cases y<;>simp only<;>first|exact qU trivial (q5A _ _ _ _ _)|exact vY (q5A _ _ _ _ _) trivial
  | none=>cases x<;>first|cases hx;done|(cases y<;>first|(cases hy;done)|trivial)
 | none=>
  simp only;cases hbx:asB x with
  | some a=>
   cases hby:asB y with
   | some b=>simp only;cases d<;>simp only<;>first|trivial|(cases op<;>first|rfl|trivial)
   | none=>cases x<;>first|(cases hbx;done)|(cases y<;>first|(cases hby;done)|trivial)
  | none=>
   simp only;cases x with
   | str a=>
    cases y with
    | str b=>cases op<;>first|rfl|trivial|exact vY (zx _) trivial
    | _=>trivial
   | nilp=>
    cases y with
    | nilp=>cases d<;>first|trivial|(cases op<;>first|rfl|trivial)
    | _=>trivial
   | ptr b off=>
    cases y with
    | nilp=>
     cases d<;>first|trivial|skip
     simp only;rw[H b (by simp[AV.men])];cases hb:h[b]? with
     | none=>trivial
     | some z=>cases z<;>first|trivial|(cases op<;>first|rfl|trivial)
    | _=>trivial
   | eptr sh l i o=>
    cases y with
    | nilp=>cases d<;>first|trivial|(cases op<;>first|rfl|trivial)
    | _=>trivial
   | imm sh l=>
    cases y with
    | nils=>cases d<;>first|trivial|(cases op<;>first|trivial|exact vY (zx _) trivial)
    | _=>trivial
   | mptr c sh l i o=>
    cases y with
    | nilp=>cases d<;>first|trivial|(cases op<;>first|rfl|trivial)
    | _=>trivial
   | _=>trivial
theorem qqj (E:Env)(op:BinOp)(t:TypeId)(x y:AV)(H:Agr h h' x):yv h' (qcm E h op t x y) (qcm E h' op t x y):=by
 unfold qcm;cases x with
 | agg xs=>
  cases y with
  | agg ys=>
   simp only;unfold qhD;cases eqT E 32 t (.agg xs) (.agg ys) with
   | none=>trivial
   | some r=>cases op<;>first|rfl|trivial
  | _=>exact qoU _ _ _ _ H
 | _=>exact qoU _ _ _ _ H
theorem qv9 (op:UnOp)(x:AV):yv h' (qvz h op x) (qvz h' op x):=by cases op<;>cases x<;>first|rfl|trivial
theorem qqD (E:Env)(s d:TypeId)(x:AV):yv h' (qfS E h s d x) (qfS E h' s d x):=by unfold qfS;cases (E.ty s).d<;>cases (E.ty d).d<;>cases x<;>first|rfl|trivial
theorem qpv (E:Env)(s d:TypeId)(x:AV)(H:Agr h h' x):yv h' (qaR E h s d x) (qaR E h' s d x):=by
 unfold qaR;cases (E.ty s).d with
 | slice e es=>
  simp only;cases (E.ty d).d with
  | str=>
   simp only;unfold qhJ;cases (E.ty e).d with
   | int kk=>
    cases kk<;>first|trivial|skip
    simp only;rw[qb9 H];cases hr:wn h x with
    | none=>trivial
    | some q=>
     obtain⟨sh,l⟩:=q;simp only;split
     ·rfl
     ·trivial
   | _=>trivial
  | _=>trivial
 | _=>exact qqD _ _ _ _
theorem qtU (E:Env)(ts:List TypeId)(azz:List AV)(H:∀x,x∈azz->Agr h h' x):yv h' (qh7 E h ts azz) (qh7 E h' ts azz):=by
 unfold qh7;cases ts with
 | nil=>trivial
 | cons t ts=>
  cases azz with
  | nil=>trivial
  | cons x azz=>
   cases azz with
   | cons _ _=>trivial
   | nil=>
    simp only;unfold qrT;cases (E.ty t).d with
    | str=>cases x<;>first|rfl|trivial
    | array n e es=>rfl
    | slice e es=>
     cases x with
     | nils=>rfl
     | vec b=>
      simp only;rw[qb9 (v:=.vec b) (H _ qxM)];cases hb:wn h (.vec b) with
      | none=>trivial
      | some z=>rfl
     | imm sh l=>rfl
     | _=>trivial
    | _=>cases x<;>trivial
theorem qv0 (f:Int->Int->Int)(azz:List AV):yv h' (qkk f h azz) (qkk f h' azz):=by
 unfold qkk;cases azz with
 | nil=>trivial
 | cons x l=>
  simp only;cases asI x with
  | none=>trivial
  | some p=>
   obtain⟨kk,n⟩:=p;simp only;cases qnJ f kk n l with
   | none=>trivial
   | some m=>exact qU (zx _) (zx _)
theorem qpu (ht:(E.ty t).d=.str)(x:AV)(lo hi mx:Option AV):yv h' (q7r E h t x lo hi mx) (q7r E h' t x lo hi mx):=by
 unfold q7r;rw[ht];cases mx with
 | some _=>trivial
 | none=>
  cases x<;>first|trivial|skip
  rename_i s;simp only;cases q8j lo 0 with
  | none=>trivial
  | some l=>
   cases q8j hi (zG s) with
   | none=>trivial
   | some r=>exact vY (vY (zx _) trivial) trivial
theorem qnP (ht:(E.ty t).d=.str)(x:AV)(lo hi mx:Option AV):yv h' (jE E h t x lo hi mx) (jE E h' t x lo hi mx):=by unfold jE;rw[ht];exact qpu ht _ _ _ _
theorem qno {n:Nat}{e:TypeId}{es:Nat}(ht:(E.ty t).d=.array n e es)(x:AV)(lo hi mx:Option AV):yv h' (jE E h t x lo hi mx) (jE E h' t x lo hi mx):=by
 unfold jE;rw[ht];simp only;cases x<;>first|trivial|skip
 ·cases mx with
  | some _=>trivial
  | none=>
   simp only;refine qU ?_ trivial;unfold qtS;split
   ·exact vY (vY (zx _) trivial) trivial
   ·trivial
 ·refine qU ?_ trivial;split
  ·unfold qms;split
   ·split
    ·exact vY (vY (zx _) trivial) trivial
    ·trivial
   ·split
    ·exact vY (vY (vY (zx _) trivial) trivial) trivial
    ·trivial
  ·trivial
theorem qnn {e:TypeId}{es:Nat}(ht:(E.ty t).d=.slice e es)(x:AV)(lo hi:Option AV){mx:Option AV}(hm:mx.isSome=true):yv h' (jE E h t x lo hi mx) (jE E h' t x lo hi mx):=by
 unfold jE;rw[ht];simp only;unfold q7r;cases mx with
 | none=>cases hm
 | some m=>
  simp only;rw[ht];split
  ·split
   ·exact qU (vY (vY (vY (zx _) trivial) trivial) trivial) trivial
   ·trivial
  ·trivial
theorem qrP {ev:Operand->AV}(hs:q6Y E op=true)(H:qsC op=true->∀x,x∈op.operands.toList->Agr h h' (ev x)):yv h' (qgl E h ev op) (qgl E h' ev op):=by
 unfold qgl;cases op<;>simp only[q6Y] at hs<;>try (cases hs)
 case move=>exact zx _
 case assign=>exact zx _
 case pick c a b=>simp only;cases ev c<;>first|exact zx _|exact vY (zx _) (zx _)|trivial
 case build=>exact qnI _ _ _
 case load x=>exact qq7 _ _ _ (H rfl x (by simp[Op.operands]))
 case nilCheck x=>
  have H:=H rfl x (by simp[Op.operands]);simp only;cases hx:ev x with
  | ptr b o=>
   rw[hx] at H;simp only;rw[H b (by simp[AV.men])];cases hb:h[b]? with
   | none=>trivial
   | some z=>cases z<;>first|rfl|trivial
  | eptr sh l i o=>rfl
  | mptr c sh l i o=>exact vY (zx _) trivial
  | _=>trivial
 case binOp op t x y r=>exact qqj _ _ _ _ _ (H rfl x (by simp[Op.operands]))
 case unOp=>exact qv9 _ _
 case convert s d x=>exact qpv _ _ _ _ (H rfl x (by simp[Op.operands]))
 case makeFunc fn _ _=>cases fn<;>first|rfl|trivial
 case slice t x lo hi mx=>
  split at hs
  ·rename_i ht;exact qnP ht _ _ _ _
  ·rename_i ht;exact qno ht _ _ _ _
  ·rename_i ht;exact qnn ht _ _ _ (by simpa using hs)
  ·cases hs
 case fieldAddr=>exact qir _ _ _ _
 case field=>exact qqb _ _ _ _
 case indexAddr t x i=>exact qhh _ _ _ _ (H rfl x (by simp[Op.operands]))
 case index=>exact qpd _ _ _ _
 case extract x i=>
  simp only;cases ev x with
  | tuple vs=>simp only;cases vs[i]?<;>first|rfl|trivial
  | _=>trivial
 case call c=>
  obtain⟨callee,args,tys⟩:=c;cases callee with
  | builtin b=>
   cases b<;>first|exact qtU _ _ _ (fun x hx=>by obtain⟨y,hy,rfl⟩:=qyy.1 hx;exact H rfl y (by simpa[Op.operands,Call.operands] using hy))|exact qv0 _ _|(cases hs;done)
  | value x=>simp only at hs;cases hs
  | invoke x n=>simp only at hs;cases hs
end
mutual
theorem qqE{h h':List Blk}:∀(a:AV),Agr h h' a->a.lend h'=a.lend h
 | .vec b,H=>by simp only[AV.lend];rw[H b (by simp[AV.men])]
 | .agg cs,H=>by simp only[AV.lend];rw[kd cs H]
 | .tuple cs,H=>by simp only[AV.lend];rw[kd cs H]
 | .undef,_|.yld,_|.skip,_|.blit _,_|.bool _,_|.ilit _ _,_|.int _ _,_|.str _,_|.nilp,_|.ptr _ _,_|.eptr _ _ _ _,_|.mptr _ _ _ _ _,_|.vptr _ _ _,_|.vsub _ _,_|.aptr _ _ _,_|.asub _ _ _ _ _,_|.bagg _ _ _ _,_|.nils,_|.imm _ _,_|.full _ _,_|.nilf,_|.fn _ _ _,_=>rfl
theorem kd{h h':List Blk}:∀(l:List AV),(∀b,b∈AV.menL l->h'[b]?=h[b]?)->AV.lendL h' l=AV.lendL h l
 | [],_=>rfl
 | a::l,H=>by
  simp only[AV.lendL];rw[qqE a fun b hb=>H b (by simp only[AV.menL];exact qyk _ hb),kd l fun b hb=>H b (by simp only[AV.menL];exact qya _ hb)]
end
theorem qjz:∀(a:AV) (b:Nat),b∈zv a->b∈a.men:=by
 intro a b hb;cases a<;>simp only[zv] at hb<;>first|(cases hb;done)|skip
 case vec c=>simpa[AV.men] using hb
 case agg cs=>
  simp only[AV.men];induction cs with
  | nil=>cases hb
  | cons c cs ih=>
   simp only[AV.menL];simp only[List.filterMap_cons] at hb;cases c<;>simp only at hb<;>first|exact qya _ (ih hb)|skip
   rcases qxP.1 hb with rfl|hb
   ·exact qyk _ (by simp[AV.men])
   ·exact qya _ (ih hb)
theorem qgj {l:List AV}{a:AV}{b:Nat}(ha:a∈l)(hb:b∈a.men):b∈AV.menL l:=by
 induction l with
 | nil=>cases ha
 | cons c l ih=>
  simp only[AV.menL];rcases qxP.1 ha with rfl|ha
  ·exact qyk _ hb
  ·exact qya _ (ih ha)
theorem qgU {h h':List Blk}{f:FuncId}{args:List AV}(H:∀b,b∈AV.menL args->h'[b]?=h[b]?):q5g E h' f args=q5g E h f args:=by
 unfold q5g;cases hf:E.spec.find? fun x=>x.1==f with
 | none=>rfl
 | some G=>
  simp only;have e1:(args.flatMap zv).all (qcs h')=(args.flatMap zv).all (qcs h):=by
   have:∀b,b∈args.flatMap zv->qcs h' b=qcs h b:=by intro b hb;obtain⟨a,ha,hb⟩:=List.mem_flatMap.1 hb;unfold qcs;rw[H b (qgj ha (qjz a b hb))]
   generalize args.flatMap zv=l at this;induction l with
   | nil=>rfl
   | cons b l ih=>simp only[qz6];rw[this b qxM,ih fun b hb=>this b (qxQ _ hb)]
  rw[e1,kd args H]
theorem q3E (E:Env):q2z E (q48 E):=by
 intro h h' f args hs H;unfold q48;unfold qaS at hs;cases hf:E.spec.find? fun x=>x.1==f with
 | none=>rw[hf] at hs;cases hs
 | some G=>simp only;exact qgU H
theorem qlF (E:Env):q2z E qlc:=fun _ _ _ _ _ _=>rfl
theorem qlG {callS:List Blk->q32}(hm:q2z E callS){h h':List Blk}{ev:Operand->AV}{v:AV}{R:List Nat}(hR:qvN E ev op=some R)(H:∀b,b∈R->h'[b]?=h[b]?)(hr:(q7y E (callS h) h ev op).run=some v):(q7y E (callS h') h' ev op).run=some v:=by
 unfold q7y at hr ⊢;split at hr
 ·rename_i x args tys;cases hx:ev x with
  | fn f first caps=>
   rw[hx] at hr;unfold qvN at hR;simp only[qaQ,vr,hx] at hR;cases hf:qaS E f with
   | none=>rw[hf] at hR;cases hR
   | some G=>
    rw[hf] at hR;simp only[qxB] at hR;subst hR;simp only;rw[hm h h' f _ (by rw[hf];rfl) H];exact hr
  | _=>rw[hx] at hr;cases hr
 ·rename_i hno;split at hr
  ·rename_i hst;rw[if_pos hst];obtain⟨r,h1,h2⟩:=bind_some hr;cases h2;have hR':qsC op=true->R=AV.menL (op.operands.toList.map ev):=by
    intro hlk;unfold qvN at hR;have:qaQ op=false:=by
     unfold qaQ;split
     ·rename_i x args tys;exact absurd rfl (hno x args tys)
     ·rfl
    rw[this,hlk] at hR;simpa using hR.symm
   rw[Tree.run_bind,yv.run (qrP (h':=h') hst fun hlk x hx b hb=>H b (by rw[hR' hlk];exact qgj (List.mem_map_of_mem hx) hb)) h1];rfl
  ·cases hr
section
variable {h:List Blk}
theorem qaA:∀(cs:List AV),cs.all qsL=true->q5t h cs=h
 | [],_=>rfl
 | c::cs,hc=>by
  simp only[qz6,qxL] at hc;cases c<;>first|(simp only[q5t];exact qaA cs hc.2)|(cases hc.1)
theorem qrH {ev:Operand->AV}{v:AV}{z:Blk}(hr:(qc3 E h ev op).run=some (v,z)):(qgl E h ev op).run=some (v,h++[z],none):=by
 unfold qc3 at hr;cases op<;>simp only at hr<;>first|(cases hr;done)|skip
 case buildSlice t len parts=>
  unfold qgl;simp only;unfold q3U;cases hd:(E.ty t).d<;>rw[hd] at hr<;>simp only at hr ⊢<;>first|(cases hr;done)|skip
  rename_i e es;split at hr
  ·rename_i hc;rw[if_pos hc];cases hf:q7O (fun i=>some (i*es,es)) ((List.replicate len ((E.ty e).zero.map vh)).flatten) (parts.toList.map fun p=>(p.1,ev p.2)) with
   | none=>rw[hf] at hr;cases hr
   | some cs=>
    cases hs:E.shape 16 e with
    | none=>rw[hf,hs] at hr;cases hr
    | some sh=>
     rw[hf,hs] at hr;simp only at hr ⊢;split at hr
     ·rename_i hl;rw[if_pos hl.1];cases hch:qbK h sh len cs with
      | none=>rw[hch] at hr;cases hr
      | some l=>
       rw[hch] at hr;cases hr;simp only[qaA cs hl.2];rfl
     ·cases hr
  ·cases hr
theorem qlT {f g:Operand->AV}(hfg:∀x∈op.operands.toList,f x=g x):qc3 E h f op=qc3 E h g op:=by
 unfold qc3;cases op<;>simp only
 case buildSlice t len ps=>
  have:(ps.toList.map fun p=>(p.1,f p.2))=ps.toList.map fun p=>(p.1,g p.2):=qyZ fun p hp=>by rw[hfg p.2 (by simp only[Op.operands];exact List.mem_map_of_mem hp)]
  rw[this]
end
end Go.Eng

namespace Go.Eng
variable {B:Base}{E:Env}{X:Ctx}{s:Nat}
mutual
theorem AV.ren_void{s:Nat}:∀av:AV,s∉av.men->av.ren (q7u s)=av
 | .undef,_|.skip,_|.yld,_|.blit _,_|.bool _,_|.ilit _ _,_|.int _ _,_|.str _,_|.nilp,_|.eptr _ _ _ _,_|.mptr _ _ _ _ _,_|.nils,_|.imm _ _,_|.full _ _,_|.nilf,_=>rfl
 | .ptr b _,h=>by simp only[AV.men,qye] at h;simp[AV.ren,q7u,qxS h]
 | .vptr b _ _,h=>by simp only[AV.men,qye] at h;simp[AV.ren,q7u,qxS h]
 | .vsub b _,h=>by simp only[AV.men,qye] at h;simp[AV.ren,q7u,qxS h]
 | .aptr b _ _,h=>by simp only[AV.men,qye] at h;simp[AV.ren,q7u,qxS h]
 | .asub b _ _ _ _,h=>by simp only[AV.men,qye] at h;simp[AV.ren,q7u,qxS h]
 | .vec b,h=>by simp only[AV.men,qye] at h;simp[AV.ren,q7u,qxS h]
 | .fn g first caps,h=>by
  simp only[AV.men,qxY,not_or] at h;simp[AV.ren,AV.renL_void first h.1,AV.renL_void caps h.2]
 | .agg cs,h=>by simp only[AV.men] at h;simp[AV.ren,AV.renL_void cs h]
 | .tuple cs,h=>by simp only[AV.men] at h;simp[AV.ren,AV.renL_void cs h]
 | .bagg cs k n l,h=>by simp only[AV.men] at h;simp[AV.ren,AV.renL_void cs h]
theorem AV.renL_void{s:Nat}:∀l:List AV,s∉AV.menL l->AV.renL (q7u s) l=l
 | [],_=>rfl
 | a::l,h=>by
  simp only[AV.menL,qxY,not_or] at h;simp[AV.renL,AV.ren_void a h.1,AV.renL_void l h.2]
end
theorem Blk.ren_void (k:Blk)(h:s∉k.menB):k.ren (q7u s)=k:=by cases k<;>simp only[Blk.menB,Blk.ren] at h ⊢<;>rw[AV.renL_void _ h]
theorem qeG{s:Nat}:∀l:List (List AV),s∉qdZ l->l.map (AV.renL (q7u s))=l
 | [],_=>rfl
 | a::l,h=>by
  simp only[qdZ,qxY,not_or] at h;simp only[qyp,AV.renL_void a h.1,qeG l h.2]
theorem qgo {s b:Nat}{k:Blk}:∀{h:List Blk},s∉q77 h->h[b]?=some k->s∉k.menB:=by
 intro h;induction h generalizing b with
 | nil=>intro _ hb;simp at hb
 | cons a h ih=>
  intro hs hb;simp only[q77,qxY,not_or] at hs;cases b with
  | zero=>simp only[qyr,qxB] at hb;subst hb;exact hs.1
  | succ b=>exact ih hs.2 (by simpa using hb)
def Ctx.slot(X:Ctx)(s:Nat)(z:Blk)(o:Obj):Ctx:={ σ:=fun b=>if b=s then some X.w.heap.size else X.σ b,h:=X.h.set s z,w:=X.w.alloc o,M:=X.M,kept:=X.kept,y:=X.y }
theorem qgL (hs:HSim B X){z:Blk}{o:Obj}:Move X (X.slot s z o) (q7u s):=by
 refine Move.of (fun _ h=>h) (fun a ha=>qyt (zz _ _ (hs.ltM _ ha))) (fun b b' hb h=>?_);unfold q7u at h;split at h
 ·cases h
 ·rename_i hne;cases h;refine⟨by simpa[Ctx.slot] using hb,by simp[Ctx.slot,hne],fun sh m ⟨e,l,h1,h2⟩=>⟨e,l,?_,h2⟩,fun _ _ _ n hn c T fr hc=>⟨c,T,fr,?_,rfl⟩⟩
  ·have e1:(X.slot s z o).h[b]?=X.h[b]?:=qxD (fun e=>hne e.symm);rw[e1] at h1;exact h1
  ·exact(zz _ _ (qxI.1 hc).1).trans hc
theorem qli (hs:HSim B X){z:Blk}{o:Obj}(hd:X.h[s]?=some .dead)(hmen:s∉q77 X.h)(hz:vD (X.slot s z o) s z):HSim B (X.slot s z o):=by
 have hm:=qgL hs (s:=s) (z:=z) (o:=o);have hsl:=qj hd;have himp:B.imps.length<=s:=by
  rcases qxG s B.imps.length with h|h
  ·obtain⟨k,h1,h2⟩:=hs.impc s h;rw[hd] at h1;cases h1;cases h2
  ·exact h
 have hget:∀b k',(X.slot s z o).h[b]?=some k'->b≠s/\X.h[b]?=some k'\/b=s/\k'=z:=by
  intro b k' h;by_cases hb:b=s
  ·subst hb;have:(X.h.set b z)[b]?=some k':=h;rw[qxN hsl] at this;exact .inr ⟨rfl,(qy6 this).symm⟩
  ·have:(X.h.set s z)[b]?=some k':=h;rw[qxD (fun e=>hb e.symm)] at this;exact .inl ⟨hb,this⟩
 have hσ:∀b,b≠s->(X.slot s z o).σ b=X.σ b:=fun b hb=>by simp[Ctx.slot,hb]
 have hσn:(X.slot s z o).σ s=some X.w.heap.size:=by simp[Ctx.slot]
 have hold:∀n,n<X.w.heap.size->(X.slot s z o).w.heap[n]?=X.w.heap[n]?:=fun n hn=>zz _ _ hn;have hsize:X.w.heap.size<=(X.slot s z o).w.heap.size:=by show _<=(X.w.alloc o).heap.size;simp
 have hown:∀b n,(X.slot s z o).own b n->X.own b n\/b=s/\n=X.w.heap.size:=by
  intro b n ⟨h1,k',h2,h3⟩;rcases hget b k' h2 with⟨hb,h4⟩|⟨rfl,rfl⟩
  ·exact .inl ⟨by rw[<-hσ b hb];exact h1,k',h4,h3⟩
  ·rw[hσn] at h1;exact .inr ⟨rfl,(qy6 h1).symm⟩
 constructor
 ·intro b k' h;rcases hget b k' h with⟨hb,h4⟩|⟨rfl,rfl⟩
  ·by_cases hdd:k'=.dead
   ·subst hdd;trivial
   ·have:=vD.move hm.toMove0 (b':=b) (hσ b hb) (fun n hn=>hold n (hs.lt h4 hdd hn)) (hs.blk b k' h4)
    rwa [Blk.ren_void k' (qgo hmen h4)] at this
  ·exact hz
 ·intro b b' n h h';rcases hown b n h with h1|⟨g1,g2⟩
  ·rcases hown b' n h' with h2|⟨g3,g4⟩
   ·exact hs.inj b b' n h1 h2
   ·exact absurd (Ctx.own.lt hs h1) (by omega)
  ·rcases hown b' _ h' with h2|⟨g3,_⟩
   ·exact absurd (Ctx.own.lt hs h2) (by omega)
   ·rw[g1,g3]
 ·intro b n h hM;rcases hown b n h with h1|⟨g1,g2⟩
  ·exact hs.notM b n h1 hM
  ·exact absurd (hs.ltM _ hM) (by omega)
 ·intro n h;have:=hs.ltM n h;omega
 ·exact hs.M0
 ·exact hs.newM
 ·exact hs.os
 ·exact hs.tape
 ·exact hs.output
 ·have:=hs.size;omega
 ·intro n hn hni;have:=hs.size;rw[hold _ (by omega)];exact hs.frame n hn hni
 ·intro b hb;rw[hσ b (by omega)];exact hs.imps b hb
 ·intro b hb;obtain⟨cs,h,hc⟩:=hs.impc b hb;exact⟨cs,by show (X.h.set s z)[b]?=_;rw[qxD (by omega)];exact h,hc⟩
 ·intro b n h hb;rcases hown b n h with h1|⟨g1,g2⟩
  ·exact hs.fresh b n h1 hb
  ·have:=hs.size;omega
 ·intro p hp;obtain⟨q1,q2,q3⟩:=hs.kept p hp;exact⟨(hold _ (qxI.1 q1).1).trans q1,q2,q3⟩
theorem qqh {P:Program}(hE:E.tok P)(hs:HSim B X){t:TypeId}{z:Blk}(hz:q92 E t=some z)(hd:X.h[s]?=some .dead)(hmen:s∉q77 X.h) :∃o:Obj,((do pure (.value (<-Instr.alloc t true (.tuple #[]))):Sem Next)).run P X.w=.ok (.value (.pointer (some ⟨X.w.heap.size,0,none⟩))) (X.w.alloc o)/\HSim B (X.slot s z o)/\Move X (X.slot s z o) (q7u s) /\Rep (X.slot s z o) (.ptr s 0) (.pointer (some ⟨X.w.heap.size,0,none⟩)):=by
 have hsl:=qj hd;have hptr:∀o,Rep (X.slot s z o) (.ptr s 0) (.pointer (some ⟨X.w.heap.size,0,none⟩)):=fun o=>.ptr _ _ _ (by simpa[Ctx.slot] using hsl) (by simp[Ctx.slot]);unfold q92 at hz;split at hz
 ·rename_i o k n hb;split at hz
  ·cases hz;obtain⟨b1,b2,b3,b4,_⟩:=qbj hb;obtain⟨v,h1,h2,_⟩:=q90 hE (t:=t) (by omega) X.w;refine⟨.cells v.cells t,by simp[Instr.alloc,h1,q5e],qli hs hd hmen ?_,qgL hs,hptr _⟩;exact⟨X.w.heap.size,v.cells,t,(E.ty t).zero.take o,by simp[Ctx.slot],zy _ _,vE _ _,by rw[h2];exact qf1 hb,qgQ _ _⟩
  ·cases hz
 ·split at hz
  ·rename_i hc;cases hz;obtain⟨v,h1,h2,_⟩:=q90 hE (t:=t) (by simpa using hc.2) X.w;refine⟨.cells v.cells t,by simp[Instr.alloc,h1,q5e],qli hs hd hmen ?_,qgL hs,hptr _⟩;exact⟨X.w.heap.size,v.cells,t,by simp[Ctx.slot],zy _ _,by rw[h2];exact vE _ _⟩
  ·cases hz
theorem qkF {P:Program}(hE:E.tok P){st:St}{a:Act}(hs:Sim E B X st a){o:Oper}{t:TypeId}(hop:o.op=.alloc t){z:Blk}(hz:q92 E t=some z)(hd:st.h[s]?=some .dead)(hmen:s∉q77 st.h) (ht:s∉AV.menL st.t) (hf:s∉qdZ st.fs) {next:Act->World->Prop} {Q:Exit->Act->World->Prop}(hq:∀X' v,Sim E B X' { st with h:=st.h.set s z } a->Rep X' (.ptr s 0) v->next (a.put o.dst v) X'.w):o.wp P a X.w next Q:=by
 rw[<-hs.h] at hd hmen;obtain⟨ob,h1,h2,h3,h4⟩:=qqh hE hs.hs hz hd hmen;unfold Oper.wp;have hrun:(execOp a.eval o).run P X.w=.ok (.value (.pointer (some ⟨X.w.heap.size,0,none⟩))) (X.w.alloc ob):=by rw[<-h1];simp only[execOp,hop]
 rw[hrun];refine hq (X.slot s z ob) _ ⟨h2,?_,?_,?_,fun x hx=>?_,h3.kept▸hs.df,hs.ni,h3.y.trans hs.y,fun p hp=>h3.kept▸hs.pin p hp⟩ h4
 ·show X.h.set s z=st.h.set s z;rw[hs.h]
 ·have:=hs.t.ren h3.toMove0
  rwa [AV.renL_void _ ht] at this
 ·have:=hs.fs.ren h3.toMove0
  rwa [qeG _ hf] at this
 ·obtain⟨⟨sh,l,i,off,he⟩,hr⟩:=hs.glob x hx;refine⟨⟨sh,l,i,off,he⟩,hr.move h3.M h3.w ?_⟩;have:=hr.1.ren h3.toMove0;rw[he] at this ⊢;exact this
theorem Sim.pad {st:St}{a:Act}(hs:Sim E B X st a):∃X',X'.w=X.w/\Sim E B X' { st with h:=st.h++[.dead] } a:=by
 have hw:=PushW.same X;have hs1:=HSim.push hs.hs (k:=.dead) hw trivial;have:=hs.ext (Ctx.push_ext hs.hs .dead hw) hs1;refine⟨X.pushW .dead none X.w,rfl,?_⟩;have e:(X.pushW .dead none X.w).h=st.h++[.dead]:=by rw[<-hs.h];rfl
 rw[e] at this;exact this
theorem Sim.padN{E:Env}{B:Base}{a:Act}:∀(n:Nat) {X:Ctx} {st:St},Sim E B X st a->∃X',X'.w=X.w/\Sim E B X' { st with h:=st.h++List.replicate n .dead } a
 | 0,X,st,hs=>⟨X,rfl,by simpa using hs⟩
 | n+1,X,st,hs=>by
  obtain⟨X1,h1,h2⟩:=hs.pad;obtain⟨X2,h3,h4⟩:=Sim.padN n h2;refine⟨X2,h3.trans h1,?_⟩;have e:st.h++[.dead]++List.replicate n .dead=st.h++List.replicate (n+1) .dead:=by simp[qyQ]
  simp only at h4;rw[e] at h4;exact h4
end Go.Eng

namespace Go.Eng
variable {E:Env}{args:List AV}{b:Nat}{h:List Blk}{op:Op}
theorem stL{all:Array Oper}{V:Nat->AV}{T0:List AV}{L L':Nat->Bool}:∀n,(∀j,j<n->L j=L' j)->TLp (jr all) V T0 L n=TLp (jr all) V T0 L' n
 | 0,_=>rfl
 | n+1,h=>by
  simp only[TLp];rw[h n (qyW n),stL n fun j hj=>h j (by omega)]
theorem qml {all:Array Oper}(hd:DrawOk all){listed:Array Bool}(hsz:listed.size=all.size)(h:Region.ready .any all listed=[]):∀i,i<all.size->listed.getD i false=true:=by
 intro i;induction i using Nat.strongRecOn with
 | _ i ih=>
  intro hi;cases hl:listed.getD i false with
  | true=>rfl
  | false=>
   have ho:all[i]?=some all[i]:=qz0 hi;have:i∈Region.ready .any all listed:=by
    rw[mem_ready];refine⟨?_,all[i],ho,fun e he hb=>?_⟩
    ·have hi':i<listed.size:=by omega
     simpa[qyz,hi'] using hl
    ·have hlt:=hd.edge i _ ho e (by simpa using he) hb;exact ih e.on hlt (by omega)
   rw[h] at this;cases this
theorem qff {all:Array Oper}{listed:Array Bool}{i:Nat}{o:Oper}(hsz:listed.size=all.size)(ho:all[i]?=some o)(hc:qfQ all fun j=>listed.getD j false)(hedge:∀e,e∈o.after.toList->Region.binds .any e=true->listed.getD e.on false=true):qfQ all fun j=>(listed.setIfInBounds i true).getD j false:=by
 have hi:i<listed.size:=by rw[hsz];exact(qxI.1 ho).1
 intro j oj hj hL e he hb;show (listed.setIfInBounds i true).getD e.on false=true;rw[uv hi];split
 ·rfl
 ·by_cases hji:j=i
  ·subst hji;rw[ho] at hj;cases hj;exact hedge e he hb
  ·have hL':(listed.setIfInBounds i true).getD j false=true:=hL;rw[uv hi,if_neg hji] at hL';exact hc j oj hj hL' e he hb
theorem q5h {b c:Nat}(hb:b≠c):(zm h c)[b]?=h[b]?:=by
 unfold zm;split
 ·rw[qxD (fun e=>hb e.symm)]
 ·rfl
theorem q97{b:Nat}:∀(l:List Nat) (h:List Blk),b∉l->(qx h l)[b]?=h[b]?
 | [],_,_=>rfl
 | c::l,h,hb=>by
  simp only[qxP,not_or] at hb;simp only[qx];rw[q97 l _ hb.2,q5h hb.1]
theorem qeT{b:Nat}:∀(l:List Nat) (h:List Blk),b∉l->(q6w h l)[b]?=h[b]?
 | [],_,_=>rfl
 | c::l,h,hb=>by
  simp only[qxP,not_or] at hb;simp only[q6w];split
  ·rw[qeT l _ hb.2,qxD (fun e=>hb.1 e.symm)]
  ·exact qeT l _ hb.2
theorem qgM{b:Nat}:∀(l:List Nat) (h:List Blk) (ks:List Blk) (h':List Blk),uz h l ks=some h'->b∉l->h'[b]?=h[b]?
 | [],h,ks,h',hp,_=>by cases ks<;>(simp only[uz,qxB] at hp;rw[hp])
 | c::l,h,[],h',hp,_=>by simp[uz] at hp
 | c::l,h,k::ks,h',hp,hb=>by
  simp only[qxP,not_or] at hb;simp only[uz] at hp;split at hp
  ·cases hq:uz h l ks with
   | none=>rw[hq] at hp;cases hp
   | some h2=>
    rw[hq] at hp;simp only[qy0,qxB] at hp;rw[<-hp,qxD (fun e=>hb.1 e.symm)];exact qgM l h ks h2 hq hb.2
  ·cases hp
theorem qbs{b:Nat}:∀(l:List Nat),b∈qd3 l->b∈l
 | [],h=>h
 | a::l,h=>by
  simp only[qd3] at h;split at h
  ·exact qxQ _ (qbs l h)
  ·rcases qxP.1 h with rfl|h
   ·exact qxM
   ·exact qxQ _ (qbs l h)
mutual
theorem qtg:∀(a:AV) (h h':List Blk),(a.lend h).men=(a.lend h').men
 | .vec b,h,h'=>by
  have:∀h,((AV.vec b).lend h).men=[]:=fun h=>by simp only[AV.lend];split<;>rfl
  rw[this,this]
 | .agg cs,h,h'=>by simp only[AV.lend,AV.men];exact qdW cs h h'
 | .tuple cs,h,h'=>by simp only[AV.lend,AV.men];exact qdW cs h h'
 | .undef,_,_|.yld,_,_|.skip,_,_|.blit _,_,_|.bool _,_,_|.ilit _ _,_,_|.int _ _,_,_|.str _,_,_|.nilp,_,_|.ptr _ _,_,_|.eptr _ _ _ _,_,_|.mptr _ _ _ _ _,_,_|.vptr _ _ _,_,_|.vsub _ _,_,_|.aptr _ _ _,_,_|.asub _ _ _ _ _,_,_|.bagg _ _ _ _,_,_|.nils,_,_|.imm _ _,_,_|.full _ _,_,_|.nilf,_,_|.fn _ _ _,_,_=>rfl
theorem qdW:∀(l:List AV) (h h':List Blk),AV.menL (AV.lendL h l)=AV.menL (AV.lendL h' l)
 | [],_,_=>rfl
 | a::l,h,h'=>by simp only[AV.lendL,AV.menL];rw[qtg a h h',qdW l h h']
end
theorem qiP {G:wk}{st:St}{r:AV×St}(h:(uC G args st).run=some r)(hb:b<st.h.length)(hw:b∉qfN st.h args):r.2.h[b]?=st.h[b]?:=by
 unfold uC at h;unfold qfN at hw;simp only[qxY,not_or] at hw;obtain⟨⟨w1,w2⟩,w3⟩:=hw;have hpre:(wj st.h args)[b]?=st.h[b]?:=by unfold wj;simp only;rw[qeT _ _ w3,q97 _ _ w2,q97 _ _ w1]
 simp only at h;split at h
 ·cases h
 ·obtain⟨r0,h1,h2⟩:=bind_some h;split at h2
  ·cases h2
  ·rename_i hput;cases h2;have hfp:b∉qd3 (AV.menL (AV.lendL (wj st.h args) args)):=by intro hm;have hm:=qbs _ hm;rw[qdW args (wj st.h args) (qx st.h (args.flatMap zv))] at hm;exact w3 hm
   have:=qgM _ _ _ _ hput hfp;rw[hpre] at this;have hl:st.h[b]?=some st.h[b]:=qxO hb;rw[hl] at this;rw[qxK (qj this),this,hl]
theorem qkZ {ev:Operand->AV}{q:FuncId×List AV}(h:vr ev op=some q):qaQ op=true/\∃x args tys first caps,op=.call { callee:=.value x,args:=args,argTypes:=tys }/\ev x=.fn q.1 first caps/\q.2=first++args.toList.map ev++caps:=by
 unfold vr at h;split at h
 ·rename_i x args tys;split at h
  ·rename_i f first caps hx
   cases h;exact⟨rfl,x,args,tys,first,caps,rfl,hx,rfl⟩
  ·cases h
 ·cases h
theorem brR {α:Type}{b:Bool}{t:Tree α}{r:α}(h:(Tree.br b t .fail).run=some r):b=true/\t.run=some r:=by
 cases b
 ·cases h
 ·exact⟨rfl,h⟩
theorem vW:∀(l:List Nat) (h:List Blk),(qx h l).length=h.length
 | [],_=>rfl
 | c::l,h=>by
  simp only[qx];rw[vW l];unfold zm;split<;>simp
theorem ql2 (hb:b∈args.flatMap zv):b∈AV.menL args:=by obtain⟨a,ha,hb⟩:=List.mem_flatMap.1 hb;exact qgj ha (qjz a b hb)
theorem qrp {h h':List Blk}{s:Sh}{a:AV}(hv:qsL a=true):toU h s a=toU h' s a:=by cases a<;>first|(cases hv;done)|(cases s<;>rfl)
theorem qeY{h h':List Blk}:∀(sh:List Sh) (azz:List AV),azz.all qsL=true->qgq h sh azz=qgq h' sh azz
 | [],[],_=>rfl
 | [],_::_,_=>rfl
 | _::_,[],_=>rfl
 | s::sh,a::azz,hv=>by
  simp only[qz6,qxL] at hv;simp only[qgq];rw[qrp (h':=h') hv.1,qeY (h':=h') sh azz hv.2]
theorem qtG {p:AV->Bool}{l:List AV}(h:l.all p=true)(n:Nat):(l.take n).all p=true:=by rw[qxV] at h ⊢;exact fun x hx=>h x (qzg hx)
theorem qu1 {p:AV->Bool}{l:List AV}(h:l.all p=true)(n:Nat):(l.drop n).all p=true:=by rw[qxV] at h ⊢;exact fun x hx=>h x (qzh hx)
theorem qhV{h h':List Blk}{sh:List Sh}:∀(n:Nat) (cs:List AV),cs.all qsL=true->qbK h sh n cs=qbK h' sh n cs
 | 0,[],_=>rfl
 | 0,_::_,_=>rfl
 | n+1,cs,hv=>by
  simp only[qbK];rw[qeY (h':=h') _ _ (qtG hv _),qhV (h':=h') n _ (qu1 hv _)]
theorem qmh {t:TypeId}{p v:AV}{r:Res}(hr:(yE E h t p v).run=some r) :∃b x,p.men=[b]/\r=(.skip,h.set b x,none)/\∀h',h'[b]?=h[b]?->(yE E h' t p v).run=some (.skip,h'.set b x,none):=by
 have plain:∀{p:AV} {r:Res},(q8X E h t p v).run=some r->∃b x,p.men=[b]/\r=(.skip,h.set b x,none)/\∀h',h'[b]?=h[b]?->(q8X E h' t p v).run=some (.skip,h'.set b x,none):=by
  intro p r hr;unfold q8X at hr;simp only at hr;split at hr
  case isFalse=>cases hr
  rename_i hc;cases p<;>simp only at hr<;>first|(cases hr;done)|skip
  case ptr b off=>
   split at hr
   case h_2=>cases hr
   split at hr
   case isFalse=>cases hr
   rename_i cs hb hc2;cases hr;refine⟨b,_,rfl,rfl,fun h' e=>?_⟩;unfold q8X;simp only;rw[if_pos hc,e,hb];simp only;rw[if_pos hc2];rfl
  case vptr b i off=>
   split at hr
   case h_2=>cases hr
   split at hr
   case isFalse=>cases hr
   split at hr
   case h_2=>cases hr
   rename_i e0 sh l hb hm _ us hu;cases hr;refine⟨b,_,rfl,rfl,fun h' e=>?_⟩;unfold q8X;simp only;have hu':qgq h' ((sh.drop off).take v.cells.length) v.cells=some us:=by
    rw[<-hu];refine qeY _ _ (qxV.2 fun x hx=>?_);cases x<;>first|rfl|skip
    rename_i b';exact absurd (qgj hx (b:=b') (by simp[AV.men])) (by rw[List.isEmpty_iff.1 hm];simp)
   rw[if_pos hc,e,hb];simp only;rw[if_pos hm,hu'];rfl
 unfold yE at hr;split at hr
 ·rename_i b off;split at hr
  ·rename_i cs k n l hb;unfold qkg at hr;split at hr
   ·split at hr
    case isFalse=>cases hr
    rename_i hc;cases hr;refine⟨b,_,rfl,rfl,fun h' e=>?_⟩;unfold yE;simp only[e,hb];unfold qkg;simp only;rw[if_pos hc];rfl
   ·rename_i hno;split at hr
    case isFalse=>cases hr
    rename_i hc;have fin:∀(x:Blk),(qkg E h t b off cs k n l v).run=some (.skip,h.set b x,none)->(∀h':List Blk,(qkg E h' t b off cs k n l v).run=some (.skip,h'.set b x,none))->∃b_1 x_1,(AV.ptr b off).men=[b_1]/\((AV.skip,h.set b x,none):Res)=(.skip,h.set b_1 x_1,none)/\∀h',h'[b_1]?=h[b_1]?->(yE E h' t (.ptr b off) v).run=some (.skip,h'.set b_1 x_1,none):=by intro x _ h2;refine⟨b,x,rfl,rfl,fun h' e=>?_⟩;unfold yE;simp only[e,hb];exact h2 h'
    split at hr
    ·rename_i hle;cases hr;refine⟨b,_,rfl,rfl,fun h' e=>?_⟩;unfold yE;simp only[e,hb];unfold qkg;cases v<;>first|exact absurd rfl (hno _ _ _ _)|(simp only;rw[if_pos hc,hle];rfl)
    ·rename_i hle;split at hr
     case h_2=>cases hr
     split at hr
     case isFalse=>cases hr
     rename_i k' x hx hc2;cases hr;refine⟨b,_,rfl,rfl,fun h' e=>?_⟩;unfold yE;simp only[e,hb];unfold qkg;cases v<;>first|exact absurd rfl (hno _ _ _ _)|(simp only;rw[if_pos hc,hle];simp only[hx];rw[if_pos hc2];rfl)
  ·rename_i hno;obtain⟨b',x,h1,h2,h3⟩:=plain hr;refine⟨b',x,h1,h2,fun h' e=>?_⟩;simp only[AV.men,qyF,and_true] at h1;subst h1;unfold yE;simp only;rw[e];split
   ·rename_i cs k n l hb;exact absurd hb (hno _ _ _ _)
   ·exact h3 h' e
 ·rename_i b o i;split at hr
  case h_2=>cases hr
  split at hr
  case h_2=>cases hr
  split at hr
  case isFalse=>cases hr
  rename_i cs k n l hb _ k' x hx hc;obtain⟨g1,g2⟩:=brR hr;cases g2;refine⟨b,_,rfl,rfl,fun h' e=>?_⟩;unfold yE;simp only[e,hb,hx];rw[if_pos hc];simp only[Tree.run,g1]
 ·rename_i hn1 hn2;obtain⟨b',x,h1,h2,h3⟩:=plain hr;refine⟨b',x,h1,h2,fun h' e=>?_⟩;unfold yE;split
  ·rename_i b off;exact absurd rfl (hn1 _ _)
  ·rename_i b o i;exact absurd rfl (hn2 _ _ _)
  ·exact h3 h' e
theorem qhk {h h':List Blk}{ev:Operand->AV}{v:AV}(hr:(qep E h ev op).run=some (v,h'))(hb:b<h.length)(hw:b∉qnV h ev op):h'[b]?=h[b]?:=by
 unfold qep at hr;unfold qnV at hw;cases hc:vr ev op with
 | some q=>
  obtain⟨f,args⟩:=q;rw[hc] at hr hw;simp only at hr hw;cases hs:qaS E f with
  | none=>rw[hs] at hr;cases hr
  | some G=>
   rw[hs] at hr;obtain⟨r,h1,h2⟩:=bind_some hr;cases h2;exact qiP (st:={ t:=[],fs:=[],h:=h,pend:=none }) h1 hb hw
 | none=>
  rw[hc] at hr hw;simp only at hr hw;cases hst:qfk op with
  | true=>
   rw[hst] at hr;obtain⟨r,h1,h2⟩:=bind_some hr;cases op<;>first|(cases hst;done)|skip
   rename_i t x y;simp only at hw;obtain⟨b',z,q1,rfl,_⟩:=qmh (show (yE E h t (ev x) (ev y)).run=some r from h1);cases h2;rw[q1] at hw;exact qxD (fun e=>hw (by simp[e]))
  | false=>rw[hst] at hr;cases hr
theorem qiM {f g:Operand->AV}(hfg:∀x∈op.operands.toList,f x=g x):vr f op=vr g op:=by
 unfold vr;split
 ·rename_i x args tys;rw[hfg x (by simp[Op.operands,Call.operands])];have:args.toList.map f=args.toList.map g:=qyZ fun y hy=>hfg y (by simp only[Op.operands,Call.operands,qzb];exact qya _ hy);rw[this]
 ·rfl
theorem qgA {f g:Operand->AV}(hfg:∀x∈op.operands.toList,f x=g x):qe2 E h f op=qe2 E h g op/\qep E h f op=qep E h g op:=by
 have hc:=qiM hfg;constructor
 ·unfold qe2;rw[hc]
 ·unfold qep;rw[hc];cases vr g op with
  | some q=>rfl
  | none=>
   simp only;cases hs:qfk op with
   | true=>
    cases op<;>first|(cases hs;done)|skip
    rename_i t x y;have e:qgl E h f (.store t x y)=qgl E h g (.store t x y):=by unfold qgl;simp only;rw[hfg x (by simp[Op.operands]),hfg y (by simp[Op.operands])]
    simp only[e]
   | false=>rfl
theorem qnL {P:Program}(hE:E.tok P)(hS:E.specs P){B:Base}{X:Ctx}{st:St}{a:Act}(hs:Sim E B X st a){o:Oper}{av:AV}{h':List Blk}(h:(qep E st.h (E.opd st.t) o.op).run=some (av,h')) {next:Act->World->Prop} {Q:Exit->Act->World->Prop}(hq:∀X' v,Sim E B X' { st with h:=h' } a->Rep X' av v->next (a.put o.dst v) X'.w):o.wp P a X.w next Q/\∀c,o.op≠.defer c:=by
 unfold qep at h;cases hcl:vr (E.opd st.t) o.op with
 | some q=>
  obtain⟨f,aargs⟩:=q;rw[hcl] at h;simp only at h;obtain⟨_,x,args,tys,first,caps,hop,hx,ha⟩:=qkZ hcl;simp only at hx ha;refine⟨?_,fun c hc=>by rw[hop] at hc;cases hc⟩;cases hsp:qaS E f with
  | none=>rw[hsp] at h;cases h
  | some G=>
   rw[hsp] at h;obtain⟨r,h1,h2⟩:=bind_some h;simp only[Tree.run,qxB,qxX] at h2;obtain⟨rfl,rfl⟩:=h2;unfold qaS at hsp;cases hf:E.spec.find? fun x=>x.1==f with
   | none=>rw[hf] at hsp;cases hsp
   | some G'=>
    rw[hf] at hsp;simp only[qy0,qxB] at hsp;subst hsp;have hG:=hS.sp G' (qyi hf);have hfe:G'.1=f:=by simpa using qyv hf
    rw[hfe] at hG;have hv:=q4d hs x;rw[hx] at hv;generalize hev:a.eval x=vx at hv;cases hv with
    | fn _ _ _ vf vc q1 q2=>
     have hargs:=q12 hs args.toList;have hall:RepL X aargs (vf++args.toList.map a.eval++vc):=by rw[ha];exact(q1.append hargs).append q2
     have hcs:(uC G'.2 aargs st).run=some (r.1,{ st with h:=r.2.h }):=by
      unfold uC at h1 ⊢;simp only at h1 ⊢;split at h1
      ·cases h1
      ·obtain⟨r0,k1,k2⟩:=bind_some h1;rw[Tree.run_bind,k1];simp only[qy3];split at k2
       ·cases k2
       ·cases k2;rfl
     have g2:=q3I hG hs hall hcs;have g1:=hG.1 (vf++args.toList.map a.eval++vc).toArray;unfold Oper.wp;have hrun:(execOp a.eval o).run P X.w=.ok (.enter f (vf++args.toList.map a.eval++vc).toArray) X.w:=by
      simp only[execOp,hop,resolve,hev,Deferred.ofValue,qxF,qxW,qxH,invoke];have:vf.toArray++args.map a.eval++vc.toArray=(vf++args.toList.map a.eval++vc).toArray:=by apply qyo;simp
      rw[this];exact g1 X.w
     rw[hrun];refine g2.mono fun e w' ⟨v,X',e1,e2,e3,e4⟩=>?_;subst e1 e2;exact hq X' _ e4 e3
 | none=>
  rw[hcl] at h;simp only at h;have hop:(qgl E st.h (E.opd st.t) o.op).run=some (av,h',none)/\∀c,o.op≠.defer c:=by
   cases hst:qfk o.op with
   | true=>
    rw[hst] at h;obtain⟨r,h1,h3⟩:=bind_some h;refine⟨?_,fun c hc=>by rw[hc] at hst;cases hst⟩;split at h3
    ·rename_i hn;simp only[Tree.run,qxB,qxX] at h3;rw[h1];obtain⟨r1,r2,r3⟩:=r;simp only at hn h3;rw[hn,h3.1,h3.2]
    ·cases h3
   | false=>rw[hst] at h;cases h
  refine⟨?_,hop.2⟩;obtain⟨nx,v,X',g1,g2,g3,g4,g5⟩:=qdR hE hs hop.1;have hs2:Sim E B X' { st with h:=h' } a:=by have:=hs.ext g5.2 g4;rw[g5.1] at this;exact this
  unfold Oper.wp;rw[g1];rcases g2 with rfl|⟨rfl,rfl⟩
  ·exact hq X' _ hs2 g3
  ·exact hq X' _ hs2 g3
mutual
theorem qtj:∀(a:AV) (h:List Blk) (b:Nat),b∈(a.lend h).men->b∈a.men
 | .vec c,h,b,hb=>by
  simp only[AV.lend] at hb;split at hb<;>cases hb
 | .agg cs,h,b,hb=>by simp only[AV.lend,AV.men] at hb ⊢;exact q84 cs h b hb
 | .tuple cs,h,b,hb=>by simp only[AV.lend,AV.men] at hb ⊢;exact q84 cs h b hb
 | .undef,_,_,hb|.yld,_,_,hb|.skip,_,_,hb|.blit _,_,_,hb|.bool _,_,_,hb|.ilit _ _,_,_,hb|.int _ _,_,_,hb|.str _,_,_,hb|.nilp,_,_,hb|.ptr _ _,_,_,hb|.eptr _ _ _ _,_,_,hb|.mptr _ _ _ _ _,_,_,hb|.vptr _ _ _,_,_,hb|.vsub _ _,_,_,hb|.aptr _ _ _,_,_,hb|.asub _ _ _ _ _,_,_,hb|.bagg _ _ _ _,_,_,hb|.nils,_,_,hb|.imm _ _,_,_,hb|.nilf,_,_,hb|.fn _ _ _,_,_,hb=>hb
theorem q84:∀(l:List AV) (h:List Blk) (b:Nat),b∈AV.menL (AV.lendL h l)->b∈AV.menL l
 | [],_,_,hb=>hb
 | a::l,h,b,hb=>by
  simp only[AV.lendL,AV.menL,qxY] at hb ⊢;exact hb.imp (qtj a h b) (q84 l h b)
end
theorem q9R {h h':List Blk}{s c:Nat}{k:Blk}(hl:h'.length=h.length)(hc:c≠s->h'[c]?=h[c]?):(h'.set s k)[c]?=(h.set s k)[c]?:=by
 by_cases e:c=s
 ·subst e;simp only[qzl,if_true,hl]
 ·rw[qxD (fun e'=>e e'.symm),qxD (fun e'=>e e'.symm)];exact hc e
theorem qpY {h h':List Blk}{b c:Nat}(hl:h'.length=h.length)(hc:h'[c]?=h[c]?):(zm h' b)[c]?=(zm h b)[c]?:=by
 by_cases e:c=b
 ·subst e;unfold zm;rw[hc];split
  ·exact q9R hl fun h=>absurd rfl h
  ·exact hc
 ·rw[q5h e,q5h e,hc]
theorem qbp{c:Nat}:∀(l:List Nat) (h h':List Blk),h'.length=h.length->h'[c]?=h[c]?->(qx h' l)[c]?=(qx h l)[c]?
 | [],_,_,_,hc=>hc
 | b::l,h,h',hl,hc=>qbp l _ _ (by have:=vW [b] h;have:=vW [b] h';simp only[qx] at *;omega) (qpY hl hc)
theorem qo4{p q:Nat->Bool}:∀{l:List Nat},(∀b,b∈l->p b=q b)->l.all p=l.all q
 | [],_=>rfl
 | a::l,h=>by simp only[qz6];rw[h a qxM,qo4 fun b hb=>h b (qxQ _ hb)]
theorem qdK{b:Nat}{cs:List AV}:∀(l:List Nat) (h:List Blk),(qx h l)[b]?=some (.cells cs)->h[b]?=some (.cells cs)
 | [],_,hc=>hc
 | a::l,h,hc=>by
  have:=qdK l _ hc;by_cases e:b=a
  ·subst e;unfold zm at this;split at this
   ·rename_i hk;rw[qxN (qj hk)] at this;cases this
   ·exact this
  ·rwa [q5h e] at this
theorem qee{h:List Blk}{b c:Nat}{k:Blk}(hk:h[b]?=some k)(hc:c∈k.menB):∀(l:List Nat),b∈l->c∈qnK h l
 | a::l,hb=>by
  simp only[qnK,qxY];rcases qxP.1 hb with rfl|hb
  ·rw[hk];exact .inl hc
  ·exact .inr (qee hk hc l hb)
theorem qid{h h':List Blk}:∀(l:List Nat),(∀b,b∈l->h'[b]?=h[b]?)->q3K h' l=q3K h l
 | [],_=>rfl
 | b::l,H=>by
  simp only[q3K];rw[H b qxM,qid l fun c hc=>H c (qxQ _ hc)]
theorem qgE{h h':List Blk}:∀(l:List Nat),(∀b,b∈l->h'[b]?=h[b]?)->q2x h' l=q2x h l
 | [],_=>rfl
 | b::l,H=>by
  simp only[q2x];rw[H b qxM,qgE l fun c hc=>H c (qxQ _ hc)]
theorem qj6{h h':List Blk}(hl:h'.length=h.length):∀(l:List Nat) (ks g:List Blk),uz h l ks=some g->g.length=h.length/\∃g':List Blk,uz h' l ks=some g'/\g'.length=h.length/\∀c:Nat,h'[c]?=h[c]?->g'[c]?=g[c]?
 | [],_,g,hg=>by cases hg;exact⟨rfl,h',rfl,hl,fun _ h=>h⟩
 | b::l,[],g,hg=>by cases hg
 | b::l,k::ks,g,hg=>by
  simp only[uz] at hg ⊢;split at hg
  case isFalse=>cases hg
  rename_i hk;cases hp:uz h l ks with
  | none=>rw[hp] at hg;cases hg
  | some g0=>
   rw[hp] at hg;simp only[qy0,qxB] at hg;subst hg;obtain⟨q0,g',q1,q2,q3⟩:=qj6 hl l ks g0 hp;refine⟨by simp[q0],g'.set b k,by rw[if_pos hk,q1];rfl,by simp[q2],fun c hc=>q9R (by rw[q0,q2]) fun _=>q3 c hc⟩
theorem qbo:∀(l:List Nat) (h:List Blk),(q6w h l).length=h.length
 | [],_=>rfl
 | b::l,h=>by
  simp only[q6w];split
  ·rw[qbo l];simp
  ·rw[qbo l]
theorem qem{R:List Nat}:∀(l:List Nat) (h h':List Blk),h'.length=h.length->(∀b,b∈R->h'[b]?=h[b]?)->(∀b,b∈l->b∈R/\∀cs,h[b]?=some (.cells cs)->∀c,c∈AV.menL cs->c∈R) ->
  ∀b,b∈R->(q6w h' l)[b]?=(q6w h l)[b]?
 | [],_,_,_,H,_=>H
 | a::l,h,h',hl,H,hR=>by
  obtain⟨ha,hcs⟩:=hR a qxM;have hR':=fun b hb=>hR b (qxQ _ hb);simp only[q6w];rw[H a ha];cases hk:h[a]? with
  | none=>exact qem l h h' hl H hR'
  | some k=>
   cases k<;>simp only<;>first|exact qem l h h' hl H hR'|skip
   rename_i cs;have hm:=hcs cs hk;rw[kd cs fun c hc=>H c (hm c hc)];refine qem l _ _ (by simp[hl]) (fun b hb=>q9R hl fun _=>H b hb) fun b hb=>⟨(hR' b hb).1,fun cs' hcs' c hc=>?_⟩;by_cases e:b=a
   ·subst e;rw[qxN (qj hk)] at hcs';cases hcs';exact hm c (q84 cs h c hc)
   ·rw[qxD (fun e'=>e e'.symm)] at hcs';exact(hR' b hb).2 cs' hcs' c hc
theorem qnZ {G:wk}{h h':List Blk}{R:List Nat}(hl:h'.length=h.length)(H:∀b,b∈R->h'[b]?=h[b]?)(h1:∀b,b∈AV.menL args->b∈R)(h2:∀b,b∈qnK (qx h (args.flatMap zv)) (AV.menL (AV.lendL (qx h (args.flatMap zv)) args))->b∈R) {r:AV×St} (hr:(uC G args { t:=[],fs:=[],h:=h,pend:=none }).run=some r) :qfN h' args=qfN h args/\∃g',(uC G args { t:=[],fs:=[],h:=h',pend:=none }).run=some (r.1,{ t:=[],fs:=[],h:=g',pend:=none })/\g'.length=r.2.h.length/\∀b,b∈R->b<h.length->g'[b]?=r.2.h[b]?:=by
 have l1:(qx h' (args.flatMap zv)).length=(qx h (args.flatMap zv)).length:=by rw[vW,vW,hl]
 have H1:∀b,b∈R->(qx h' (args.flatMap zv))[b]?=(qx h (args.flatMap zv))[b]?:=fun b hb=>qbp _ _ _ hl (H b hb);have e1:AV.lendL (qx h' (args.flatMap zv)) args=AV.lendL (qx h (args.flatMap zv)) args:=kd args fun b hb=>H1 b (h1 b hb);have hfp:∀b,b∈AV.menL (AV.lendL (qx h (args.flatMap zv)) args)->b∈R:=fun b hb=>h1 b (q84 args _ b hb);have e2:=qid (h:=qx h (args.flatMap zv)) (h':=qx h' (args.flatMap zv)) _ fun b hb=>H1 b (hfp b hb);have hw:qfN h' args=qfN h args:=by unfold qfN;simp only[e1,e2]
 have Hp:∀b,b∈R->(wj h' args)[b]?=(wj h args)[b]?:=by unfold wj;simp only[e1,e2];refine qem _ _ _ (by simp only[vW,hl]) (fun b hb=>qbp _ _ _ l1 (H1 b hb)) fun b hb=>⟨hfp b hb,fun cs hcs c hc=>?_⟩;refine h2 c (qee (k:=.cells cs) (b:=b) ?_ hc _ hb);exact qdK _ _ hcs
 have lp:(wj h' args).length=(wj h args).length:=by unfold wj;simp only[qbo,vW,hl]
 refine⟨hw,?_⟩;unfold uC at hr ⊢;simp only at hr ⊢;have e3:AV.lendL (wj h' args) args=AV.lendL (wj h args) args:=kd args fun b hb=>Hp b (h1 b hb);have hfp2:∀b,b∈qd3 (AV.menL (AV.lendL (wj h args) args))->b∈R:=fun b hb=>h1 b (q84 args _ b (qbs _ hb));rw[e3,qgE _ fun b hb=>Hp b (hfp2 b hb),lp];split at hr
 ·cases hr
 ·obtain⟨r0,k1,k2⟩:=bind_some hr;split at k2
  ·cases k2
  ·rename_i g hput;cases k2;obtain⟨q0,g',q1,q2,q3⟩:=qj6 lp _ _ _ hput;refine⟨g'++(r0.2.drop (qd3 (AV.menL (AV.lendL (wj h args) args))).length).map (Blk.ren (qfT (qd3 (AV.menL (AV.lendL (wj h args) args))) (wj h args).length)),?_,?_,fun b hb hbl=>?_⟩
   ·rw[Tree.run_bind,k1];simp only[qy3,q1];rfl
   ·simp[q2,q0]
   ·have hbg:b<g.length:=by rw[q0];unfold wj;simp only[qbo,vW];exact hbl
    rw[qxK (by rw[q2,<-q0];exact hbg),qxK hbg];exact q3 b (Hp b hb)
theorem qn9 {h h' g:List Blk}{ev:Operand->AV}{v:AV}(hr:(qep E h ev op).run=some (v,g))(hl:h'.length=h.length)(H:∀b,b∈qsh h ev op++qnV h ev op->h'[b]?=h[b]?)(hg:g.length=h.length) :∃g',(qep E h' ev op).run=some (v,g')/\g'.length=h'.length/\(∀b,b∈qnV h ev op->g'[b]?=g[b]?)/\∀b,b∉qnV h ev op->g'[b]?=h'[b]?:=by
 have out:∀{h g:List Blk},(qep E h ev op).run=some (v,g)->g.length=h.length->∀b,b∉qnV h ev op->g[b]?=h[b]?:=by
  intro h g hr hg b hb;rcases qxG b h.length with hlt|hge
  ·exact qhk hr hlt hb
  ·rw[qxR hge,qxR (by omega)]
 suffices hs:qnV h' ev op=qnV h ev op/\∃g',(qep E h' ev op).run=some (v,g')/\g'.length=g.length/\∀b,b∈qnV h ev op->g'[b]?=g[b]? by obtain⟨e,g',q1,q2,q3⟩:=hs;refine⟨g',q1,by omega,q3,fun b hb=>out q1 (by omega) b (by rw[e];exact hb)⟩
 unfold qep at hr ⊢;unfold qsh qnV at H;unfold qnV;cases hc:vr ev op with
 | some q=>
  obtain⟨f,args⟩:=q;rw[hc] at hr H;simp only at hr H ⊢;cases hsp:qaS E f with
  | none=>rw[hsp] at hr;cases hr
  | some G=>
   rw[hsp] at hr;simp only at hr ⊢;obtain⟨r,k1,k2⟩:=bind_some hr;simp only[Tree.run,qxB,qxX] at k2;obtain⟨rfl,rfl⟩:=k2;obtain⟨e,g',q1,q2,q3⟩:=qnZ hl H (fun b hb=>qyk _ (qyk _ hb)) (fun b hb=>qyk _ (qya _ hb)) k1;refine⟨e,g',by rw[Tree.run_bind,q1];rfl,q2,fun b hb=>?_⟩;rcases qxG b h.length with hlt|hge
   ·exact q3 b (qya _ hb) hlt
   ·rw[qxR (by omega),qxR (by omega)]
 | none=>
  rw[hc] at hr H;simp only at hr H ⊢;cases hst:qfk op with
  | false=>rw[hst] at hr;cases hr
  | true=>
   rw[hst] at hr;simp only at hr ⊢;obtain⟨r,k1,k2⟩:=bind_some hr;cases op<;>first|(cases hst;done)|skip
   rename_i t x y;obtain⟨b',z,q1,rfl,q3⟩:=qmh (show (yE E h t (ev x) (ev y)).run=some r from k1);simp only[Tree.run,qxB,qxX] at k2;obtain⟨rfl,rfl⟩:=k2;refine⟨trivial,h'.set b' z,?_,by simp[hl],fun b hb=>q9R hl fun _=>H b (qya _ hb)⟩;rw[Tree.run_bind];have:=q3 h' (H b' (qya _ (by simp only;rw[q1];exact List.mem_singleton_self _)));unfold qgl;simp only;rw[this];rfl
theorem qtB {h h':List Blk}{ev:Operand->AV}(he:qe2 E h ev op=true)(H:∀b,b∈qsh h ev op++qnV h ev op->h'[b]?=h[b]?):qe2 E h' ev op=true:=by
 unfold qe2 at *;unfold qsh at H;cases hv:qaQ op with
 | false=>rw[hv] at he;exact he
 | true=>
  rw[hv] at he;simp only at he ⊢;cases hc:vr ev op with
  | none=>rw[hc] at he;cases he
  | some q=>
   obtain⟨f,args⟩:=q;rw[hc] at he H;simp only at he H ⊢;have hm:∀b,b∈AV.menL args->h'[b]?=h[b]?:=fun b hb=>H b (qyk _ (qyk _ hb));rw[kd args hm];have:(args.flatMap zv).all (qcs h')=(args.flatMap zv).all (qcs h):=qo4 fun b hb=>by unfold qcs;rw[hm b (ql2 hb)]
   rw[this];exact he
end Go.Eng

namespace Go.Eng
theorem qmw{s:Nat}:∀(l:List AV) (i:Nat) (v:AV),s∉AV.menL l->s∉v.men->s∉AV.menL (l.set i v)
 | [],_,_,h,_=>by simpa using h
 | a::l,0,v,h,hv=>by
  simp only[AV.menL,qxY,not_or] at h;simp only[List.set_cons_zero,AV.menL,qxY,not_or];exact⟨hv,h.2⟩
 | a::l,i+1,v,h,hv=>by
  simp only[AV.menL,qxY,not_or] at h;simp only[List.set_cons_succ,AV.menL,qxY,not_or];exact⟨h.1,qmw l i v h.2 hv⟩
theorem qsq{dst:Nat->Option Tmp}{V:Nat->AV}{T0:List AV}{L:Nat->Bool}{s:Nat}(h0:s∉AV.menL T0):∀n,(∀j,j<n->L j=true->s∉(V j).men)->s∉AV.menL (TLp dst V T0 L n)
 | 0,_=>h0
 | n+1,h=>by
  have ih:=qsq (dst:=dst) (V:=V) (L:=L) h0 n fun j hj=>h j (by omega);simp only[TLp];split
  ·rename_i hl;cases hd:dst n with
   | none=>exact ih
   | some d=>exact qmw _ _ _ ih (h n (qyW n) hl)
  ·exact ih
theorem qs4{all:Array Oper}{k:Nat}{v:AV}{s:Nat}(h:s∉v.men):s∉(qmR all k v).men:=by
 unfold qmR;split
 ·split
  ·simp[AV.men]
  ·exact h
 ·exact h
theorem qkc{n:Nat}(i:Nat):(Array.replicate n false).getD i false=false:=by rcases qxG i n with h|h<;>simp[h]
theorem que(listed:Array Bool):∀n,unl listed n<=n
 | 0=>qxC _
 | n+1=>by simp only[unl];have:=que listed n;split<;>omega
theorem qts(all:Array Oper):yl all<=all.size:=by
 unfold yl;simp only;cases hf:(List.range all.toList.length).find? _ with
 | none=>simp
 | some m=>
  have:=qyi hf;simp at this;simp;omega
theorem qeP(all:Array Oper){i j:Nat}(hj:yl all<=j)(hjn:j<all.size)(hij:i<j):((q9M all.toList).getD j 0).testBit i=true:=by
 unfold yl at hj;simp only at hj;cases hf:(List.range all.toList.length).find? (fun m=>(List.range all.toList.length).all fun j=>decide (j<m)||(List.range j).all fun i=>((q9M all.toList).getD j 0).testBit i) with
 | none=>rw[hf] at hj;simp at hj;omega
 | some m=>
  rw[hf] at hj;simp only[qyK] at hj;have h:=qyv hf;rw[qxV] at h;have h2:=h j (qyR.2 (by simpa using hjn));simp only[qyE,decide_eq_true_eq,qxV,qyR] at h2;rcases h2 with h2|h2
  ·omega
  ·exact h2 i hij
section
variable {E:Env} {P:Program} {B:Base} {all:Array Oper} {Q:Exit->Act->World->Prop} {callH:q4j} {n0:Nat}
theorem qrV(hE:E.tok P)(hcH:CallOK E P callH B)(hd:DrawOk all){st':St}(hq:∀X' a',Sim E B X' st' a'->Q .normal a' X'.w):∀(l:List Oper) (i:Nat),all.toList.drop i=l->yl all<=i ->∀(fuel:Nat) (listed:Array Bool) (X:Ctx) (a:Act) (st:St),listed.size=all.size->(∀j,j<i->j<all.size->listed.getD j false=true)->(∀j,i<=j->listed.getD j false=false)->unl listed all.size<=fuel ->Sim E B X st a->(qcH E callH all i l st).run=some st'->wpAnyIn (q1C B.ro) n0 P .any all Q fuel listed a X.w:=by
 intro l;induction l with
 | nil=>
  intro i hl hm fuel listed X a st hsz hlo hhi hun hs h;simp only[qcH,Tree.run,qxB] at h;subst h;have hi:all.size<=i:=by simpa using List.drop_eq_nil_iff.1 hl
  have hr:Region.ready .any all listed=[]:=by
   apply List.eq_nil_iff_forall_not_mem.2;intro j hj;rw[mem_ready] at hj;obtain⟨q1,o',q2,_⟩:=hj;have hj':=(qxI.1 q2).1;have hjt:=hlo j (by omega) hj';have hj2:j<listed.size:=by omega
   rw[qyz,qz0 hj2] at hjt q1;simp only[qyK] at hjt q1;rw[hjt] at q1;cases q1
  cases fuel with
  | zero=>exact⟨hr,hq X a hs⟩
  | succ fuel=>exact⟨fun _=>hq X a hs,fun j hj=>by rw[hr] at hj;cases hj⟩
 | cons o rest ih=>
  intro i hl hm fuel listed X a st hsz hlo hhi hun hs h;have hin:i<all.size:=by
   rcases qxG i all.size with h1|h1
   ·exact h1
   ·rw[qzj (by simpa using h1)] at hl;cases hl
  have ho:all[i]?=some o:=by have:=qyl (xs:=all.toList) (i:=i) (j:=0);rw[hl] at this;simpa using this.symm
  have hrest:all.toList.drop (i+1)=rest:=by rw[<-List.drop_drop,hl];rfl
  have hil:i<listed.size:=by omega
  have hcl:qfQ all fun j=>listed.getD j false:=by
   intro j oj hj hL e he hb;have hj':=(qxI.1 hj).1;have hji:j<i:=by
    rcases qxG j i with h1|h1
    ·exact h1
    ·have hL':listed.getD j false=true:=hL;rw[hhi j h1] at hL';cases hL'
   have:=hd.edge j oj hj e he hb;exact hlo e.on (by omega) (by omega)
  have hpos:0<unl listed all.size:=by
   rcases qyx (unl listed all.size) with h0|h0
   ·have:=qkl h0 i hin;rw[hhi i (qxC _)] at this;cases this
   ·exact h0
  obtain⟨fuel,rfl⟩:∃f,fuel=f+1:=⟨fuel-1,by omega⟩;have hLi:=hhi i (qxC _);have hone:∀j,j∈Region.ready .any all listed->j=i:=by
   intro j hj;rw[mem_ready] at hj;obtain⟨q1,oj,q2,gedge⟩:=hj;have hj':=(qxI.1 q2).1;have hj2:j<listed.size:=by omega
   have hLj:listed.getD j false=false:=by simpa[qyz,hj2] using q1
   rcases Nat.lt_trichotomy j i with h1|h1|h1
   ·rw[hlo j h1 hj'] at hLj;cases hLj
   ·exact h1
   ·have hedge':∀e,e∈oj.after.toList->Region.binds .any e=true->listed.getD e.on false=true:=fun e he hb=>gedge e (by simpa using he) hb;have hcl':=qff hsz q2 hcl hedge';have hb':=qeP all (by omega) hj' h1;have:=qjo hd hcl' j i (by show (listed.setIfInBounds j true).getD j false=true;rw[uv hj2,if_pos rfl]) hb';have h':(listed.setIfInBounds j true).getD i false=true:=this;rw[uv hj2,if_neg (by omega),hLi] at h';cases h'
  refine⟨fun hr=>?_,fun j hj=>?_⟩
  ·
   exfalso;have:=qml hd hsz hr i hin;rw[hLi] at this;cases this
  ·obtain rfl:=hone j hj;have hgo:∀(X'':Ctx) (a'':Act) (s'':St),Sim E B X'' s'' a''->(qcH E callH all (j+1) rest s'').run=some st'->wpAnyIn (q1C B.ro) n0 P .any all Q fuel (listed.setIfInBounds j true) a'' X''.w:=by
    intro X'' a'' s'' hs'' h'';refine ih (j+1) hrest (by omega) fuel _ X'' a'' s'' (by simp[hsz]) (fun k hk hk2=>?_) (fun k hk=>?_) ?_ hs'' h''
    ·rw[uv hil];split
     ·rfl
     ·exact hlo k (by omega) hk2
    ·rw[uv hil,if_neg (by omega)];exact hhi k (by omega)
    ·have:=(qne hil hLi all.size).2 hin;omega
   simp only[qcH] at h;unfold wpOpIn;rw[ho];simp only;cases hwa:q2o all o st.t with
   | none=>rw[hwa] at h;cases h
   | some b=>
    rw[hwa] at h;rw[q4P hs.t hwa];cases b with
    | true=>
     simp only[if_true];obtain⟨s1,k1,k2⟩:=bind_some h;obtain⟨s2,k3,k4⟩:=bind_some k2;exact qfA hE hcH hs k1 fun X'' a'' hs''=>hgo X'' a'' s2 (qhE hs'' k3) k4
    | false=>
     simp only[qy5,if_false];exact⟨fun _ _=>trivial,hgo X _ (qrE o st) (hs.put (av:=.skip) .skip o.dst) h⟩
end
theorem qoJ(h h':List Blk):q77 (h++h')=q77 h++q77 h':=by
 induction h with
 | nil=>rfl
 | cons k h ih=>simp[q77,ih]
theorem qpC{zs:List Blk}(h:∀z,z∈zs->z.menB=[]){s:Nat}:s∉q77 zs:=by
 induction zs with
 | nil=>intro h;cases h
 | cons z zs ih=>
  simp only[q77,qxY,not_or];exact⟨by rw[h z qxM];simp,ih fun z hz=>h z (qxQ _ hz)⟩
end Go.Eng

namespace Go.Eng
variable {B:Base}{E:Env}{P:Program}{X:Ctx}{a:Act}{args:List AV}{b:Nat}{e:TypeId}{f:FuncId}{h:List Blk}{k:Nat}{o:Oper}{op:Op}{s:Nat}{sh:List Sh}{st:St}
theorem HSim.renum {X X':Ctx}{f:Nat->Option Nat}(hs:HSim B X)(hm:Move X X' f)(hw:X'.w=X.w)(hM:X'.M=X.M)(g:Nat->Nat)(hget:∀b k,X'.h[b]?=some k->k=.dead\/(X.h[g b]?=some k/\X'.σ b=X.σ (g b)/\k.ren f=k))(hinj:∀b b',g b=g b'->b=b'\/X'.h[b]?=some .dead\/X'.h[b']?=some .dead)(hi:∀b,b<B.imps.length->X'.σ b=X.σ b/\X'.h[b]?=X.h[b]?) (hg:∀b,B.imps.length<=b->B.imps.length<=g b):HSim B X':=by
 have hown:∀b n,X'.own b n->X.own (g b) n:=by
  intro b n ⟨h1,k,h2,h3⟩;rcases hget b k h2 with rfl|⟨q1,q2,_⟩
  ·cases h3
  ·exact⟨q2▸h1,k,q1,h3⟩
 constructor
 ·intro b k h;rcases hget b k h with rfl|⟨q1,q2,q3⟩
  ·trivial
  ·by_cases hd:k=.dead
   ·subst hd;trivial
   ·have:=vD.move hm.toMove0 (b':=b) q2 (fun n _=>by rw[hw]) (hs.blk (g b) k q1)
    rwa [q3] at this
 ·intro b b' n h h';rcases hinj b b' (hs.inj _ _ n (hown b n h) (hown b' n h')) with e|e|e
  ·exact e
  ·obtain⟨_,k,q1,q2⟩:=h;rw[e] at q1;cases q1;cases q2
  ·obtain⟨_,k,q1,q2⟩:=h';rw[e] at q1;cases q1;cases q2
 ·intro b n h;rw[hM];exact hs.notM _ n (hown b n h)
 ·intro n h;rw[hM] at h;rw[hw];exact hs.ltM n h
 ·intro n h;rw[hM];exact hs.M0 n h
 ·intro n h;rw[hM] at h;exact hs.newM n h
 ·rw[hw];exact hs.os
 ·rw[hw];exact hs.tape
 ·rw[hw];exact hs.output
 ·rw[hw];exact hs.size
 ·intro n h1 h2;rw[hw];exact hs.frame n h1 h2
 ·intro b hb;rw[(hi b hb).1];exact hs.imps b hb
 ·intro b hb;rw[(hi b hb).2];exact hs.impc b hb
 ·intro b n h hb;exact hs.fresh _ n (hown b n h) (hg b hb)
 ·intro p hp;rw[hm.kept] at hp;rw[hw];exact hs.kept p hp
theorem qn8 (hs:HSim B X){k:Blk}(h:X.h[b]?=some k)(hk:k.solid=false):B.imps.length<=b:=by
 rcases qxG b B.imps.length with hb|hb
 ·obtain⟨k',h1,h2⟩:=hs.impc b hb;rw[h] at h1;cases h1;rw[hk] at h2;cases h2
 ·exact hb
def Ctx.alias(X:Ctx)(b s:Nat)(k:Blk):Ctx:={ σ:=fun x=>if x=s then X.σ b else X.σ x,h:=(X.h.set b .dead).set s k,w:=X.w,M:=X.M,kept:=X.kept,y:=X.y }
theorem qlB {b s:Nat}{k:Blk}(hb:b<X.h.length)(hsl:s<X.h.length)(x:Nat):(X.alias b s k).h[x]?=if x=s then some k else if x=b then some .dead else X.h[x]?:=by
 show ((X.h.set b .dead).set s k)[x]?=_;by_cases h1:x=s
 ·subst h1;rw[if_pos rfl,qxN (by simpa using hsl)]
 ·rw[if_neg h1,qxD (fun e=>h1 e.symm)];by_cases h2:x=b
  ·subst h2;rw[if_pos rfl,qxN hb]
  ·rw[if_neg h2,qxD (fun e=>h2 e.symm)]
theorem qjv (hs:HSim B X){b s:Nat}{l:R}(hb:X.h[b]?=some (.vec e sh l))(hd:X.h[s]?=some .dead)(hmen:s∉q77 X.h) :HSim B (X.alias b s (.vec e sh l))/\Move X (X.alias b s (.vec e sh l)) (q7u s)/\∀v,Rep X (.vec b) v->Rep (X.alias b s (.vec e sh l)) (.vec s) v:=by
 have hbl:=qj hb;have hsl:=qj hd;have hbs:b≠s:=fun he=>by rw[he,hd] at hb;cases hb
 have hget:=fun x=>qlB (X:=X) (k:=.vec e sh l) hbl hsl x;have hlen:(X.alias b s (.vec e sh l)).h.length=X.h.length:=by simp[Ctx.alias]
 have hm:Move X (X.alias b s (.vec e sh l)) (q7u s):=by
  refine Move.of (fun _ h=>h) (fun _ _=>rfl) (fun b1 b2 hb1 h=>?_);have hne:b1≠s:=by intro e;subst e;simp[q7u] at h
  have:b2=b1:=by simp[q7u,hne] at h;exact h.symm
  subst this;refine⟨by rw[hlen];exact hb1,by simp[Ctx.alias,hne],fun sh1 m ⟨e1,l1,h1,h2⟩=>?_,fun _ _ _ n _ c T fr hc=>⟨c,T,fr,hc,rfl⟩⟩;rw[hget,if_neg hne] at h1;by_cases h3:b2=b
  ·rw[if_pos h3] at h1;rcases h1 with h1|h1<;>cases h1
  ·rw[if_neg h3] at h1;exact⟨e1,l1,h1,h2⟩
 refine⟨hs.renum hm rfl rfl (fun x=>if x=s then b else x) (fun x k h=>?_) (fun x x' h=>?_) (fun x hx=>?_) (fun x hx=>?_),hm,fun v hv=>?_⟩
 ·rw[hget] at h;by_cases h1:x=s
  ·rw[if_pos h1] at h;cases h;right;rw[if_pos h1];exact⟨hb,by simp[Ctx.alias,h1],rfl⟩
  ·rw[if_neg h1] at h;by_cases h2:x=b
   ·rw[if_pos h2] at h;cases h;exact .inl rfl
   ·rw[if_neg h2] at h;right;rw[if_neg h1];exact⟨h,by simp[Ctx.alias,h1],Blk.ren_void k (qgo hmen h)⟩
 ·by_cases h1:x=s
  ·by_cases h2:x'=s
   ·exact .inl (h1.trans h2.symm)
   ·rw[if_pos h1,if_neg h2] at h;right;right;rw[hget,if_neg h2,if_pos h.symm]
  ·by_cases h2:x'=s
   ·rw[if_neg h1,if_pos h2] at h;right;left;rw[hget,if_neg h1,if_pos h]
   ·rw[if_neg h1,if_neg h2] at h;exact .inl h
 ·have h1:=qn8 hs hb rfl;have h2:=qn8 hs hd rfl;exact⟨by simp[Ctx.alias,show x≠s by omega],by rw[hget,if_neg (by omega),if_neg (by omega)]⟩
 ·have h1:=qn8 hs hb rfl;split<;>omega
 ·cases hv with
  | vec _ p n c hlt h=>
   refine .vec s p n c (by rw[hlen];exact hsl) fun sh' m ⟨e',l',q1,q2⟩=>?_;rw[hget,if_pos rfl] at q1;have q3:e'=e/\sh'=sh/\l'=l:=by
    rcases q1 with q1|q1
    ·cases q1;exact⟨rfl,rfl,rfl⟩
    ·cases q1
   obtain⟨rfl,rfl,rfl⟩:=q3;have:=h sh' m ⟨e',l',.inl hb,q2⟩;unfold qmm at this ⊢;have hσ:(X.alias b s (.vec e' sh' l')).σ s=X.σ b:=by simp[Ctx.alias]
   rw[hσ];exact this
theorem qpE (hs:HSim B X){h':List Blk}(hX:X.h=h'++[.dead])(hmen:h'.length∉q77 h') :HSim B { X with h:=h' }/\Move X { X with h:=h' } (q7u h'.length):=by
 have hget:∀(x:Nat) (k:Blk),h'[x]?=some k->X.h[x]?=some k:=fun x k h=>by rw[hX,qxK (qj h)];exact h
 have hm:Move X { X with h:=h' } (q7u h'.length):=by
  refine Move.of (fun _ h=>h) (fun _ _=>rfl) (fun b1 b2 hb1 h=>?_);have hne:b1≠h'.length:=by intro e;subst e;simp[q7u] at h
  have:b2=b1:=by simp[q7u,hne] at h;exact h.symm
  subst this;rw[hX] at hb1;simp only[qyL,qy9,qyq] at hb1;refine⟨by show b2<h'.length;omega,rfl,fun sh1 m ⟨e1,l1,h1,h2⟩=>⟨e1,l1,?_,h2⟩,fun _ _ _ n _ c T fr hc=>⟨c,T,fr,hc,rfl⟩⟩;exact h1.elim (fun h=>.inl (hget _ _ h)) (fun h=>.inr (hget _ _ h))
 refine⟨hs.renum hm rfl rfl id (fun x k h=>.inr ⟨hget x k h,rfl,Blk.ren_void k (qgo hmen h)⟩) (fun x x' h=>.inl h) (fun x hx=>⟨rfl,?_⟩) (fun x hx=>hx),hm⟩;obtain⟨k,h1,h2⟩:=hs.impc x hx;have hxl:x<h'.length:=by
  rcases qxG x h'.length with h|h
  ·exact h
  ·rw[hX,qxU h] at h1;rcases qyJ h with h|h
   ·rw[<-h] at h1;simp at h1;subst h1;cases h2
   ·rw[qxR (by simp;omega)] at h1;cases h1
 show h'[x]?=X.h[x]?;rw[hX,qxK hxl]
theorem Sim.moved {X X':Ctx}(hs:Sim E B X st a)(h2:HSim B X')(h3:Move X X' (q7u s))(ht:s∉AV.menL st.t)(hf:s∉qdZ st.fs):Sim E B X' { st with h:=X'.h } a:=by
 refine⟨h2,rfl,?_,?_,fun x hx=>?_,h3.kept▸hs.df,hs.ni,h3.y.trans hs.y,fun p hp=>h3.kept▸hs.pin p hp⟩
 ·have:=hs.t.ren h3.toMove0
  rwa [AV.renL_void _ ht] at this
 ·have:=hs.fs.ren h3.toMove0
  rwa [qeG _ hf] at this
 ·obtain⟨⟨sh,l,i,off,he⟩,hr⟩:=hs.glob x hx;refine⟨⟨sh,l,i,off,he⟩,hr.move h3.M h3.w ?_⟩;have:=hr.1.ren h3.toMove0;rw[he] at this ⊢;exact this
theorem Rep.voided {X X':Ctx}{s b:Nat}{v:Value}(h:Move X X' (q7u s))(hr:Rep X (.vec b) v)(hne:b≠s):Rep X' (.vec b) v:=by have:=hr.ren h.toMove0;simpa[AV.ren,q7u,hne] using this
theorem qdO {s c:Nat}{k:Blk}(hk:k.menB=[])(hc:c∉q77 h):c∉q77 (h.set s k):=by
 induction h generalizing s with
 | nil=>exact hc
 | cons a h ih=>
  simp only[q77,qxY,not_or] at hc;cases s with
  | zero=>simp only[List.set_cons_zero,q77,hk,qyN];exact hc.2
  | succ s=>simp only[List.set_cons_succ,q77,qxY,not_or];exact⟨hc.1,ih hc.2⟩
theorem qft{c:Nat}:∀(l:List Nat) {h:List Blk},h[c]?=some .dead->(qx h l)[c]?=some .dead
 | [],_,hc=>hc
 | a::l,h,hc=>qft l (by
  by_cases e:c=a
  ·subst e;unfold zm;rw[hc];exact hc
  ·rw[q5h e,hc])
theorem qaq{c:Nat}:∀(l:List Nat) {h:List Blk},c∉q77 h->c∉q77 (qx h l)
 | [],_,hc=>hc
 | a::l,h,hc=>qaq l (by
  unfold zm;split
  ·exact qdO rfl hc
  ·exact hc)
theorem qoB {l:R}{v:Value}(hs:Sim E B X { st with h:=h++[.vec e sh l] } a)(hv:Rep X (.vec h.length) v)(hd:h[s]?=some .dead) (h1:s∉q77 h) (h2:s∉AV.menL st.t) (h3:s∉qdZ st.fs) (n1:h.length∉q77 h) (n2:h.length∉AV.menL st.t) (n3:h.length∉qdZ st.fs) :∃X',X'.w=X.w/\Sim E B X' { st with h:=h.set s (.vec e sh l) } a/\Rep X' (.vec s) v:=by
 have hsl:=qj hd;have hX:X.h=h++[.vec e sh l]:=hs.h;have hb:X.h[h.length]?=some (.vec e sh l):=by rw[hX,qxU (qxC _)];simp
 have hd':X.h[s]?=some .dead:=by rw[hX,qxK hsl];exact hd
 have hm':s∉q77 X.h:=by rw[hX,qoJ];simp[q77,Blk.menB];exact h1
 obtain⟨g1,g2,g3⟩:=qjv hs.hs hb hd' hm';have s1:=hs.moved g1 g2 h2 h3;have hA:(X.alias h.length s (.vec e sh l)).h=h.set s (.vec e sh l)++[.dead]:=by show (X.h.set h.length .dead).set s (.vec e sh l)=_;rw[hX,List.set_append_right (h:=qxC _),Nat.sub_self,List.set_append_left (h:=hsl)];rfl
 obtain⟨k1,k2⟩:=qpE g1 hA (by simp only[qyO];exact qdO rfl n1);rw[qyO] at k2;have s2:=s1.moved k1 k2 n2 n3;have hne:s≠h.length:=by omega
 exact⟨{ X.alias h.length s (.vec e sh l) with h:=h.set s (.vec e sh l) },rfl,s2,(g3 v hv).voided k2 hne⟩
theorem qY (h:List Blk)(x:AV):(j6 h x).length=h.length:=by cases x<;>simp[j6,q74]
theorem q0t {x:AV}{c:Nat}(hc:c∉x.men):(j6 h x)[c]?=h[c]?:=by
 cases x<;>first|rfl|skip
 rename_i b;exact q5h (fun e=>hc (by simp[AV.men,e]))
theorem qe0 {x:AV}{c:Nat}(hc:c∉q77 h):c∉q77 (j6 h x):=by
 cases x<;>first|exact hc|skip
 rename_i b;show c∉q77 (zm h b);unfold zm;split
 ·rename_i e sh l _;exact qdO (k:=.frz e sh l) rfl hc
 ·exact hc
theorem qbn {r:Res}(h:qz P B X (execOp a.eval o) r){next:Act->World->Prop}{Q:Exit->Act->World->Prop}(hq:∀X' v,HSim B X'->Rep X' r.1 v->(match r.2.2 with|none=>X'.h=r.2.1/\Ext X X'|some b=>X'.h=r.2.1.map (Blk.ren (q7u b))/\Move X X' (q7u b))->next (a.put o.dst v) X'.w):o.wp P a X.w next Q:=by
 obtain⟨nx,v,X',g1,g2,g3,g4,g5⟩:=h;unfold Oper.wp;rw[g1];rcases g2 with rfl|⟨rfl,rfl⟩
 ·exact hq X' _ g4 g3 g5
 ·exact hq X' _ g4 g3 g5
theorem qtv (hs:s∉q77 h):h.map (Blk.ren (q7u s))=h:=by
 induction h with
 | nil=>rfl
 | cons k h ih=>
  simp only[q77,qxY,not_or] at hs;simp only[qyp,Blk.ren_void k hs.1,ih hs.2]
theorem qsx {o:Option Blk}(h:qjg o=true):o=some .dead:=by
 unfold qjg at h;split at h
 ·rfl
 ·cases h
theorem Sim.ext' {X X':Ctx}{h':List Blk}(hs:Sim E B X st a)(hx:Ext X X')(h4:HSim B X')(hh:X'.h=h'):Sim E B X' { st with h:=h' } a:=by have:=hs.ext hx h4;rw[hh] at this;exact this
theorem qqi {x:AV}{m:R}(hr:wn h x=some (sh,m))(hn:qom b x=true):b∉x.men:=by
 cases x<;>simp only[wn] at hr<;>first|(cases hr;done)|simp[AV.men]
 rename_i b';intro e;subst e;simp[qom] at hn
theorem qlI {h h':List Blk}{x:AV}(H:∀b,b∈x.men->h'[b]?=h[b]?):wn h' x=wn h x:=by cases x<;>simp only[wn];rename_i b;rw[H b (by simp[AV.men])]
mutual
theorem Rep.inB{X:Ctx}:∀{a:AV} {v:Value},Rep X a v->∀b,b∈a.men->b<X.h.length
 | _,_,.undef _,b,h=>by simp[AV.men] at h
 | _,_,.skip,b,h=>by simp[AV.men] at h
 | _,_,.yld,b,h=>by simp[AV.men] at h
 | _,_,.blit _,b,h=>by simp[AV.men] at h
 | _,_,.bool _,b,h=>by simp[AV.men] at h
 | _,_,.ilit _ _,b,h=>by simp[AV.men] at h
 | _,_,.int _ _,b,h=>by simp[AV.men] at h
 | _,_,.str _,b,h=>by simp[AV.men] at h
 | _,_,.nilp,b,h=>by simp[AV.men] at h
 | _,_,.ptr _ _ _ hb _,b,h=>by simp only[AV.men,qye] at h;rw[h];exact hb
 | _,_,.eptr _ _ _ _ _ _ _ _ _,b,h=>by simp[AV.men] at h
 | _,_,.mnil _ _ _ _,b,h=>by simp[AV.men] at h
 | _,_,.mptr _ _ _ _ _ _ _ _ _,b,h=>by simp[AV.men] at h
 | _,_,.vptr _ _ _ _ _ hb _ _,b,h=>by simp only[AV.men,qye] at h;rw[h];exact hb
 | _,_,.vsub _ _ _ _ _ _ hb _ _,b,h=>by simp only[AV.men,qye] at h;rw[h];exact hb
 | _,_,.aptr _ _ _ _ hb _ _,b,h=>by simp only[AV.men,qye] at h;rw[h];exact hb
 | _,_,.asub _ _ _ _ _ _ _ _ hb _ _ _ _ _,b,h=>by simp only[AV.men,qye] at h;rw[h];exact hb
 | _,_,.nils,b,h=>by simp[AV.men] at h
 | _,_,.imm _ _ _ _,b,h=>by simp[AV.men] at h
 | _,_,.full _ _ _ _ _,b,h=>by simp[AV.men] at h
 | _,_,.vec _ _ _ _ hb _,b,h=>by simp only[AV.men,qye] at h;rw[h];exact hb
 | _,_,.nilf,b,h=>by simp[AV.men] at h
 | _,_,.fn _ _ _ _ _ h1 h2,b,h=>by
  simp only[AV.men,qxY] at h;exact h.elim (RepL.inB h1 b) (RepL.inB h2 b)
 | _,_,.agg _ _ h1,b,h=>by simp only[AV.men] at h;exact RepL.inB h1 b h
 | _,_,.tuple _ _ h1,b,h=>by simp only[AV.men] at h;exact RepL.inB h1 b h
 | _,_,.bagg _ _ _ _ _ h1 _,b,h=>by simp only[AV.men] at h;exact RepL.inB h1 b h
theorem RepL.inB{X:Ctx}:∀{l:List AV} {vs:List Value},RepL X l vs->∀b,b∈AV.menL l->b<X.h.length
 | _,_,.nil,b,h=>by simp[AV.menL] at h
 | _,_,.cons h1 h2,b,h=>by
  simp only[AV.menL,qxY] at h;exact h.elim (Rep.inB h1 b) (RepL.inB h2 b)
end
theorem RepLL.inB{X:Ctx}:∀{l:List (List AV)} {vs:List (List Value)},RepLL X l vs->∀b,b∈qdZ l->b<X.h.length
 | _,_,.nil,b,h=>by simp[qdZ] at h
 | _,_,.cons h1 h2,b,h=>by
  simp only[qdZ,qxY] at h;exact h.elim (RepL.inB h1 b) (RepLL.inB h2 b)
theorem qrZ{b:Nat}:∀{h:List Blk},b∈q77 h->∃(i:Nat) (k:Blk),h[i]?=some k/\b∈k.menB
 | [],h=>by cases h
 | k::h,hb=>by
  simp only[q77,qxY] at hb;rcases hb with hb|hb
  ·exact⟨0,k,rfl,hb⟩
  ·obtain⟨i,k',h1,h2⟩:=qrZ hb;exact⟨i+1,k',by simpa using h1,h2⟩
theorem HSim.inB (hs:HSim B X):∀b,b∈q77 X.h->b<X.h.length:=by
 intro b hb;obtain⟨i,k,h1,h2⟩:=qrZ hb;have:=hs.blk i k h1;cases k with
 | cells cs=>obtain⟨_,_,_,_,_,hr⟩:=this;exact hr.inB b h2
 | big cs _ _ _=>obtain⟨_,_,_,_,_,_,hr,_⟩:=this;exact hr.inB b h2
 | vec _ _ _=>simp[Blk.menB] at h2
 | frz _ _ _=>simp[Blk.menB] at h2
 | dead=>simp[Blk.menB] at h2
theorem qmz (hS:E.specs P)(h:qvO E f=some e):qf6 P f e:=by
 unfold qvO at h;cases hf:E.dels.find? fun x=>x.1==f with
 | none=>rw[hf] at h;cases h
 | some x=>
  rw[hf] at h;simp only[qy0,qxB] at h;have h1:x.1=f:=by simpa using qyv hf
  have:=hS.dl x (qyi hf);rw[h1,h] at this;exact this
theorem qlJ (_:E.tok P)(_:qf6 P f e)(_:HSim B X){vargs:List Value}(_:RepL X args vargs){av:AV}{h':List Blk}(h:(qjB E X.h e args k).run=some (av,h')) (_:X.h[k]?=some .dead) (_:k∉q77 X.h) :Calls P f vargs.toArray X.w fun x w'=>∃v X',x=.returned v/\X'.w=w'/\Rep X' av v/\HSim B X'/\X'.h=h'/\Move X X' (q7u k):=by unfold qjB at h;cases h
theorem qxr {args:Array Operand}{tys:Array TypeId}(hop:o.op=.call { callee:=.builtin .append,args:=args,argTypes:=tys }) :∃ty cs,execOp a.eval o=builtin .append tys ty cs ((args.toList.map a.eval).toArray):=by
 have hA:args.map a.eval=(args.toList.map a.eval).toArray:=by apply qyo;simp
 refine⟨o.type,args.map fun|.const _=>true|_=>false,?_⟩;unfold execOp;rw[hop,<-hA];rfl
theorem qeS {xs:List Operand}(h:qfa op=some (f,xs)):∃args tys,op=.call { callee:=.value (.func f),args:=args,argTypes:=tys }/\xs=args.toList:=by
 unfold qfa at h;split at h
 ·cases h;exact⟨_,_,rfl,rfl⟩
 ·cases h
theorem qsO {args:Array Operand}{tys:Array TypeId}(hop:o.op=.call { callee:=.value (.func f),args:=args,argTypes:=tys })(he:∀args w,(callFunc f args).run P w=.ok (.enter f args) w) {next:Act->World->Prop} {Q:Exit->Act->World->Prop} {K:Value->World->Prop} (hc:Calls P f (args.toList.map a.eval).toArray X.w fun x w'=>∃v,x=.returned v/\K v w')(hq:∀v w',K v w'->next (a.put o.dst v) w'):o.wp P a X.w next Q:=by
 unfold Oper.wp;have hrun:(execOp a.eval o).run P X.w=.ok (.enter f (args.toList.map a.eval).toArray) X.w:=by
  simp only[execOp,hop,resolve,Act.eval,Deferred.ofValue,qxF,qxW,qxH,invoke];have:(#[]:Array Value)++args.map a.eval++#[]=(args.toList.map a.eval).toArray:=by apply qyo;simp
  have h2:=he (args.toList.map a.eval).toArray X.w;rw[<-this] at h2;rw[<-this];exact h2
 rw[hrun];refine hc.mono fun x w' ⟨v,e1,e2⟩=>?_;subst e1;exact hq v w' e2
theorem ql6 (hE:E.tok P)(hS:E.specs P){callS:List Blk->q32}(hs:Sim E B X st a){av:AV}{h':List Blk}(h:(q1x E callS st.h (E.opd st.t) o.op s).run=some (av,h')) (hl:qiN E o.op=true) (h1:s∉q77 st.h) (h2:s∉AV.menL st.t) (h3:s∉qdZ st.fs) (n1:st.h.length∉q77 st.h) (n2:st.h.length∉AV.menL st.t) (n3:st.h.length∉qdZ st.fs){next:Act->World->Prop} {Q:Exit->Act->World->Prop} (hq:∀X' v,Sim E B X' { st with h:=h' } a->Rep X' av v->next (a.put o.dst v) X'.w):o.wp P a X.w next Q:=by
 unfold q1x at h;rw[hl] at h;simp only at h;cases hdd:qjg st.h[s]? with
 | false=>rw[hdd] at h;cases h
 | true=>
  rw[hdd] at h;have hd:=qsx hdd;simp only at h;split at h
  ·
   rename_i t len parts hop;obtain⟨r,k1,k2⟩:=bind_some h;simp only[Tree.run,qxB,qxX] at k2;obtain⟨rfl,rfl⟩:=k2;obtain⟨v0,z⟩:=r;have hvz:v0=.vec st.h.length/\∃e sh l,z=.vec e sh l:=by
    have k1:=k1;rw[hop] at k1;unfold qc3 at k1;simp only at k1;split at k1
    ·split at k1
     ·split at k1
      ·split at k1
       ·split at k1
        ·cases k1;exact⟨rfl,_,_,_,rfl⟩
        ·cases k1
       ·cases k1
      ·cases k1
     ·cases k1
    ·cases k1
   obtain⟨rfl,e,sh,l,rfl⟩:=hvz;refine qbn (qdR hE hs (qrH k1)) fun X' v g4 g3 g5=>?_;have s1:Sim E B X' { st with h:=st.h++[.vec e sh l] } a:=hs.ext' g5.2 g4 g5.1;obtain⟨X2,e2,s2,r2⟩:=qoB s1 g3 hd h1 h2 h3 n1 n2 n3;rw[<-e2];exact hq X2 v s2 r2
  ·
   rename_i t hop;unfold qks at h;split at h
   case h_2=>cases h
   rename_i z hz;split at h
   case h_2=>cases h
   simp only[Tree.run,qxB,qxX] at h;obtain⟨rfl,rfl⟩:=h;exact qkF hE hs hop hz hd h1 h2 h3 hq
  ·
   rename_i args tys hop;obtain⟨ty,cs,hrun⟩:=qxr (a:=a) hop;have hargs:=q12 hs args.toList;unfold qmL at h;generalize args.toList.map (E.opd st.t)=als at h hargs;generalize args.toList.map a.eval=avs at hrun hargs;split at h
   case h_2=>cases h
   rename_i t t' sa xa htys;by_cases htt:t=t'
   ·subst htt;rw[if_pos rfl] at h;cases hargs with
    | cons hsa hargs=>cases hargs with
     | cons hxa hargs=>
     cases hargs;rename_i vs vx;have hrun':execOp a.eval o=(do pure (.value (<-Builtin.append_ #[t,t] ty #[vs,vx])):Sem Next):=by rw[hrun];obtain⟨tys⟩:=tys;simp only at htys;subst htys;rfl
     unfold qmp at h;cases htd:(E.ty t).d<;>rw[htd] at h<;>simp only at h<;>first|(cases h;done)|skip
     rename_i e es;obtain⟨ht,rfl⟩:=uq hE htd;split at h
     case h_2=>cases h
     rename_i sh sh' m hsh hro;by_cases hc:(sh.length=P.cellsOf e/\0<P.cellsOf e/\(E.ty e).zero.length=P.cellsOf e)/\Sh.beqL sh sh'=true
     ·rw[if_pos hc] at h;obtain⟨⟨hc1,hc2,hc4⟩,hbq⟩:=hc;obtain rfl:=Sh.beqL_eq _ _ hbq;obtain⟨i,z,he⟩:=qqV hE hc2 hc4;split at h
      ·
       obtain⟨g1,g2⟩:=brR h;simp only[Tree.run,qxB,qxX] at g2;obtain⟨rfl,rfl⟩:=g2;have hh:(qed (qiA (E.ty e).bytes) X.h e sh .nils xa).run=some (.vec X.h.length,j6 X.h xa++[.vec e sh m],none):=by unfold qed;rw[hs.h,hro];simp only;rw[if_pos hbq];simp only[Tree.run,g1]
       have hg:=q8l (ty:=ty) hs.hs ht hc2 hc1 he hsa hxa hh;rw[<-hrun'] at hg;refine qbn hg fun X' v g4 g3 g5=>?_;have hfl:(j6 st.h xa).length=st.h.length:=qY _ _;have s1:Sim E B X' { st with h:=j6 st.h xa++[.vec e sh m] } a:=hs.ext' g5.2 g4 (by rw[g5.1,hs.h]);rw[hs.h,<-hfl] at g3;have hxs:s∉xa.men:=fun hm=>by
        cases xa<;>simp only[wn] at hro<;>first|(cases hro;done)|(simp[AV.men] at hm;done)|skip
        simp only[AV.men,qye] at hm;subst hm;rw[hd] at hro;cases hro
       obtain⟨X2,e2,s2,r2⟩:=qoB s1 g3 (by rw[q0t hxs];exact hd) (qe0 h1) h2 h3 (by rw[hfl];exact qe0 n1) (by rw[hfl];exact n2) (by rw[hfl];exact n3);rw[<-e2];exact hq X2 v s2 r2
      ·
       rename_i b;split at h
       case h_2=>cases h
       rename_i e' sh'' l hbk;by_cases hq2:(Sh.beqL sh sh''=true/\e=e')/\qom b xa=true
       ·rw[if_pos hq2] at h;obtain⟨⟨hbq2,rfl⟩,hnv⟩:=hq2;obtain rfl:=Sh.beqL_eq _ _ hbq2;obtain⟨g1,g2⟩:=brR h;simp only[Tree.run,qxB,qxX] at g2;obtain⟨rfl,rfl⟩:=g2;have hbx:=qqi hro hnv;have hxs:s∉xa.men:=fun hm=>by
         cases xa<;>simp only[wn] at hro<;>first|(cases hro;done)|(simp[AV.men] at hm;done)|skip
         simp only[AV.men,qye] at hm;subst hm;rw[hd] at hro;cases hro
        have hbs:b≠s:=fun he=>by rw[he,hd] at hbk;cases hbk
        have hb':X.h[b]?=some (.vec e sh l):=by rw[hs.h];exact hbk
        have hd':X.h[s]?=some .dead:=by rw[hs.h];exact hd
        obtain⟨a1,a2,a3⟩:=qjv hs.hs hb' hd' (by rw[hs.h];exact h1);have hbl:=qj hbk;have hsl:=qj hd;have ag:∀x,(X.alias b s (.vec e sh l)).h[x]?=if x=s then some (.vec e sh l) else if x=b then some .dead else st.h[x]?:=fun x=>by rw[qlB (by rw[hs.h];exact hbl) (by rw[hs.h];exact hsl),hs.h]
        have hxr:wn (X.alias b s (.vec e sh l)).h xa=some (sh,m):=by rw[qlI (h:=st.h) fun c hc=>by have z1:c≠s:=fun e=>hxs (e▸hc);have z2:c≠b:=fun e=>hbx (e▸hc);rw[ag,if_neg z1,if_neg z2]];exact hro
        have hxrep:Rep (X.alias b s (.vec e sh l)) xa vx:=by
         have:=hxa.ren a2.toMove0
         rwa [AV.ren_void xa hxs] at this
        have hfin:(j6 (X.alias b s (.vec e sh l)).h xa).set s (.vec e sh (q1i l m))=((j6 st.h xa).set b .dead).set s (.vec e sh (q1i l m)):=by
         apply qyc;intro x;by_cases x1:x=s
         ·subst x1;rw[qxN (by rw[qY];simp[Ctx.alias,hs.h];exact hsl),qxN (by simp[qY];exact hsl)]
         ·rw[qxD (fun e=>x1 e.symm),qxD (fun e=>x1 e.symm)];by_cases x2:x=b
          ·subst x2;rw[qxN (by rw[qY];exact hbl),q0t hbx,ag,if_neg x1,if_pos rfl]
          ·rw[qxD (fun e=>x2 e.symm)];cases xa<;>first|(show (X.alias b s (.vec e sh l)).h[x]?=st.h[x]?;rw[ag,if_neg x1,if_neg x2];done)|skip
           rename_i b';have y1:b'≠s:=fun e=>hxs (by simp[AV.men,e]);have y2:b'≠b:=fun e=>hbx (by simp[AV.men,e]);have y3:=ag b';rw[if_neg y1,if_neg y2] at y3;unfold j6 zm;simp only[y3];cases hk:st.h[b']? with
           | none=>simp only;rw[ag,if_neg x1,if_neg x2]
           | some k=>
            cases k<;>simp only<;>first|(rw[ag,if_neg x1,if_neg x2];done)|skip
            by_cases x3:x=b'
            ·subst x3;rw[qxN (by simp[Ctx.alias,hs.h];exact qj hk),qxN (qj hk)]
            ·rw[qxD (fun e=>x3 e.symm),qxD (fun e=>x3 e.symm),ag,if_neg x1,if_neg x2]
        have hh:(qed (qiA (E.ty e).bytes) (X.alias b s (.vec e sh l)).h e sh (.vec s) xa).run=some (.vec s,(j6 (X.alias b s (.vec e sh l)).h xa).set s (.vec e sh (q1i l m)),some s):=by
         unfold qed;rw[hxr];simp only;rw[if_pos hbq,ag,if_pos rfl];simp only;rw[if_pos ⟨hbq,trivial⟩];unfold qr1;cases xa<;>simp only[j6]<;>first|(simp only[Tree.run,g1];done)|skip
         rename_i b';rw[if_neg (fun e=>hxs (by simp[AV.men,<-e]))];simp only[Tree.run,g1]
        have hg:=q8l (ty:=ty) a1 ht hc2 hc1 he (a3 _ hsa) hxrep hh;rw[<-hrun'] at hg;have hg':qz P B (X.alias b s (.vec e sh l)) (execOp a.eval o) (.vec s,(j6 (X.alias b s (.vec e sh l)).h xa).set s (.vec e sh (q1i l m)),some s):=hg;have s0:=hs.moved a1 a2 h2 h3;have hw:(X.alias b s (.vec e sh l)).w=X.w:=rfl;rw[<-hw];refine qbn hg' fun X' v g4 g3 g5=>?_;obtain⟨g5,g6⟩:=g5;simp only at g5 g6;rw[hfin,qtv (qdO rfl (qdO rfl (qe0 h1)))] at g5;have s1:=s0.moved g4 g6 h2 h3;have:({ ({ st with h:=(X.alias b s (.vec e sh l)).h }:St) with h:=X'.h }:St)={ st with h:=((j6 st.h xa).set b .dead).set s (.vec e sh (q1i l m)) }:=by rw[g5]
        rw[this] at s1;exact hq X' v s1 g3
       ·rw[if_neg hq2] at h;cases h
      ·
       rename_i sh'' l;split at h
       case isFalse=>cases h
       rename_i hbq2;obtain⟨g0,h⟩:=brR h;obtain⟨g1,g2⟩:=brR h;simp only[Tree.run,qxB,qxX] at g2;obtain⟨rfl,rfl⟩:=g2;have hh:(qed (qiA (E.ty e).bytes) X.h e sh (.full sh'' l) xa).run=some (.vec X.h.length,j6 X.h xa++[.vec e sh (q1i l m)],none):=by unfold qed;rw[hs.h,hro];simp only;rw[if_pos hbq,if_pos hbq2];simp only[Tree.run,g0,g1]
       have hg:=q8l (ty:=ty) hs.hs ht hc2 hc1 he hsa hxa hh;rw[<-hrun'] at hg;refine qbn hg fun X' v g4 g3 g5=>?_;have hfl:(j6 st.h xa).length=st.h.length:=qY _ _;have s1:Sim E B X' { st with h:=j6 st.h xa++[.vec e sh (q1i l m)] } a:=hs.ext' g5.2 g4 (by rw[g5.1,hs.h]);rw[hs.h,<-hfl] at g3;have hxs:s∉xa.men:=fun hm=>by
        cases xa<;>simp only[wn] at hro<;>first|(cases hro;done)|(simp[AV.men] at hm;done)|skip
        simp only[AV.men,qye] at hm;subst hm;rw[hd] at hro;cases hro
       obtain⟨X2,e2,s2,r2⟩:=qoB s1 g3 (by rw[q0t hxs];exact hd) (qe0 h1) h2 h3 (by rw[hfl];exact qe0 n1) (by rw[hfl];exact n2) (by rw[hfl];exact n3);rw[<-e2];exact hq X2 v s2 r2
      ·cases h
     ·rw[if_neg hc] at h;cases h
   ·rw[if_neg htt] at h;cases h
  ·
   rename_i _ _ hno;clear hno;unfold qjX at h;split at h
   case h_2=>cases h
   rename_i f xs hcf;obtain⟨args,tys,hop,rfl⟩:=qeS hcf;have hargs:=q12 hs args.toList;split at h
   ·rename_i e hdf;have hD:=qmz hS hdf;rw[<-hs.h] at h hd h1;refine qsO hop hD.1 (K:=fun v w'=>∃X',X'.w=w'/\Rep X' av v/\HSim B X'/\X'.h=h'/\Move X X' (q7u s)) ((qlJ hE hD hs.hs hargs h hd h1).mono fun x w' ⟨v,X',e0,e1,e2,e3,e4,e5⟩=>⟨v,e0,X',e1,e2,e3,e4,e5⟩) fun v w' ⟨X',e1,e2,e3,e4,e5⟩=>?_;subst e1;have:=hs.moved e3 e5 h2 h3;rw[e4] at this;exact hq X' v this e2
   ·unfold qro at h;split at h
    case h_2=>cases h
    rename_i G hf;split at h
    case h_2=>cases h
    rename_i hme;obtain⟨r,k1,k2⟩:=bind_some h;split at k2
    case h_2=>cases k2
    rename_i e sh l;simp only[Tree.run,qxB,qxX] at k2;obtain⟨rfl,rfl⟩:=k2;have hG:=hS.sp G (qyi hf);have hfe:G.1=f:=by simpa using qyv hf
    rw[hfe] at hG;generalize args.toList.map (E.opd st.t)=azz at *;have hmen:AV.menL (AV.lendL (qx st.h (azz.flatMap zv)) azz)=[]:=by simpa using hme
    have hcs:(uC G.2 azz st).run=some (.vec (qx st.h (azz.flatMap zv)).length,{ st with h:=qx st.h (azz.flatMap zv)++[.vec e sh l] }):=by
     unfold uC;have hpr:wj st.h azz=qx st.h (azz.flatMap zv):=by unfold wj;simp only[hmen,q3K,qx,q6w]
     simp only[hpr,hmen,qd3,q2x];rw[AV.renL_of_men _ _ hmen,Tree.run_bind,k1];simp only[qy3,uz,qyq,List.drop_zero,qyp,List.map_nil];rfl
    have hfl:=vW (azz.flatMap zv) st.h;refine qsO hop hG.1 (K:=fun v w'=>∃X',X'.w=w'/\Rep X' (.vec (qx st.h (azz.flatMap zv)).length) v/\Sim E B X' { st with h:=qx st.h (azz.flatMap zv)++[.vec e sh l] } a) ((q3I hG hs hargs hcs).mono fun x w' ⟨v,X',e1,e2,e3,e4⟩=>⟨v,e1,X',e2,e3,e4⟩) fun v w' ⟨X',e1,e2,e3⟩=>?_;subst e1;obtain⟨X2,e4,s2,r2⟩:=qoB e3 e2 (qft _ hd) (qaq _ h1) h2 h3 (by rw[hfl];exact qaq _ n1) (by rw[hfl];exact n2) (by rw[hfl];exact n3);rw[<-e4];exact hq X2 v s2 r2
def q7Q(w:List Nat)(k h:List Blk):List Blk:=h.mapIdx fun b x=>if b∈w then k.getD b .dead else x
theorem qpX (w:List Nat)(k h:List Blk):(q7Q w k h).length=h.length:=by simp[q7Q]
theorem qbb {w:List Nat}{k h:List Blk}(hb:b∉w):(q7Q w k h)[b]?=h[b]?:=by
 unfold q7Q;rw[List.getElem?_mapIdx];cases h[b]? with
 | none=>rfl
 | some x=>simp[hb]
theorem qa2 {w:List Nat}{k h:List Blk}(hb:b∈w)(hk:k.length=h.length):(q7Q w k h)[b]?=k[b]?:=by
 unfold q7Q;rw[List.getElem?_mapIdx];rcases qxG b h.length with hl|hl
 ·rw[qxO hl,qxO (hk▸hl)];simp[hb,qxO (hk▸hl)]
 ·rw[qxR hl,qxR (by omega)];rfl
theorem q00 {w:List Nat}{k h k':List Blk}(hk:k.length=h.length)(h1:∀b,b∈w->k'[b]?=k[b]?)(h2:∀b,b∉w->k'[b]?=h[b]?):k'=q7Q w k h:=by
 apply qyc;intro b;by_cases hb:b∈w
 ·rw[h1 b hb,qa2 hb hk]
 ·rw[h2 b hb,qbb hb]
theorem ql9 {callS:List Blk->q32}{f g:Operand->AV}(hfg:∀x∈op.operands.toList,f x=g x):q1x E callS h f op k=q1x E callS h g op k:=by
 unfold q1x;cases hl:qiN E op with
 | false=>simp only;rw[qkn hfg,(qgA hfg).1,(qgA hfg).2]
 | true=>
  simp only;cases qjg h[k]? with
  | false=>rfl
  | true=>
   simp only;split
   ·rw[qlT hfg]
   ·rfl
   ·rename_i args tys;have:args.toList.map f=args.toList.map g:=qyZ fun y hy=>hfg y (by simpa[Op.operands,Call.operands] using hy);rw[this]
   ·unfold qjX;cases hc:qfa op with
    | none=>rfl
    | some q=>
     obtain⟨fn,xs⟩:=q;obtain⟨args,tys,rfl,rfl⟩:=qeS hc;have:args.toList.map f=args.toList.map g:=qyZ fun y hy=>hfg y (by simp[Op.operands,Call.operands];exact .inr (by simpa using hy));simp only[this]
theorem qny {h h':List Blk}{ev:Operand->AV}{t:TypeId}{len:Nat}{ps:Array (Nat×Operand)}(hl:h'.length=h.length):qc3 E h' ev (.buildSlice t len ps)=qc3 E h ev (.buildSlice t len ps):=by
 unfold qc3;simp only;split
 ·split
  ·split
   ·split
    ·rename_i hc;rw[qhV (h':=h) _ _ hc.2,hl]
    ·rfl
   ·rfl
  ·rfl
 ·rfl
theorem qsU {h h':List Blk}{x:AV}{c:Nat}(H:∀b,b∈x.men->h'[b]?=h[b]?)(hc:h'[c]?=h[c]?)(hl:h'.length=h.length):(j6 h' x)[c]?=(j6 h x)[c]?:=by
 cases x<;>first|exact hc|skip
 rename_i b;have hb:=H b (by simp[AV.men]);show (zm h' b)[c]?=(zm h b)[c]?;unfold zm;rw[hb];split
 ·rename_i e sh l hv;by_cases hcb:c=b
  ·subst hcb;rw[qxN (by rw[hl];exact qj hv),qxN (qj hv)]
  ·rw[qxD (fun e=>hcb e.symm),qxD (fun e=>hcb e.symm)];exact hc
 ·exact hc
theorem qm4 {h h':List Blk}{t:TypeId}{s x u:AV}{r:List Blk}{R:List Nat}(hR:∀b,(b=k\/b∈s.men\/b∈x.men)->b∈R)(H:∀b,b∈R->h'[b]?=h[b]?)(hl:h'.length=h.length)(hr:(qmp E h t s x k).run=some (u,r)):r.length=h.length/\(∀b,b∉R->r[b]?=h[b]?)/\∃r',(qmp E h' t s x k).run=some (u,r')/\r'.length=h.length/\(∀b,b∉R->r'[b]?=h'[b]?)/\(∀b,b∈R->r'[b]?=r[b]?):=by
 have hk:∀b,b∉R->b≠k:=fun b hb e=>hb (hR b (.inl e));have hx:∀b,b∉R->b∉x.men:=fun b hb e=>hb (hR b (.inr (.inr e)));have hro:wn h' x=wn h x:=qlI fun b hb=>H b (hR b (.inr (.inr hb)));have hfa:∀c,c∈R->(j6 h' x)[c]?=(j6 h x)[c]?:=fun c hc=>qsU (fun b hb=>H b (hR b (.inr (.inr hb)))) (H c hc) hl;unfold qmp at hr ⊢;cases htd:(E.ty t).d<;>rw[htd] at hr<;>simp only at hr ⊢<;>first|(cases hr;done)|skip
 rename_i e es;rw[hro];split at hr
 case h_2=>cases hr
 rename_i sh sh' m hsh hrw;split at hr
 case isFalse=>cases hr
 rename_i hc;split at hr
 ·
  obtain⟨g1,g2⟩:=brR hr;simp only[Tree.run,qxB,qxX] at g2;obtain⟨rfl,rfl⟩:=g2;refine⟨by simp[qY],fun b hb=>?_,(j6 h' x).set k (.vec e sh m),?_,by simp[qY,hl],fun b hb=>?_,fun b hb=>?_⟩
  ·rw[qxD (fun e=>hk b hb e.symm),q0t (hx b hb)]
  ·simp only[if_pos hc,Tree.run,g1]
  ·rw[qxD (fun e=>hk b hb e.symm),q0t (hx b hb)]
  ·exact q9R (by simp[qY,hl]) fun _=>hfa b hb
 ·rename_i b0;split at hr
  case h_2=>cases hr
  rename_i e' sh'' l hbk;split at hr
  case isFalse=>cases hr
  rename_i hq;obtain⟨g1,g2⟩:=brR hr;simp only[Tree.run,qxB,qxX] at g2;obtain⟨rfl,rfl⟩:=g2;have hb0:b0∈R:=hR b0 (.inr (.inl (by simp[AV.men])));have hs:∀b,b∉R->b≠b0:=fun b hb e=>hb (e▸hb0);refine⟨by simp[qY],fun b hb=>?_,((j6 h' x).set b0 .dead).set k (.vec e sh (q1i l m)),?_,by simp[qY,hl],fun b hb=>?_,fun b hb=>?_⟩
  ·rw[qxD (fun e=>hk b hb e.symm),qxD (fun e=>hs b hb e.symm),q0t (hx b hb)]
  ·simp only[if_pos hc,H b0 hb0,hbk,if_pos hq,Tree.run,g1]
  ·rw[qxD (fun e=>hk b hb e.symm),qxD (fun e=>hs b hb e.symm),q0t (hx b hb)]
  ·exact q9R (by simp[qY,hl]) fun _=>q9R (by simp[qY,hl]) fun _=>hfa b hb
 ·
  rename_i sh'' l;split at hr
  case isFalse=>cases hr
  rename_i hq;obtain⟨g0,hr⟩:=brR hr;obtain⟨g1,g2⟩:=brR hr;simp only[Tree.run,qxB,qxX] at g2;obtain⟨rfl,rfl⟩:=g2;refine⟨by simp[qY],fun b hb=>?_,(j6 h' x).set k (.vec e sh (q1i l m)),?_,by simp[qY,hl],fun b hb=>?_,fun b hb=>?_⟩
  ·rw[qxD (fun e=>hk b hb e.symm),q0t (hx b hb)]
  ·simp only[if_pos hc,if_pos hq,Tree.run,g0,g1]
  ·rw[qxD (fun e=>hk b hb e.symm),q0t (hx b hb)]
  ·exact q9R (by simp[qY,hl]) fun _=>hfa b hb
 ·cases hr
theorem qhj (l m:List AV):AV.menL (l++m)=AV.menL l++AV.menL m:=by
 induction l with
 | nil=>rfl
 | cons a l ih=>simp only[qyn,AV.menL,ih,qyb]
theorem qmx {h h':List Blk}{u:AV}{r:List Blk}{R:List Nat}(_:∀b,(b=k\/b∈AV.menL args)->b∈R)(_:∀b,b∈R->h'[b]?=h[b]?)(_:h'.length=h.length)(hr:(qjB E h e args k).run=some (u,r)):r.length=h.length/\(∀b,b∉R->r[b]?=h[b]?)/\∃r',(qjB E h' e args k).run=some (u,r')/\(∀b,b∉R->r'[b]?=h'[b]?)/\(∀b,b∈R->r'[b]?=r[b]?):=by unfold qjB at hr;cases hr
theorem qtF {h h':List Blk}{ev:Operand->AV}{R:List Nat}(hR:qvN E ev op=some R)(H:∀b,b∈R->h'[b]?=h[b]?):qe2 E h' ev op=qe2 E h ev op:=by
 unfold qe2;unfold qvN at hR;cases hv:qaQ op with
 | false=>rfl
 | true=>
  rw[hv] at hR;simp only at hR ⊢;cases hc:vr ev op with
  | none=>rfl
  | some q=>
   obtain⟨f,args⟩:=q;rw[hc] at hR;simp only at hR ⊢;cases hs:qaS E f with
   | none=>rfl
   | some G=>
    rw[hs] at hR;simp only[qxB] at hR ⊢;subst hR;rw[kd args H];have:(args.flatMap zv).all (qcs h')=(args.flatMap zv).all (qcs h):=qo4 fun b hb=>by unfold qcs;rw[H b (ql2 hb)]
    rw[this]
theorem qjN {callS:List Blk->q32}(hmo:q2z E callS){h h':List Blk}{ev:Operand->AV}{u:AV}{r:List Blk}{R:List Nat}(hR:(wx E h ev op k u r).r=some R)(H:∀b,b∈R->h'[b]?=h[b]?) (hl:h'.length=h.length) (hr:(q1x E callS h ev op k).run=some (u,r)) :r.length=h.length/\(∀b,b∉(wx E h ev op k u r).w->r[b]?=h[b]?)/\(q1x E callS h' ev op k).run=some (u,q7Q (wx E h ev op k u r).w r h'):=by
 unfold q1x wx at *;cases hloc:qiN E op with
 | false=>
  rw[hloc] at hr hR;simp only at hr hR ⊢;cases heff:qe2 E h ev op with
  | true=>
   rw[heff] at hr hR;simp only[qxB] at hr hR ⊢;subst hR;obtain⟨q,k1,k2⟩:=bind_some hr;split at k2
   case h_2=>cases k2
   rename_i hbq;cases k2;have hg:=qyf hbq;obtain⟨g',q1,q2,q3,q4⟩:=qn9 k1 hl H hg;have heff':qe2 E h' ev op=true:=qtB heff H;refine⟨hg,fun b hb=>?_,?_⟩
   ·rcases qxG b h.length with hlt|hge
    ·exact qhk k1 hlt hb
    ·rw[qxR hge,qxR (by simp only at hg;omega)]
   ·rw[heff'];simp only;rw[Tree.run_bind,q1];simp only[qy3];rw[show Nat.beq g'.length h'.length=true from by rw[q2];exact Nat.beq_refl _];simp only[Tree.run];rw[<-q00 (k':=g') (by simp only at hg;omega) q3 q4]
  | false=>
   rw[heff] at hr hR;simp only at hr hR ⊢;obtain⟨v,k1,k2⟩:=bind_some hr;simp only[Tree.run,qxB,qxX] at k2;obtain⟨rfl,rfl⟩:=k2;refine⟨rfl,fun _ _=>rfl,?_⟩;rw[qtF hR H,heff];simp only;rw[Tree.run_bind,qlG hmo hR H k1];simp only[qy3,Tree.run];rw[<-q00 (k':=h') hl.symm (fun b hb=>by cases hb) (fun _ _=>rfl)]
 | true=>
  rw[hloc] at hr hR;simp only[qxB] at hr hR ⊢;subst hR;have hk:=H k qxM;cases hdd:qjg h[k]? with
  | false=>rw[hdd] at hr;cases hr
  | true=>
   rw[hdd] at hr;rw[hk,hdd];simp only at hr ⊢;split at hr
   ·rename_i t len parts;obtain⟨q,k1,k2⟩:=bind_some hr;simp only[Tree.run,qxB,qxX] at k2;obtain⟨rfl,rfl⟩:=k2;refine⟨by simp,fun b hb=>?_,?_⟩
    ·simp only[qxP,not_or] at hb;rw[qxD (fun e=>hb.1 e.symm)]
    ·rw[qny hl,Tree.run_bind,k1];simp only[qy3,Tree.run];rw[<-q00 (k':=h'.set k q.2) (by simp[hl]) (fun b hb=>q9R hl fun _=>H b hb) (fun b hb=>by simp only[qxP,not_or] at hb;rw[qxD (fun e=>hb.1 e.symm)])]
   ·rename_i t;unfold qks at hr ⊢;split at hr
    case h_2=>cases hr
    split at hr
    case h_2=>cases hr
    simp only[Tree.run,qxB,qxX] at hr;obtain⟨rfl,rfl⟩:=hr;rename_i _ z hz _ hzm;refine⟨by simp,fun b hb=>?_,?_⟩
    ·simp only[qxP,not_or] at hb;rw[qxD (fun e=>hb.1 e.symm)]
    ·simp only[Tree.run];rw[<-q00 (k':=h'.set k z) (by simp[hl]) (fun b hb=>q9R hl fun _=>H b hb) (fun b hb=>by simp only[qxP,not_or] at hb;rw[qxD (fun e=>hb.1 e.symm)])]
   ·rename_i args tys;have hmen:qiT ev (.call { callee:=.builtin .append,args:=args,argTypes:=tys })=AV.menL (args.toList.map ev):=by unfold qiT vr;simp[Op.operands,Call.operands]
    rw[hmen] at H ⊢;unfold qmL at hr ⊢;generalize args.toList.map ev=als at *;split at hr
    case h_2=>cases hr
    rename_i t t' sa xa htys;split at hr
    case isFalse=>cases hr
    rename_i htt;have hR':∀b,(b=k\/b∈sa.men\/b∈xa.men)->b∈k::AV.menL [sa,xa]:=by intro b hb;simp only[AV.menL,qyD,qxP,qxY];exact hb
    obtain⟨q1,q2,r',q3,q4,q5,q6⟩:=qm4 hR' H hl hr;refine⟨q1,q2,?_⟩;simp only[if_pos htt];rw[q3,<-q00 (k':=r') (by rw[q1,hl]) q6 q5]
   ·unfold qjX at hr ⊢;cases hc:qfa op with
    | none=>rw[hc] at hr;cases hr
    | some q=>
    obtain⟨fn,xs⟩:=q;rw[hc] at hr;obtain⟨args,tys,rfl,rfl⟩:=qeS hc;have hmen:qiT ev (.call { callee:=.value (.func fn),args:=args,argTypes:=tys })=AV.menL (args.toList.map ev)\/AV.menL (args.toList.map ev) ⊆ qiT ev (.call { callee:=.value (.func fn),args:=args,argTypes:=tys }):=by
     right;unfold qiT;cases hco:vr ev (.call { callee:=.value (.func fn),args:=args,argTypes:=tys }) with
     | none=>
      simp only[Op.operands,Call.operands,qzb,qyS];intro b hb;rw[qhj];exact qya _ hb
     | some q=>
      obtain⟨g,azz⟩:=q;unfold vr at hco;simp only at hco;split at hco
      ·cases hco;intro b hb;simp only[qhj];exact qyk _ (qya _ hb)
      ·cases hco
    have hsub:∀b,b∈AV.menL (args.toList.map ev)->b∈k::qiT ev (.call { callee:=.value (.func fn),args:=args,argTypes:=tys }):=by
     intro b hb;rcases hmen with e|e
     ·rw[e];exact qxQ _ hb
     ·exact qxQ _ (e hb)
    generalize qiT ev (.call { callee:=.value (.func fn),args:=args,argTypes:=tys })=M at *;simp only at hr ⊢;split at hr
    ·rename_i e hde;obtain⟨q1,q2,r',q3,q4,q5⟩:=qmx (R:=k::M) (fun b hb=>hb.elim (fun e=>e▸qxM) (hsub b)) H hl hr;refine⟨q1,q2,?_⟩;rw[q3,<-q00 (k':=r') (by rw[q1,hl]) q5 q4]
    ·unfold qro at hr ⊢;split at hr
     case h_2=>cases hr
     split at hr
     case h_2=>cases hr
     rename_i hme;obtain⟨q,k1,k2⟩:=bind_some hr;split at k2
     case h_2=>cases k2
     rename_i e sh l;simp only[Tree.run,qxB,qxX] at k2;obtain⟨rfl,rfl⟩:=k2;have hfr:∀c,c∈k::M->(qx h' ((args.toList.map ev).flatMap zv))[c]?=(qx h ((args.toList.map ev).flatMap zv))[c]?:=fun c hc=>qbp _ _ _ hl (H c hc);have hle:=kd (args.toList.map ev) fun b hb=>hfr b (hsub b hb);have out:∀(g:List Blk) (c:Nat),c∉k::M->((qx g ((args.toList.map ev).flatMap zv)).set k (.vec e sh l))[c]?=g[c]?:=fun g c hc'=>by rw[qxD (fun e'=>hc' (by rw[<-e'];exact qxM)),q97 _ _ fun hm=>hc' (hsub c (ql2 hm))]
     refine⟨by simp[vW],out h,?_⟩;rw[hle,hme];simp only;rw[Tree.run_bind,k1];simp only[qy3,Tree.run];rw[<-q00 (k':=(qx h' ((args.toList.map ev).flatMap zv)).set k (.vec e sh l)) (by simp[vW,hl]) (fun c hc'=>q9R (by simp[vW,hl]) fun _=>hfr c hc') (out h')]
def inR(r:Option (List Nat))(b:Nat):Prop:=∀R,r=some R->b∈R
theorem qlr {callS:List Blk->q32}{h g:List Blk}{ev:Operand->AV}{u:AV}(hR:(wx E h ev op k u g).r=none)(hr:(q1x E callS h ev op k).run=some (u,g)):(wx E h ev op k u g).w=[]/\g=h:=by
 unfold wx at *;unfold q1x at hr;cases hl:qiN E op with
 | true=>rw[hl] at hR;cases hR
 | false=>
  rw[hl] at hR hr;simp only at hR hr ⊢;cases he:qe2 E h ev op with
  | true=>rw[he] at hR;cases hR
  | false=>
   rw[he] at hr;obtain⟨v,k1,k2⟩:=bind_some hr;cases k2;exact⟨rfl,rfl⟩
theorem qbR {callS:List Blk->q32}(hmo:q2z E callS){h h':List Blk}{ev:Operand->AV}{u:AV}{r:List Blk}(H:∀b,inR (wx E h ev op k u r).r b->h'[b]?=h[b]?) (hl:h'.length=h.length) (hr:(q1x E callS h ev op k).run=some (u,r)) :r.length=h.length/\(∀b,b∉(wx E h ev op k u r).w->r[b]?=h[b]?)/\(q1x E callS h' ev op k).run=some (u,q7Q (wx E h ev op k u r).w r h'):=by
 cases hR:(wx E h ev op k u r).r with
 | some R=>exact qjN hmo hR (fun b hb=>H b fun R' e=>by rw[hR] at e;cases e;exact hb) hl hr
 | none=>
  have e:h'=h:=qyc fun b=>H b fun R e=>by rw[hR] at e;cases e
  subst e;obtain⟨hw,hg⟩:=qlr hR hr;rw[hw];have:q7Q [] r h'=r:=by rw[hg];exact(q00 (k':=h') rfl (fun _ hb=>by cases hb) fun _ _=>rfl).symm
  rw[this];exact⟨by rw[hg],fun b _=>by rw[hg],hr⟩
theorem qmi (_:E.tok P)(_:qf6 P f e)(_:Sim E B X st a){vargs:List Value}(_:RepL X args vargs){r:AV×St}(h:(qqX E e args st).run=some r):Calls P f vargs.toArray X.w fun x w'=>∃v X',x=.returned v/\X'.w=w'/\Rep X' r.1 v/\Sim E B X' r.2 a:=by unfold qqX at h;cases h
end Go.Eng

namespace Go.Eng
variable {E:Env}{k:Nat}{op:Op}
inductive LocOK (E:Env) (callS:List Blk->q32) (all:Array Oper) (c:Nat) (i:Nat) (o:Oper) (T:List AV) (v:AV) (h h':List Blk) (d:Option LDesc):Prop
 | out (h1:q2o all o T=some false) (h2:v=.skip) (h3:h'=h) (h4:d=none)
 | op (u:AV) (h1:q2o all o T=some true) (h2:(q1x E callS h (E.opd T) o.op c).run=some (u,h')) (h3:v=qmR all i u) (h4:d=some (wx E h (E.opd T) o.op c u h'))
   (h5:∀b,b∈(wx E h (E.opd T) o.op c u h').v->b<h.length)
theorem qqF {h g:List Blk}{ev:Operand->AV}{u:AV}{b:Nat}(hb:b∈u.men):b∈(wx E h ev op k u g).v:=by
 unfold wx;split
 ·exact qyk _ hb
 ·split
  ·exact qyk _ hb
  ·exact hb
theorem qsl {h g:List Blk}{ev:Operand->AV}{u:AV}{b c:Nat}{z:Blk}(hb:b∈(wx E h ev op k u g).w)(hz:g[b]?=some z)(hc:c∈z.menB):c∈(wx E h ev op k u g).v:=by
 unfold wx at *;split at hb
 ·exact qya _ (qee hz hc _ hb)
 ·split at hb
  ·exact qya _ (qee hz hc _ hb)
  ·cases hb
theorem qlv {h g:List Blk}{ev:Operand->AV}{u:AV}(hl:qiN E op=true):(wx E h ev op k u g).s=some k:=by unfold wx;rw[hl]
theorem qjA{E:Env}{callS:List Blk->q32}{all:Array Oper}{anc:List Nat}:∀(l:List Oper) (k c:Nat) (ds:List (Nat×LDesc)) (st st':St),
  (qn3 E callS all anc k l c ds st).run=some st' ->
  ∃(V:Nat->AV) (H:Nat->List Blk) (D:Nat->Option LDesc) (S:Nat->Nat),(∀j,c<=S (k+j))/\H k=st.h/\st'={ st with t:=q8d V k l st.t,h:=H (k+l.length) } /\
   (∀j o,l[j]?=some o->LocOK E callS all (S (k+j)) (k+j) o (q8d V k (l.take j) st.t) (V (k+j)) (H (k+j)) (H (k+j+1)) (D (k+j))) /\
   (∀j d,j<l.length->D (k+j)=some d->∀x,x∈ds->qal anc x (k+j) d=true) /\
   (∀j j' d d',j<j'->j'<l.length->D (k+j)=some d->D (k+j')=some d'->qal anc (k+j,d) (k+j') d'=true)
 | [],k,c,ds,st,st',h=>by
  simp only[qn3,Tree.run,qxB] at h;subst h;exact⟨fun _=>.undef,fun _=>st.h,fun _=>none,fun _=>c,fun _=>qxC _,rfl,rfl,fun j o hj=>by simp at hj,fun j d hj=>by simp at hj,fun j j' _ _ _ hj=>by simp at hj⟩
 | o::rest,k,c,ds,st,st',h=>by
  have fin:∀(v:AV) (h':List Blk) (d:Option LDesc) (c':Nat) (ds':List (Nat×LDesc)),c<=c'->LocOK E callS all c k o st.t v st.h h' d->(∀d0,d=some d0->∀x,x∈ds->qal anc x k d0=true)->(∀x,x∈ds->x∈ds')->(∀d0,d=some d0->(k,d0)∈ds') ->
    (qn3 E callS all anc (k+1) rest c' ds' { st with t:=qbY st.t o.dst v,h:=h' }).run=some st' ->
    ∃(V:Nat->AV) (H:Nat->List Blk) (D:Nat->Option LDesc) (S:Nat->Nat),(∀j,c<=S (k+j))/\H k=st.h/\st'={ st with t:=q8d V k (o::rest) st.t,h:=H (k+(o::rest).length) } /\
   (∀j o',(o::rest)[j]?=some o'->LocOK E callS all (S (k+j)) (k+j) o' (q8d V k ((o::rest).take j) st.t) (V (k+j)) (H (k+j)) (H (k+j+1)) (D (k+j))) /\
   (∀j d,j<(o::rest).length->D (k+j)=some d->∀x,x∈ds->qal anc x (k+j) d=true) /\
   (∀j j' d d',j<j'->j'<(o::rest).length->D (k+j)=some d->D (k+j')=some d'->qal anc (k+j,d) (k+j') d'=true):=by
   intro v h' d c' ds' hcc hmx hcr hds hd hr;obtain⟨V,H,D,S,e0,e1,e2,e3,e4,e5⟩:=qjA rest (k+1) c' ds' _ st' hr;have hfold:∀(l:List Oper) (t:List AV),q8d (fun j=>if j=k then v else V j) (k+1) l t=q8d V (k+1) l t:=fun l t=>qhN l (k+1) t fun j hj=>if_neg (by omega);refine⟨fun j=>if j=k then v else V j,fun j=>if j=k then st.h else H j,fun j=>if j=k then d else D j,fun j=>if j=k then c else S j,fun j=>?_,by simp,?_,?_,?_,?_⟩
   ·cases j with
    | zero=>simp
    | succ j=>
     have:=e0 j;simp only[show k+(j+1)=k+1+j by omega,show ¬k+1+j=k by omega,if_false];omega
   ·rw[e2];simp only[q8d,if_true,qy9];rw[hfold,if_neg (by omega),show k+(rest.length+1)=k+1+rest.length by omega]
   ·intro j o' hj;cases j with
    | zero=>
     simp only[qyr,qxB] at hj;subst hj;simp only[qyd,if_true,List.take_zero,q8d];rw[if_neg (by omega),e1];exact hmx
    | succ j=>
     have:=e3 j o' (by simpa using hj);simp only[List.take_succ_cons,q8d,if_true];rw[hfold,show k+(j+1)=k+1+j by omega,if_neg (by omega),if_neg (by omega),if_neg (by omega),if_neg (by omega),if_neg (by omega)];exact this
   ·intro j d0 hj hdj x hx;cases j with
    | zero=>simp only[qyd,if_true] at hdj ⊢;exact hcr d0 hdj x hx
    | succ j=>
     simp only at hdj;rw[show k+(j+1)=k+1+j by omega,if_neg (by omega)] at hdj;have:=e4 j d0 (by simpa using hj) hdj x (hds x hx);rw[show k+(j+1)=k+1+j by omega];exact this
   ·intro j j' d0 d0' hjj hj' hdj hdj';obtain⟨j'',rfl⟩:∃x,j'=x+1:=⟨j'-1,by omega⟩;have hl:j''<rest.length:=by simpa using hj'
    simp only at hdj hdj';rw[show k+(j''+1)=k+1+j'' by omega,if_neg (by omega)] at hdj';rw[show k+(j''+1)=k+1+j'' by omega];cases j with
    | zero=>
     simp only[qyd,if_true] at hdj ⊢;exact e4 j'' d0' hl hdj' _ (hd d0 hdj)
    | succ j=>
     rw[show k+(j+1)=k+1+j by omega,if_neg (by omega)] at hdj;rw[show k+(j+1)=k+1+j by omega];exact e5 j j'' d0 d0' (by omega) hl hdj hdj'
  simp only[qn3] at h;cases hw:q2o all o st.t with
  | none=>rw[hw] at h;cases h
  | some b=>
   rw[hw] at h;cases b with
   | true=>
    simp only at h;obtain⟨r,h1,h2⟩:=bind_some h;split at h2
    ·rename_i hall;simp only[qxL,qxV] at hall;obtain⟨c2,c3⟩:=hall;obtain⟨s,h3,h4⟩:=bind_some h2;obtain⟨u,h'⟩:=r;obtain rfl:=qs8 (st:={ st with h:=h' }) h3;exact fin _ h' (some (wx E st.h (E.opd st.t) o.op c u h')) _ _ (by split<;>omega) (.op u hw h1 rfl rfl fun b hb=>Nat.blt_eq.mp (c2 b hb)) (fun d0 he x hx=>by cases he;exact c3 x hx) (fun x hx=>qyk _ hx) (fun d0 he=>by cases he;exact qya _ qxM) h4
    ·cases h2
   | false=>
    simp only at h;exact fin .skip st.h none c ds (qxC _) (.out hw rfl rfl rfl) (fun d0 he=>by cases he) (fun x hx=>hx) (fun d0 he=>by cases he) h
section
variable (W:Nat->List Nat) (H:Nat->List Blk) (h0:List Blk)
def hLp(L:Nat->Bool):Nat->List Blk
 | 0=>h0
 | m+1=>if L m=true then q7Q (W m) (H (m+1)) (hLp L m) else hLp L m
variable {W H h0}
theorem q5K(L:Nat->Bool):∀m,(hLp W H h0 L m).length=h0.length
 | 0=>rfl
 | m+1=>by simp only[hLp];split<;>simp[qpX,q5K L m]
theorem qmX{L:Nat->Bool}{b lo:Nat}:∀m,lo<=m->(∀j,lo<=j->j<m->L j=true->b∉W j)->(hLp W H h0 L m)[b]?=(hLp W H h0 L lo)[b]?
  | 0, h, _ => by have : lo = 0 := by omega
                  rw[this]
  | m+1,h,hj=>by
    rcases qyJ h with rfl|h
    · rfl
    · rw[<-qmX m (by omega) fun j h1 h2=>hj j h1 (by omega)]
      simp only[hLp];split
      · rename_i hl
        exact qbb (hj m (by omega) (by omega) hl)
      · rfl
theorem qjV{L L':Nat->Bool}{b:Nat}(hH:∀m,(H m).length=h0.length):∀m,(∀j,j<m->b∈W j->L j=L' j)->(hLp W H h0 L m)[b]?=(hLp W H h0 L' m)[b]?
 | 0,_=>rfl
 | m+1,hj=>by
  have ih:=qjV (L:=L) (L':=L') hH m fun j h1=>hj j (by omega);by_cases hb:b∈W m
  ·have:=hj m (by omega) hb;simp only[hLp];rw[this];split
   ·rw[qa2 hb (by rw[q5K,hH]),qa2 hb (by rw[q5K,hH])]
   ·exact ih
  ·have out:∀L:Nat->Bool,(hLp W H h0 L (m+1))[b]?=(hLp W H h0 L m)[b]?:=fun L=>by
    simp only[hLp];split
    ·exact qbb hb
    ·rfl
   rw[out,out,ih]
theorem qhM{L L':Nat->Bool}:∀m,(∀j,j<m->L j=L' j)->hLp W H h0 L m=hLp W H h0 L' m
 | 0,_=>rfl
 | m+1,h=>by
  simp only[hLp];rw[h m (qyW m),qhM m fun j hj=>h j (by omega)]
theorem qrY(hk:∀i,(H (i+1)).length=(H i).length/\∀b,b∉W i->(H (i+1))[b]?=(H i)[b]?)(h1:H 0=h0):∀m,hLp W H h0 (fun _=>true) m=H m
 | 0=>h1.symm
 | m+1=>by
  simp only[hLp,if_true];rw[qrY hk h1 m];exact(q00 (hk m).1 (fun _ _=>rfl) (hk m).2).symm
theorem qsm {L:Nat->Bool}{i m:Nat}(hi:i<m)(hL:L i=false)(hH:∀m,(H m).length=h0.length)(hu:∀j,i<j->j<m->L j=true->∀b,b∈W i->b∉W j) :hLp W H h0 (fun j=>if j=i then true else L j) m=q7Q (W i) (H (i+1)) (hLp W H h0 L m):=by
 refine q00 (by rw[hH,q5K]) (fun b hb=>?_) (fun b hb=>?_)
 ·rw[qmX (lo:=i+1) m (by omega) fun j h1 h2 h3=>hu j (by omega) h2 (by rwa [if_neg (by omega)] at h3) b hb];simp only[hLp,if_true];exact qa2 hb (by rw[q5K,hH])
 ·refine qjV hH m fun j _ hbj=>if_neg fun e=>?_;subst e;exact hb hbj
theorem qva {h:List Blk}{c:Nat}(hb:∀(b:Nat) (k:Blk),h[b]?=some k->c∉k.menB):c∉q77 h:=by
 induction h with
 | nil=>intro h;cases h
 | cons k h ih=>
  simp only[q77,qxY,not_or];exact⟨hb 0 k rfl,ih fun b k' hk=>hb (b+1) k' (by simpa using hk)⟩
theorem qsJ{L:Nat->Bool}{c:Nat}(hH:∀m,(H m).length=h0.length)(h1:c∉q77 h0):∀m,(∀j,j<m->L j=true->∀b z,b∈W j->(H (j+1))[b]?=some z->c∉z.menB)->c∉q77 (hLp W H h0 L m)
 | 0,_=>h1
 | m+1,h2=>by
  have ih:=qsJ (L:=L) hH h1 m fun j hj=>h2 j (by omega);simp only[hLp];split
  ·rename_i hL;refine qva fun b k hk=>?_;by_cases hb:b∈W m
   ·rw[qa2 hb (by rw[q5K,hH])] at hk;exact h2 m (qyW m) hL b k hb hk
   ·rw[qbb hb] at hk;exact qgo ih hk
  ·exact ih
end
theorem qjj {w:List Nat}{r:Option (List Nat)}(h:qtL w r=true):∀b,b∈w->¬inR r b:=by
 intro b hb hi;cases w with
 | nil=>cases hb
 | cons a w=>
  cases r with
  | none=>cases h
  | some R=>
   simp only[qtL,qxV,qyw,List.contains_eq_mem,decide_eq_false_iff_not] at h;exact h b hb (hi R rfl)
def wOf(D:Nat->Option LDesc)(j:Nat):List Nat:=match D j with
 | some d=>d.w
 | none=>[]
theorem qp4 {v:List Nat}(h:qwX (some k) v=false):k∉v:=by simpa[qwX] using h
theorem qw1 {h g:List Blk}{ev:Operand->AV}{u:AV}{R:List Nat}(hR:(wx E h ev op k u g).r=some R):∀b,b∈(wx E h ev op k u g).w->b∈R:=by
 unfold wx at *;split at hR
 ·simp only[qxB] at hR;subst hR;exact fun b hb=>hb
 ·split at hR
  ·simp only[qxB] at hR;subst hR;exact fun b hb=>qya _ hb
  ·intro b hb;cases hb
section
variable {E:Env} {P:Program} {callS:List Blk->q32} {B:Base} {all:Array Oper} {V:Nat->AV} {T0:List AV} {H:Nat->List Blk} {D:Nat->Option LDesc} {fs:List (List AV)} {pd:Option Ex} {Q:Exit->Act->World->Prop} {n0 m base:Nat} {S:Nat->Nat}
theorem qqY (hE:E.tok P)(hS:E.specs P)(hc:qcp E P callS)(hmo:q2z E callS)(hd:DrawOk all)(hms:m<=all.size)(hV:∀i o,all[i]?=some o->i<m->LocOK E callS all (S i) i o (TLp (jr all) V T0 (fun _=>true) i) (V i) (H i) (H (i+1)) (D i))(hX:∀i j d d',i<j->j<m->D i=some d->D j=some d'->qal (q9M all.toList) (i,d) j d'=true)(hcon:∀i,m<=i->H i=H m) (_:∀i,m<=i->D i=none)(hlen:base<=(H 0).length) (hSb:∀i,base<=S i) (hT0:∀c,base<=c->c∉AV.menL T0) (hfs:∀c,base<=c->c∉qdZ fs) (hH0:∀c,base<=c->c∉q77 (H 0))(hq:all.size<=m->∀X a,Sim E B X { t:=TLp (jr all) V T0 (fun _=>true) all.size,fs:=fs,pend:=pd,h:=H m } a->Q .normal a X.w)(hlast:∀i fuel listed X a,i<all.size->m<=i->listed.size=all.size->i∈Region.ready .any all listed->qfQ all (fun j=>listed.getD j false)->(∀j,m<=j->j<all.size->listed.getD j false=false)->(∀j,j<m->listed.getD j false=true) ->Sim E B X { t:=TLp (jr all) V T0 (fun j=>listed.getD j false) all.size,fs:=fs,pend:=pd,h:=H m } a ->unl listed all.size<=fuel+1->wpOpIn (q1C B.ro) n0 P all Q i (wpAnyIn (q1C B.ro) n0 P .any all Q fuel (listed.setIfInBounds i true)) a X.w)(hsuf:∀i j,m<=i->i<all.size->j<i->((q9M all.toList).getD i 0).testBit j=true) :∀(fuel:Nat) (listed:Array Bool) (X:Ctx) (a:Act),listed.size=all.size->qfQ all (fun j=>listed.getD j false)->(∀i,m<=i->i<all.size->listed.getD i false=false) ->unl listed all.size<=fuel->Sim E B X { t:=TLp (jr all) V T0 (fun j=>listed.getD j false) all.size,fs:=fs,pend:=pd,h:=hLp (wOf D) H (H 0) (fun j=>listed.getD j false) m } a->wpAnyIn (q1C B.ro) n0 P .any all Q fuel listed a X.w:=by
 intro fuel;have step:∀i,(H (i+1)).length=(H i).length/\∀b,b∉wOf D i->(H (i+1))[b]?=(H i)[b]?:=by
  intro i;rcases qxG i m with him|him
  ·have hi:i<all.size:=by omega
   cases hV i _ (qz0 hi) him with
   | out h1 h2 h3 h4=>rw[h3];exact⟨rfl,fun _ _=>rfl⟩
   | op u h1 h2 h3 h4 h5=>
    obtain⟨q1,q2,_⟩:=qbR (h':=H i) hmo (fun _ _=>rfl) rfl h2;refine⟨q1,?_⟩;unfold wOf;rw[h4];exact q2
  ·rw[hcon i him,hcon (i+1) (by omega)];exact⟨rfl,fun _ _=>rfl⟩
 have hlenA:∀i,(H i).length=(H 0).length:=by
  intro i;induction i with
  | zero=>rfl
  | succ i ih=>rw[(step i).1,ih]
 have hall:∀i,hLp (wOf D) H (H 0) (fun _=>true) i=H i:=qrY step rfl;have toEnd:∀(listed:Array Bool),(∀j,j<m->listed.getD j false=true)->hLp (wOf D) H (H 0) (fun j=>listed.getD j false) m=H m:=by intro listed h;rw[<-hall m];exact qhM m h
 have fin:∀(listed:Array Bool) (X:Ctx) (a:Act),listed.size=all.size->(∀i,m<=i->i<all.size->listed.getD i false=false)->Region.ready .any all listed=[] ->
   Sim E B X { t:=TLp (jr all) V T0 (fun j=>listed.getD j false) all.size,fs:=fs,pend:=pd,h:=hLp (wOf D) H (H 0) (fun j=>listed.getD j false) m } a->Q .normal a X.w:=by
  intro listed X a hsz hm hr hs;have hal:=qml hd hsz hr;rcases qxG m all.size with hlt|hge
  ·have:=hm m (qxC _) hlt;rw[hal m hlt] at this;cases this
  ·rw[toEnd listed fun j hj=>hal j (by omega)] at hs;rw[stL (L':=fun _=>true) all.size fun j hj=>hal j hj] at hs;exact hq hge X a hs
 induction fuel with
 | zero=>
  intro listed X a hsz hcl hm hu hs;have hr:Region.ready .any all listed=[]:=by
   apply List.eq_nil_iff_forall_not_mem.2;intro j hj;rw[mem_ready] at hj;obtain⟨h1,o,h2,_⟩:=hj;have hj':=(qxI.1 h2).1;have:=qkl (listed:=listed) (Nat.le_zero.1 hu) j hj';have hj2:j<listed.size:=by omega
   simp[hj2] at this h1;rw[this] at h1;cases h1
  exact⟨hr,fin listed X a hsz hm hr hs⟩
 | succ fuel ih=>
  intro listed X a hsz hcl hm hu hs;refine⟨fun hr=>fin listed X a hsz hm hr hs,fun i hi=>?_⟩;have hri:=hi;rw[mem_ready] at hi;obtain⟨h1,o,ho,hedge⟩:=hi;have hin:=(qxI.1 ho).1;have hil:i<listed.size:=by omega
  have hLi:listed.getD i false=false:=by simpa[qyz,hil] using h1
  have hedge':∀e,e∈o.after.toList->Region.binds .any e=true->listed.getD e.on false=true:=fun e he hb=>hedge e (by simpa using he) hb;have hcl':=qff hsz ho hcl hedge';have before:∀k,k≠i->qwc (q9M all.toList) i k=true->listed.getD k false=true:=by
   intro k hki hk;have:=qjo hd hcl' i k (by show (listed.setIfInBounds i true).getD i false=true;rw[uv hil,if_pos rfl]) hk;have h':(listed.setIfInBounds i true).getD k false=true:=this
   rwa [uv hil,if_neg hki] at h'
  have behind:∀k,qwc (q9M all.toList) k i=true->listed.getD k false=false:=by
   intro k hk;cases hl:listed.getD k false with
   | false=>rfl
   | true=>
    have:=qjo hd hcl k i hl hk;have h':listed.getD i false=true:=this;rw[hLi] at h';cases h'
  rcases qxG i m with him|him
  ·have hv:=hV i o ho him;have hsame:∀t,t∈qpS all o->(TLp (jr all) V T0 (fun j=>listed.getD j false) all.size)[t]?=(TLp (jr all) V T0 (fun _=>true) i)[t]?:=fun t ht=>
    qvF hd hcl ho (Nat.le_of_lt hin) hLi hedge' ht
   have hopd:∀x,x∈o.op.operands.toList->E.opd (TLp (jr all) V T0 (fun j=>listed.getD j false) all.size) x=E.opd (TLp (jr all) V T0 (fun _=>true) i) x:=fun x hx=>by
    cases x with
    | tmp t=>
     have:=hsame t (qyk _ (List.mem_filterMap.2 ⟨.tmp t,hx,rfl⟩));simp only[Env.opd,qxE];rw[this]
    | const v=>rfl
    | global g=>rfl
    | func f=>rfl
   have hwant:q2o all o (TLp (jr all) V T0 (fun j=>listed.getD j false) all.size)=q2o all o (TLp (jr all) V T0 (fun _=>true) i):=by
    unfold q2o;cases hg:o.guard with
    | none=>rfl
    | some p=>
     obtain⟨j,want⟩:=p;simp only;cases hj:(all[j]?).bind (·.dst) with
     | none=>rfl
     | some d=>
      simp only;rw[hsame d (by simp[qpS,hg,hj])]
   have hun:unl (listed.setIfInBounds i true) all.size<=fuel:=by have:=(qne hil hLi all.size).2 hin;omega
   have hdi:jr all i=o.dst:=by simp[jr,ho]
   have hnext:∀(X':Ctx) (u:Value),Sim E B X' { t:=TLp (jr all) V T0 (fun j=>listed.getD j false) all.size,fs:=fs,pend:=pd,h:=hLp (wOf D) H (H 0) (fun j=>(listed.setIfInBounds i true).getD j false) m } a->Rep X' (V i) u ->
     wpAnyIn (q1C B.ro) n0 P .any all Q fuel (listed.setIfInBounds i true) (a.put o.dst u) X'.w:=by
    intro X' u hs' hu';refine ih _ X' _ (by simp[hsz]) hcl' ?_ hun ?_
    ·intro k hk1 hk2;rw[uv hil,if_neg (by omega)];exact hm k hk1 hk2
    ·have hput:=hs'.put hu' o.dst;have hT:TLp (jr all) V T0 (fun j=>(listed.setIfInBounds i true).getD j false) all.size=qbY (TLp (jr all) V T0 (fun j=>listed.getD j false) all.size) o.dst (V i):=by
      rw[<-hdi,<-quI hin hLi]
      ·exact stL all.size fun j _=>uv hil
      ·intro k hk hki t ht he;cases hk':all[k]? with
       | none=>simp[jr,hk'] at he
       | some ok=>
        simp only[jr,hk',qy3] at he;rw[hdi] at ht;exact(hd.dst i k o ok ho hk' hki t he).1 ht
     rw[hT];exact hput
   have hLset:hLp (wOf D) H (H 0) (fun j=>(listed.setIfInBounds i true).getD j false) m=hLp (wOf D) H (H 0) (fun j=>if j=i then true else listed.getD j false) m:=qhM m fun j _=>uv hil;unfold wpOpIn;rw[ho];simp only;cases hv with
   | out w1 w2 w3 w4=>
    rw[q4P hs.t (hwant.trans w1)];simp only[qy5,if_false];refine⟨fun _ _=>trivial,hnext X _ ?_ (by rw[w2];exact .skip)⟩;rw[hLset,qsm him hLi hlenA (fun j _ _ _ b hb=>by unfold wOf at hb;rw[w4] at hb;cases hb)];have:wOf D i=[]:=by unfold wOf;rw[w4]
    rw[this,<-q00 (k':=hLp (wOf D) H (H 0) (fun j=>listed.getD j false) m) (by rw[hlenA,q5K]) (fun b hb=>by cases hb) (fun _ _=>rfl)];exact hs
   | op u w1 w2 w3 w4 w5=>
    rw[q4P hs.t (hwant.trans w1)];simp only[if_true];have hwi:wOf D i=(wx E (H i) (E.opd (TLp (jr all) V T0 (fun _=>true) i)) o.op (S i) u (H (i+1))).w:=by unfold wOf;rw[w4]
    obtain⟨d0,hd0⟩:∃d0,d0=(wx E (H i) (E.opd (TLp (jr all) V T0 (fun _=>true) i)) o.op (S i) u (H (i+1))):=⟨_,rfl⟩;have wr:∀j b,inR d0.r b->b∈wOf D j->j<m->j≠i->(j<i->qwc (q9M all.toList) i j=true)/\(i<j->qwc (q9M all.toList) j i=true):=by
     intro j b hb hbj hjm hji;cases hDj:D j with
     | none=>unfold wOf at hbj;rw[hDj] at hbj;cases hbj
     | some dj=>
      have hbj':b∈dj.w:=by unfold wOf at hbj;rw[hDj] at hbj;exact hbj
      refine⟨fun hlt=>?_,fun hlt=>?_⟩
      ·have:=hX j i dj _ hlt him hDj w4;unfold qal at this;simp only[qxL,qyE] at this;rcases this.2 with h3|h3
       ·exact h3
       ·rw[<-hd0] at h3;exact absurd hb (qjj h3.2.1 b hbj')
      ·have:=hX i j _ dj hlt hjm w4 hDj;unfold qal at this;simp only[qxL,qyE] at this;rcases this.2 with h3|h3
       ·exact h3
       ·rw[<-hd0] at h3;exact absurd hb (qjj h3.2.2 b hbj')
    have hat:∀b,inR d0.r b->(hLp (wOf D) H (H 0) (fun j=>listed.getD j false) m)[b]?=(H i)[b]?:=by
     intro b hb;rw[<-hall i,qmX (lo:=i) m (by omega) fun j h3 h4 h5 h6=>?_]
     ·refine qjV hlenA i fun j h3 h4=>?_;exact before j (by omega) ((wr j b hb h4 (by omega) (by omega)).1 h3)
     ·have hji:j≠i:=fun e=>by rw[e,hLi] at h5;cases h5
      have:=behind j ((wr j b hb h6 h4 hji).2 (by omega));rw[this] at h5;cases h5
    have hln:(hLp (wOf D) H (H 0) (fun j=>listed.getD j false) m).length=(H i).length:=by rw[q5K];exact(hlenA i).symm
    obtain⟨_,_,hrun⟩:=qbR hmo (hd0▸hat) hln w2;have hnew:hLp (wOf D) H (H 0) (fun j=>(listed.setIfInBounds i true).getD j false) m=q7Q (wOf D i) (H (i+1)) (hLp (wOf D) H (H 0) (fun j=>listed.getD j false) m):=by rw[hLset,qsm him hLi hlenA fun j h3 h4 h5 b hb hbj=>?_];have:=behind j ((wr j b (fun R hR=>qw1 (hd0▸hR) b (hwi▸hb)) hbj h4 (by omega)).2 h3);rw[this] at h5;cases h5
    rw[<-hwi,<-hnew,<-ql9 hopd] at hrun;have ups:∀j,j<all.size->listed.getD j false=true->j<m/\j≠i:=fun j hj hLj=>by
     refine⟨?_,fun e=>by rw[e,hLi] at hLj;cases hLj⟩;rcases qxG j m with h|h
     ·exact h
     ·rw[hm j h hj] at hLj;cases hLj
    have free:∀c,base<=c->(∀j d,j<m->listed.getD j false=true->D j=some d->c∉d.v)->c∉AV.menL (TLp (jr all) V T0 (fun j=>listed.getD j false) all.size)/\c∉q77 (hLp (wOf D) H (H 0) (fun j=>listed.getD j false) m):=by
     intro c hbc hno;refine⟨qsq (hT0 _ hbc) _ fun j hj hLj=>?_,qsJ hlenA (hH0 _ hbc) m fun j hj hLj b z hb hz=>?_⟩
     ·have hjm:=(ups j hj hLj).1;cases hV j _ (qz0 hj) hjm with
      | out _ q2 _ _=>rw[q2];simp[AV.men]
      | op uj _ _ q3 q4 _=>
       rw[q3];exact qs4 fun hmm=>hno j _ hjm hLj q4 (qqF hmm)
     ·cases hV j _ (qz0 (by omega)) hj with
      | out _ _ _ q4=>unfold wOf at hb;rw[q4] at hb;cases hb
      | op uj _ _ _ q4 _=>
       unfold wOf at hb;rw[q4] at hb;exact fun hmm=>hno j _ hj hLj q4 (qsl hb hz hmm)
    cases hloc:qiN E o.op with
    | true=>
     obtain⟨f1,f2⟩:=free (S i) (hSb i) fun j d hj hLj q4 hmm=>by
      obtain⟨_,hji⟩:=ups j (by omega) hLj;rcases qxG j i with h3|h3
      ·have:=hX j i _ _ h3 him q4 w4;unfold qal at this;rw[qlv hloc] at this;simp only[qxL,qyw] at this;exact qp4 this.1 hmm
      ·have:=hX i j _ _ (by omega) hj w4 q4;unfold qal at this;simp only[qlv hloc] at this;simp only[qxL,qyE,qyw] at this;rcases this.2 with h4|h4
       ·rw[behind j h4] at hLj;cases hLj
       ·exact qp4 h4.1 hmm
     obtain⟨g1,g2⟩:=free (H 0).length hlen fun j d hj hLj q4 hmm=>by
      cases hV j _ (qz0 (show j<all.size by omega)) hj with
      | out _ _ _ q5=>rw[q5] at q4;cases q4
      | op uj _ _ _ q5 q6=>
       rw[q5] at q4;cases q4;have:=q6 _ hmm;rw[hlenA j] at this;omega
     refine qil B.ro n0 (ql6 hE hS hs hrun hloc f2 f1 (hfs _ (hSb i)) ?_ ?_ ?_ fun X' v hs' hv'=>hnext X' v hs' (by rw[w3];exact qi2 hv')) (fun c hcc=>by rw[hcc] at hloc;cases hloc)
     ·rw[q5K];exact g2
     ·rw[q5K];exact g1
     ·rw[q5K];exact hfs _ hlen
    | false=>
     unfold q1x at hrun;rw[hloc] at hrun;simp only at hrun;split at hrun
     ·obtain⟨q,k1,k2⟩:=bind_some hrun;split at k2
      case h_2=>cases k2
      cases k2;obtain⟨p1,p2⟩:=qnL hE hS hs k1 fun X' v hs' hv'=>hnext X' v hs' (by rw[w3];exact qi2 hv');exact qil B.ro n0 p1 p2
     obtain⟨av,k1,k2⟩:=bind_some hrun;simp only[Tree.run,qxB,qxX] at k2;obtain⟨rfl,k2⟩:=k2;refine qil B.ro n0 (qkK hE hc hs k1 fun X' v hs' hv'=>hnext X' v (by rw[<-k2];exact hs') (by rw[w3];exact qi2 hv')) (fun c hcc=>by rw[hcc] at k1;simp[q7y,q6Y,Tree.run] at k1)
  ·have hallb:∀j,j<m->listed.getD j false=true:=fun j hj=>before j (by omega) (hsuf i j him hin (by omega));rw[toEnd listed hallb] at hs;exact hlast i fuel listed X a hin him hsz hri hcl hm hallb hs hu
end
theorem qlM {P:Program}(hm:P.follows .mixedOrders=true)(hE:E.tok P)(hS:E.specs P){callH:q4j}{B:Base}(hcH:CallOK E P callH B){callS:List Blk->q32}(hc:qcp E P callS)(hmo:q2z E callS){id:Nat}{all:Array Oper}{X:Ctx}{st st':St}{a:Act}(hs:Sim E B X st a) (h:(qsp E callH callS all st).run=some st') {Q:Exit->Act->World->Prop} {n0:Nat} (hq:∀X' a',Sim E B X' st' a'->Q .normal a' X'.w):(Code.region id all true).wpIn (q1C B.ro) n0 P Q a X.w:=by
 apply wpIn_region_any hm;have hs1:=hs.drawn (X.w.drawn+1);generalize hX1:({ X with w:={ X.w with drawn:=X.w.drawn+1 } }:Ctx)=X1 at hs1;have hw:({ X.w with drawn:=X.w.drawn+1 }:World)=X1.w:=by rw[<-hX1]
 rw[hw];obtain⟨T0,fs,hb,pd⟩:=st;unfold qsp at h;by_cases hdb:qrC all=false
 ·rw[if_pos hdb] at h;cases h
 ·rw[if_neg hdb] at h;have hd:=qtc (by simpa using hdb:qrC all=true);have hcl0:qfQ all fun j=>(Array.replicate all.size false).getD j false:=by intro i o _ hL;have hL':(Array.replicate all.size false).getD i false=true:=hL;rw[qkc] at hL';cases hL'
  have hdst:jr all=fun i=>(all.toList[i]?).bind (·.dst):=by funext i;simp[jr]
  have hsl:=qts all;have lt:∀b,(b∈AV.menL T0\/b∈qdZ fs)\/b∈q77 hb->b<hb.length:=fun b hb'=>by
   have hh:X.h=hb:=hs.h;rw[<-hh];rcases hb' with (h'|h')|h'
   ·exact hs.t.inB _ h'
   ·exact hs.fs.inB _ h'
   ·exact hs.hs.inB _ (by rw[hh];exact h')
  obtain⟨r,h1,h2⟩:=bind_some h;obtain⟨V,H0,D0,S,eS,e0,e1,e2,_,e5⟩:=qjA _ 0 _ [] _ r h1;simp only[qym] at eS e1 e2 e5;have htlen:(all.toList.take (yl all)).length=yl all:=by simp;omega
  obtain⟨H,hH1,hH2⟩:∃H:Nat->List Blk,(∀i,i<=yl all->H i=H0 i)/\∀i,yl all<=i->H i=H (yl all):=
   ⟨fun i=>if i<=yl all then H0 i else H0 (yl all),fun i hi=>if_pos hi,fun i hi=>by
    simp only[qxC,if_true];split
    ·rw[show i=yl all by omega]
    ·rfl⟩
  obtain⟨D,hD1,hD2⟩:∃D:Nat->Option LDesc,(∀i,i<yl all->D i=D0 i)/\∀i,yl all<=i->D i=none:=
   ⟨fun i=>if i<yl all then D0 i else none,fun i hi=>if_pos hi,fun i hi=>if_neg (by omega)⟩
  have htk:∀i,i<yl all->(all.toList.take (yl all))[i]?=all[i]?:=by intro i hi;rw[qyj,if_pos hi];simp
  have hTm:∀i,i<=yl all->TLp (jr all) V T0 (fun _=>true) i=q8d V 0 ((all.toList.take (yl all)).take i) T0:=by intro i hi;rw[hdst,qtK i (by simp;omega),List.take_take,qyB hi]
  have hVA:∀i o,all[i]?=some o->i<yl all->LocOK E callS all (S i) i o (TLp (jr all) V T0 (fun _=>true) i) (V i) (H i) (H (i+1)) (D i):=by intro i o ho hi;rw[hTm i (by omega),hH1 i (by omega),hH1 (i+1) (by omega),hD1 i hi];exact e2 i o (by rw[htk i hi];exact ho)
  have hs0:∀(X':Ctx) (a':Act),Sim E B X' { t:=TLp (jr all) V T0 (fun _=>true) (yl all),fs:=fs,pend:=pd,h:=H (yl all) } a'->Sim E B X' r a':=by
   intro X' a' hs';have:r={ t:=TLp (jr all) V T0 (fun _=>true) (yl all),fs:=fs,pend:=pd,h:=H (yl all) }:=by rw[hTm _ (qxC _),e1,List.take_of_length_le (i:=yl all) (l:=all.toList.take (yl all)) (by simp;omega),htlen,hH1 _ (qxC _)]
   rw[this];exact hs'
  have hH00:H 0=hb++List.replicate (qx7 E (all.toList.take (yl all))) .dead:=by rw[hH1 0 (Nat.zero_le _)];exact e0
  obtain⟨X2,hX2,hs2⟩:=Sim.padN (qx7 E (all.toList.take (yl all))) hs1;rw[<-hX2];have start:Sim E B X2 { t:=TLp (jr all) V T0 (fun j=>(Array.replicate all.size false).getD j false) all.size,fs:=fs,pend:=pd,h:=hLp (wOf D) H (H 0) (fun j=>(Array.replicate all.size false).getD j false) (yl all) } a:=by
   have q1:TLp (jr all) V T0 (fun j=>(Array.replicate all.size false).getD j false) all.size=T0:=by
    have:∀n,TLp (jr all) V T0 (fun j=>(Array.replicate all.size false).getD j false) n=T0:=by
     intro n;induction n with
     | zero=>rfl
     | succ n ih=>simp only[TLp];rw[if_neg (by rw[qkc];simp),ih]
    exact this _
   have q2:∀n,hLp (wOf D) H (H 0) (fun j=>(Array.replicate all.size false).getD j false) n=H 0:=by
    intro n;induction n with
    | zero=>rfl
    | succ n ih=>simp only[hLp];rw[if_neg (by rw[qkc];simp),ih]
   rw[q1,q2,hH00];exact hs2
  refine qqY (m:=yl all) (V:=V) (T0:=T0) (H:=H) (D:=D) (fs:=fs) (base:=hb.length) hE hS hc hmo hd hsl hVA (fun i j d d' hij hj q1 q2=>?_) hH2 hD2 (by rw[hH00];simp) eS (fun c hc hm'=>?_) (fun c hc hm'=>?_) (fun c hc hm'=>?_) ?_ ?_ (fun i j h1 h2 h3=>qeP all h1 h2 h3) all.size _ X2 a (by simp) hcl0 (fun i _ _=>qkc i) (que _ _) start
  ·rw[hD1 i (by omega)] at q1;rw[hD1 j hj] at q2;exact e5 i j d d' hij (by rw[htlen];exact hj) q1 q2
  ·have:=lt c (.inl (.inl hm'));omega
  ·have:=lt c (.inl (.inr hm'));omega
  ·rw[hH00,qoJ] at hm';rcases qxY.1 hm' with hm'|hm'
   ·have:=lt c (.inr hm');omega
   ·exact qpC (fun z hz=>by rw[List.mem_replicate] at hz;rw[hz.2];rfl) hm'
  ·intro hge X' a' hs';have hsz:yl all=all.size:=by omega
   rw[show TLp (jr all) V T0 (fun _=>true) all.size=TLp (jr all) V T0 (fun _=>true) (yl all) by rw[hsz]] at hs';have h3:=hs0 X' a' hs';rw[qzj (by simp;omega)] at h2;simp only[qcH,Tree.run,qxB] at h2;rw[h2] at h3;exact hq X' a' h3
  ·intro i fuel listed X' a' hin him hsz hri hcl hlm hallm hs' hun;have hri':=hri;rw[mem_ready] at hri';obtain⟨g1,o,ho,gedge⟩:=hri';have hil:i<listed.size:=by omega
   have hLi:listed.getD i false=false:=by simpa[qyz,hil] using g1
   have hedge':∀e,e∈o.after.toList->Region.binds .any e=true->listed.getD e.on false=true:=fun e he hb=>gedge e (by simpa using he) hb;have hcl':=qff hsz ho hcl hedge';have hallb:∀j,j<i->listed.getD j false=true:=by intro j hj;have hb':=qeP all him hin hj;have:=qjo hd hcl' i j (by show (listed.setIfInBounds i true).getD i false=true;rw[uv hil,if_pos rfl]) hb';have h':(listed.setIfInBounds i true).getD j false=true:=this;rw[uv hil,if_neg (by omega)] at h';exact h'
   have him2:i=yl all:=by
    rcases qyJ him with h3|h3
    ·exact h3.symm
    ·have h4:=hallb _ h3;rw[hlm _ (qxC _) (by omega)] at h4;cases h4
   have hcut:∀n,yl all<=n->n<=all.size->TLp (jr all) V T0 (fun j=>listed.getD j false) n=TLp (jr all) V T0 (fun _=>true) (yl all):=by
    intro n;induction n with
    | zero=>
     intro h3 _;have h0:yl all=0:=by omega
     rw[h0];rfl
    | succ n ihn=>
     intro h3 h4;rcases qyJ h3 with h5|h5
     ·rw[<-h5];exact stL (yl all) fun j hj=>hallb j (by omega)
     ·simp only[TLp];rw[if_neg (by rw[hlm n (by omega) (by omega)];simp)];exact ihn (by omega) (by omega)
   rw[hcut _ hsl (qxC _)] at hs';have h3:=hs0 X' a' hs';subst him2;exact(qrV hE hcH hd hq _ (yl all) rfl (qxC _) (fuel+1) listed X' a' _ hsz (fun j hj _=>hallb j hj) (fun j hj=>by
    rcases qxG j all.size with h5|h5
    ·exact hlm j hj h5
    ·simp[show listed.size<=j by omega]) hun h3 h2).2 _ hri
end Go.Eng

namespace Go.Eng
variable {B:Base}{X:Ctx}{n:Nat}
theorem HSim.base {B B':Base}(h:HSim B X)(h0:B'.w0=B.w0)(h1:B'.imps=B.imps)(h2:B'.M0=B.M0):HSim B' X:=by obtain⟨w0,imps,M0,fs,ro,y,pin⟩:=B;obtain⟨w0',imps',M0',fs',ro',y',pin'⟩:=B';simp only at h0 h1 h2;subst h0 h1 h2;exact⟨h.blk,h.inj,h.notM,h.ltM,h.M0,h.newM,h.os,h.tape,h.output,h.size,h.frame,h.imps,h.impc,h.fresh,h.kept⟩
def qdH(o:Obj):Prop:=∀c T fr,o≠.cells c T fr
def q7q(n:Nat)(o:Obj)(l:List (Nat×Obj)):List (Nat×Obj):=l.map fun p=>if p.1=n then (n,o) else p
theorem uu {p:Nat×Obj}{o:Obj}{l:List (Nat×Obj)}(h:p∈l)(hne:p.1≠n):p∈q7q n o l:=qyy.2 ⟨p,h,if_neg hne⟩
theorem qay {o o':Obj}{l:List (Nat×Obj)}(h:(n,o)∈l):(n,o')∈q7q n o' l:=qyy.2 ⟨(n,o),h,if_pos rfl⟩
theorem qd2 {p:Nat×Obj}{o:Obj}{l:List (Nat×Obj)}(h:p∈q7q n o l):p=(n,o)\/(p∈l/\p.1≠n):=by
 obtain⟨q,h1,h2⟩:=qyy.1 h;by_cases hq:q.1=n
 ·rw[if_pos hq] at h2;exact .inl h2.symm
 ·rw[if_neg hq] at h2;subst h2;exact .inr ⟨h1,hq⟩
structure SameCells (w w':World):Prop where
 cells:∀(n:Nat) c T fr,w.heap[n]?=some (.cells c T fr)->w'.heap[n]?=some (.cells c T fr)
 cell:∀a:Addr,a.block<w.heap.size->w'.cell? a=w.cell? a
theorem SameCells.blk {X X':Ctx}(hw:SameCells X.w X'.w)(hm:Move0 X X' some){b:Nat}{k:Blk}(hσ:X'.σ b=X.σ b)(h:vD X b k):vD X' b k:=by
 cases k with
 | cells cs=>
  obtain⟨n,c,T,e1,e2,e3⟩:=h;exact⟨n,c,T,by rw[hσ];exact e1,hw.cells _ _ _ _ e2,e3.ext0 hm⟩
 | big cs k N l=>
  obtain⟨n,c,T,vs,e1,e2,e3,e4,e5⟩:=h;exact⟨n,c,T,vs,by rw[hσ];exact e1,hw.cells _ _ _ _ e2,e3.ext0 hm,e4,e5⟩
 | vec e sh l=>
  rcases h with⟨e1,e2⟩|⟨n,c,e1,e2,e3⟩
  ·exact .inl ⟨by rw[hσ];exact e1,e2⟩
  ·exact .inr ⟨n,c,by rw[hσ];exact e1,hw.cells _ _ _ _ e2,e3.mono hm.M hm.w⟩
 | frz e sh l=>
  rcases h with⟨e1,e2⟩|⟨n,c,e1,e2,e3,e4⟩
  ·exact .inl ⟨by rw[hσ];exact e1,e2⟩
  ·exact .inr ⟨n,c,by rw[hσ];exact e1,hw.cells _ _ _ _ e2,e3.mono hm.M hm.w,hm.M n e4⟩
 | dead=>trivial
theorem qlP (hs:HSim B X){w':World}{kept':List (Nat×Obj)}(hw:SameCells X.w w')(hsz:X.w.heap.size<=w'.heap.size)(ho:w'.os=X.w.os)(ht:w'.tape=X.w.tape)(hp:w'.output=X.w.output)(hf:∀n,n<B.w0.heap.size->w'.heap[n]?=X.w.heap[n]?) (hk:∀p,p∈kept'->w'.heap[p.1]?=some p.2/\qdH p.2/\B.w0.heap.size<=p.1) :HSim B { X with w:=w',kept:=kept' }/\Move0 X { X with w:=w',kept:=kept' } some:=by
 have hm:Move0 X { X with w:=w',kept:=kept' } some:=
  ⟨fun _ h=>h,fun a ha=>hw.cell a (hs.ltM _ ha),fun b b' hb h=>by cases h;exact⟨hb,rfl,fun _ _ h=>h,fun _ _ _ n _ c T fr h=>⟨c,T,fr,hw.cells n c T fr h,rfl⟩⟩,rfl⟩
 refine⟨⟨fun b k hb=>SameCells.blk hw hm rfl (hs.blk b k hb),hs.inj,hs.notM,fun n hn=>qyG (hs.ltM n hn) hsz,hs.M0,hs.newM,ho.trans hs.os,ht.trans hs.tape,hp.trans hs.output,
  qxJ hs.size hsz,fun n hn hi=>(hf n hn).trans (hs.frame n hn hi),hs.imps,hs.impc,hs.fresh,hk⟩,hm⟩
theorem qkI {w:World}{o o':Obj}(h:w.heap[n]?=some o)(ho:qdH o)(ho':qdH o'):SameCells w (w.putObj n o'):=by
 have hn:=(qxI.1 h).1;refine⟨fun m c T fr hm=>?_,fun a _=>?_⟩
 ·by_cases e:m=n
  ·subst e;rw[h] at hm;exact absurd (qy6 hm) (ho _ _ _)
  ·rw[World.putObj_heap_other e];exact hm
 ·by_cases e:a.block=n
  ·unfold World.cell?;rw[e,h,World.putObj_heap_same hn];cases o'<;>cases o<;>first|rfl|exact absurd rfl (ho _ _ _)|exact absurd rfl (ho' _ _ _)
  ·exact qyt (World.putObj_heap_other e)
theorem q6I (hs:HSim B X){o o':Obj}(hk:(n,o)∈X.kept)(ho':qdH o') :HSim B { X with w:=X.w.putObj n o',kept:=q7q n o' X.kept }/\Move0 X { X with w:=X.w.putObj n o',kept:=q7q n o' X.kept } some:=by
 obtain⟨h1,h2,h3⟩:=hs.kept _ hk;simp only at h1 h2 h3;have hn:=(qxI.1 h1).1;refine qlP hs (qkI h1 h2 ho') (by simp) rfl rfl rfl (fun m hm=>World.putObj_heap_other (by omega)) fun p hp=>?_;rcases qd2 hp with rfl|⟨hp,hne⟩
 ·exact⟨World.putObj_heap_same hn,ho',h3⟩
 ·obtain⟨g1,g2,g3⟩:=hs.kept p hp;exact⟨by rw[World.putObj_heap_other hne];exact g1,g2,g3⟩
theorem qek (hs:HSim B X){o:Obj}(ho:qdH o) :HSim B { X with w:=X.w.alloc o,kept:=(X.w.heap.size,o)::X.kept }/\Move0 X { X with w:=X.w.alloc o,kept:=(X.w.heap.size,o)::X.kept } some:=by
 refine qlP hs ⟨fun m c T fr hm=>?_,fun a ha=>qyt (zz _ _ ha)⟩ (by simp) rfl rfl rfl (fun m hm=>zz _ _ (qyG hm hs.size)) fun p hp=>?_
 ·rw[zz _ _ (qxI.1 hm).1];exact hm
 ·rcases qxP.1 hp with rfl|hp
  ·exact⟨zy _ _,ho,hs.size⟩
  ·obtain⟨g1,g2,g3⟩:=hs.kept p hp;exact⟨by rw[zz _ _ (qxI.1 g1).1];exact g1,g2,g3⟩
theorem qnj (hs:HSim B X){p:Nat×Obj}(h:p∈X.kept):p.1<X.w.heap.size:=(qxI.1 (hs.kept p h).1).1
mutual
theorem Rep.setY'{X:Ctx}(l:Nat):∀{av:AV} {v:Value},Rep X av v->av.noY=true->Rep { X with y:=l } av v
 | _,_,.undef v,_=>.undef v
 | _,_,.skip,_=>.skip
 | _,_,.yld,h=>by cases h
 | _,_,.blit b,_=>.blit b
 | _,_,.bool b,_=>.bool b
 | _,_,.ilit k n,_=>.ilit k n
 | _,_,.int k n,_=>.int k n
 | _,_,.str s,_=>.str s
 | _,_,.nilp,_=>.nilp
 | _,_,.ptr b off n hb hσ,_=>.ptr b off n hb hσ
 | _,_,.eptr sh l i off a hsp h0 h1 hr,_=>.eptr sh l i off a hsp h0 h1 hr
 | _,_,.mnil sh l i off,_=>.mnil sh l i off
 | _,_,.mptr sh l i off a hsp h0 h1 hr,_=>.mptr sh l i off a hsp h0 h1 hr
 | _,_,.vptr b i off n k hb hσ h,_=>.vptr b i off n k hb hσ h
 | _,_,.vsub b i n k m c hb hσ h,_=>.vsub b i n k m c hb hσ h
 | _,_,.aptr b o i n hb hσ h0,_=>.aptr b o i n hb hσ h0
 | _,_,.asub b o N i m n k c hb hσ h0 h1 h2 h3,_=>.asub b o N i m n k c hb hσ h0 h1 h2 h3
 | _,_,.nils,_=>.nils
 | _,_,.imm sh l v h,_=>.imm sh l v h
 | _,_,.full sh l p n h,_=>.full sh l p n h
 | _,_,.vec b p nn cc hb h,_=>.vec b p nn cc hb h
 | _,_,.nilf,_=>.nilf
 | _,_,.fn g first caps vf vc h1 h2,h=>by
  simp only[AV.noY,qxL] at h;exact .fn g _ _ vf vc (RepL.setY' l h1 h.1) (RepL.setY' l h2 h.2)
 | _,_,.agg cs vs h1,h=>.agg _ vs (RepL.setY' l h1 (by simpa only [AV.noY] using h))
 | _,_,.tuple cs vs h1,h=>.tuple _ vs (RepL.setY' l h1 (by simpa only [AV.noY] using h))
 | _,_,.bagg cs k n r vs h1 hl,h=>.bagg _ k n r vs (RepL.setY' l h1 (by simpa only [AV.noY] using h)) hl
theorem RepL.setY'{X:Ctx}(l:Nat):∀{av:List AV} {v:List Value},RepL X av v->AV.noYL av=true->RepL { X with y:=l } av v
 | _,_,.nil,_=>.nil
 | _,_,.cons h1 t,h=>by
  simp only[AV.noYL,qxL] at h;exact .cons (Rep.setY' l h1 h.1) (RepL.setY' l t h.2)
end
theorem Rep.setY (l:Nat){av:AV}{v:Value}(h:av.noY=true)(hr:Rep X av v):Rep { X with y:=l } av v:=hr.setY' l h
theorem RepL.setY (l:Nat){av:List AV}{v:List Value}(h:AV.noYL av=true)(hr:RepL X av v):RepL { X with y:=l } av v:=hr.setY' l h
theorem HSim.setY (h:HSim B X)(l:Nat)(hy:X.h.all Blk.noY=true):HSim B { X with y:=l }:=by
 refine⟨fun b k hb=>?_,h.inj,h.notM,h.ltM,h.M0,h.newM,h.os,h.tape,h.output,h.size,h.frame,h.imps,h.impc,h.fresh,h.kept⟩;have h1:=h.blk b k hb;cases k with
 | cells cs=>
  obtain⟨n,c,T,e1,e2,e3⟩:=h1;have:(Blk.cells cs).noY=true:=qxV.1 hy _ (qyC hb);exact⟨n,c,T,e1,e2,e3.setY l this⟩
 | big cs k N r=>
  obtain⟨n,c,T,vs,e1,e2,e3,e4,e5⟩:=h1;have:(Blk.big cs k N r).noY=true:=qxV.1 hy _ (qyC hb);exact⟨n,c,T,vs,e1,e2,e3.setY l this,e4,e5⟩
 | vec e sh l=>exact h1
 | frz e sh l=>exact h1
 | dead=>trivial
theorem qlH {gl:List (Nat×AV)}(h:q5o gl X)(l:Nat):q5o gl { X with y:=l }:=by intro x hx;obtain⟨⟨sh,r,i,off,he⟩,hr⟩:=h x hx;refine⟨⟨sh,r,i,off,he⟩,hr.move (fun _ h=>h) (fun _ _=>rfl) (Rep.setY l (by rw[he];rfl) hr.1)⟩
theorem qaj {gl:List (Nat×AV)}{X X':Ctx}(hm:Move0 X X' some)(h:q5o gl X):q5o gl X':=fun x hx=>⟨(h x hx).1,(h x hx).2.move hm.M hm.w ((h x hx).2.1.ext0 hm)⟩
theorem Sim.moveB {E:Env}{B B':Base}{X X':Ctx}{st:St}{a:Act}(hs:Sim E B X st a)(h1:HSim B' X')(h2:Move0 X X' some)(h3:X'.h=X.h)(hfs:B'.fs=B.fs)(hy:B'.y=B.y)(hi:B'.imps=B.imps){ds:List Deferred} (h4:qnM X'.kept (B'.pin st.pend) ds) (h5:∀p,p∈B'.pin st.pend->p∈X'.kept):Sim E B' X' st { a with defers:=ds }:=⟨h1,h3.trans hs.h,hs.t.ext0 h2,hfs▸hs.fs.ext0 h2,qaj h2 hs.glob,h4,hi▸hs.ni,(h2.y.trans hs.y).trans hy.symm,h5⟩
def Ex.out:Ex->Exit
 | .normal=>.normal
 | .exit i=>.exit i
 | .ret=>.ret
def qoa(E:Env)(B:Base)(r:Ex×St):Exit->Act->World->Prop:=fun e a w=>e=r.1.out/\∃X',X'.w=w/\Sim E B X' r.2 a
def Ex.code:Ex->Code
 | .normal=>.skip
 | .exit i=>.exit i
 | .ret=>.ret
def q2V(fid:FuncId)(ct:Array Value)(ps:Array Tmp)(a b:Code)(D:Nat)(e:Option Ex):Loop:={ state:=if e.isNone then .ready else .done,pending:=e.map Ex.code,fn:=fid,tmps:=ct,params:=ps,assign:=a,body:=b,defers:=D }
def qO:Code->List Code
 | .seq a b=>.seq a b::(qO a++qO b)
 | .cond _ a b=>qO a++qO b
 | .block _ c=>qO c
 | .scope c=>qO c
 | .loop c=>.loop c::qO c
 | .rangeFunc x ps a b=>.rangeFunc x ps a b::(qO a++qO b)
 | _=>[]
def qnu(P:Program)(yc:FuncId×Nat)(B:Base):Prop:=
 ∃(fn:Func) (c:Code) (x:Operand) (ps:Array Tmp) (a b:Code),P.funcs[yc.1]?=some fn/\fn.body=some c/\(qO c)[yc.2]?=some (.rangeFunc x ps a b) /\
  ∃(ct:Array Value) (rest:List (List Value)) (D fid:Nat) (more:List (Nat×Obj)),B.fs=ct.toList::rest/\(∀e,B.pin e=(B.y,.loop (q2V fid ct ps a b D e))::more)/\(∀p,p∈more->p.1≠B.y)/\B.ro=none
def qK(P:Program)(it:List (FuncId×FuncId×Nat))(f:FuncId)(B:Base):Prop:=
 (B.ro.isSome=true->2<=B.fs.length)/\match qbq it f with
  | none=>True
  | some yc=>qnu P yc B
structure SimF (E:Env) (B:Base) (X:Ctx) (st:St):Prop where
 hs:HSim B X
 h:X.h=st.h
 fs:RepLL X (st.t::st.fs) B.fs
 glob:q5o E.glob X
 ni:B.imps.length<=E.nimp
 y:X.y=B.y
 pin:∀p,p∈B.pin st.pend->p∈X.kept
def YOK(E:Env)(P:Program)(y:qpn)(B:Base):Prop:=
 ∀(args:List AV) (st:St) (r:AV×St) (X:Ctx) (a:Act) (vargs:List Value),Sim E B X st a->RepL X args vargs->(y args st).run=some r ->
  ∃(l:Nat) (f:FuncId) (tmps:Array Value) (assign body:Code),(Instr.yield X.y vargs.toArray).run P X.w=.ok (.round l f tmps assign body) X.w /\
  ∀n,RoundIn (q1C B.ro) n P l f tmps assign body X.w fun e w'=>∃v X',e=.returned v/\X'.w=w'/\Rep X' r.1 v/\Sim E B X' r.2 a
def qcn(E:Env)(P:Program)(rangeH:q85):Prop:=
 ∀(g:FuncId) (y:qpn) (args:List AV) (st:St) (r:AV×St) (B:Base) (X:Ctx) (vargs:List Value),SimF E B X st->qK P E.iter g B->(∀B',qK P E.iter g B'->YOK E P y B')->B.ro=none ->
  RepL X args vargs->(rangeH g y args st).run=some r ->
  (∀w,(callFunc g vargs.toArray).run P w=.ok (.enter g vargs.toArray) w) /\
  Calls P g vargs.toArray X.w fun e w'=>∃v X',e=.returned v/\X'.w=w'/\Rep X' r.1 v/\SimF E B X' r.2
theorem qjh{X:Ctx}:∀(ps:List Tmp) {ct:List AV} {tmps:Array Value} {args:List AV} {vargs:List Value},RepL X ct tmps.toList->RepL X args vargs ->
  RepL X (qh0 ct ps args) ((ps.zip vargs).foldl (fun (tmps:Array Value) (p:Tmp×Value)=>tmps.setIfInBounds p.1 p.2) tmps).toList
 | [],_,_,args,_,h,_=>by cases args<;>simpa[qh0] using h
 | p::ps,ct,tmps,_,_,h,.nil=>by simpa[qh0] using h
 | p::ps,ct,tmps,_,_,h,.cons h1 h2=>by
  simp only[qh0,List.zip_cons_cons,qz7];exact qjh ps (by rw[Array.toList_setIfInBounds];exact RepL.set h1 h p) h2
theorem qot {E:Env}{P:Program}{f:FuncId}{k:Nat}{fn:Func}{cb:Code}(hf:P.funcs[f]?=some fn)(hb:fn.body=some cb){x:Operand}{ps:Array Tmp}{a b:Code}(hk:(qO cb)[k]?=some (.rangeFunc x ps a b)){evA evB:St->Tree (Ex×St)} (hni:q47 E.iter f=true)(hA:∀(B:Base) (X:Ctx) (st:St) (act:Act) (r:Ex×St),qK P E.iter f B->Sim E B X st act->(evA st).run=some r->∀n,a.wpIn (q1C B.ro) n P (qoa E B r) act X.w)(hB:∀(B:Base) (X:Ctx) (st:St) (act:Act) (r:Ex×St),qK P E.iter f B->Sim E B X st act->(evB st).run=some r->∀n,b.wpIn (q1C B.ro) n P (qoa E B r) act X.w){B:Base} (hI:qnu P (f,k) B):YOK E P (qlq evA evB ps.toList) B:=by
 intro args st r X act vargs hs hargs hr;obtain⟨fn',c',x',ps',a',b',q1,q2,q3,ct,rest,D,fid,more,q4,q5,q6,q7⟩:=hI;simp only at q1 q3;rw[hf] at q1;cases q1;rw[hb] at q2;cases q2;rw[hk] at q3;cases q3;unfold qlq at hr;cases hp:st.pend with
 | some e=>rw[hp] at hr;cases hr
 | none=>
 rw[hp] at hr;cases hfs:st.fs with
 | nil=>rw[hfs] at hr;cases hr
 | cons ctA fsA=>
 rw[hfs] at hr;simp only at hr;cases hlen:Nat.beq args.length ps.toList.length with
 | false=>rw[hlen] at hr;cases hr
 | true=>
 rw[hlen] at hr;simp only at hr;have hlen':=qyf hlen;obtain⟨rA,h1,h2⟩:=bind_some hr;obtain⟨xA,sA⟩:=rA;cases xA with
 | exit i=>cases h2
 | ret=>cases h2
 | normal=>
 simp only at h2;obtain⟨rB,h3,h4⟩:=bind_some h2;have hpin:=hs.pin;have hdf:=hs.df;rw[hp,q5] at hpin hdf;have hrec:(B.y,.loop (q2V fid ct ps a b D none))∈X.kept:=hpin _ qxM;have hheap:=(hs.hs.kept _ hrec).1;simp only at hheap;have hfsR:=hs.fs;rw[hfs,q4] at hfsR;have hct:RepL X ctA ct.toList:=by cases hfsR with|cons g1 g2=>exact g1
 refine⟨B.y,fid,((ps.zip vargs.toArray).foldl (fun (tmps:Array Value) (p:Tmp×Value)=>tmps.setIfInBounds p.1 p.2) ct),a,b,?_,fun n=>?_⟩
 ·rw[hs.y];exact run_yield (r:=q2V fid ct ps a b D none) hheap (by simp only[q2V,List.size_toArray];rw[<-hargs.length,hlen',Array.length_toList])
 rw[q7];apply roundIn_of_wpIn (F:=q1C none) trivial
 let BR:Base:={ B with ro:=some B.y,fs:=act.tmps.toList::B.fs,pin:=fun _=>X.kept }
 have hbR:∀pin,qK P E.iter f { BR with pin:=pin }:=by
  intro pin;refine⟨fun _=>?_,?_⟩
  ·show 2<=(act.tmps.toList::B.fs).length;rw[q4];simp
  ·unfold q47 at hni;split at hni
   ·cases hni
   ·rename_i hn;rw[hn];trivial
 have hsR:Sim E BR X { t:=qh0 ctA ps.toList args,fs:=st.t::ctA::fsA,h:=st.h,pend:=none } { tmps:=((ps.zip vargs.toArray).foldl (fun (tmps:Array Value) (p:Tmp×Value)=>tmps.setIfInBounds p.1 p.2) ct),defers:=[] }:=by
  refine⟨hs.hs.base rfl rfl rfl,hs.h,?_,?_,hs.glob,qnM.nil,hs.ni,hs.y,fun p hp=>hp⟩
  ·have:=qjh ps.toList hct hargs;rw[<-Array.foldl_toList,Array.toList_zip];exact this
  ·show RepLL X _ (act.tmps.toList::B.fs);rw[<-hfs];exact .cons hs.t hs.fs
 refine wpIn_mono (hA BR X _ _ _ (hbR _) hsR h1 n) fun e a1 w1 ⟨he,X1,hw1,hs1⟩=>?_;subst he hw1;have hrec1:(B.y,.loop (q2V fid ct ps a b D none))∈X1.kept:=hs1.pin _ hrec;obtain⟨g1,g2⟩:=q6I hs1.hs (o':=.loop { q2V fid ct ps a b D none with state:=.busy }) hrec1 (fun _ _ _ h=>by cases h);refine⟨_,run_beginRound (r:=q2V fid ct ps a b D none) (hs1.hs.kept _ hrec1).1 rfl,?_⟩
 let pinB:List (Nat×Obj):=q7q B.y (.loop { q2V fid ct ps a b D none with state:=.busy }) X.kept
 obtain⟨Ds1,d1,d2,d3⟩:=hs1.df;have hsB:Sim E { BR with pin:=fun _=>pinB } { X1 with w:=X1.w.putObj B.y (.loop { q2V fid ct ps a b D none with state:=.busy }),kept:=q7q B.y (.loop { q2V fid ct ps a b D none with state:=.busy }) X1.kept } sA a1:=by
  refine hs1.moveB (B':={ BR with pin:=fun _=>pinB }) (ds:=a1.defers) (g1.base rfl rfl rfl) g2 rfl rfl rfl rfl ⟨Ds1,d1,d2,fun D' hD'=>⟨uu (d3 D' hD').1 (fun e=>(d3 D' hD').2 _ hrec e.symm),fun p hp=>?_⟩⟩ fun p hp=>?_
  ·rcases qd2 hp with hp|⟨hp,_⟩
   ·rw[hp];exact fun e=>(d3 D' hD').2 _ hrec e
   ·exact(d3 D' hD').2 _ hp
  ·rcases qd2 hp with rfl|⟨hp,hne⟩
   ·exact qay hrec1
   ·exact uu (hs1.pin _ hp) hne
 refine wpIn_mono (hB _ _ _ _ _ (hbR _) hsB h3 n) fun e2 a2 w2 ⟨he2,X2,hw2,hs2⟩=>?_;subst he2 hw2;obtain⟨xB,sB⟩:=rB;have hrec2:(B.y,.loop { q2V fid ct ps a b D none with state:=.busy })∈X2.kept:=hs2.pin _ (qay hrec);have hlie2:=(hs2.hs.kept _ hrec2).1;simp only at hlie2;simp only at h4;cases hfs2:sB.fs with
 | nil=>rw[hfs2] at h4;cases h4
 | cons itA fs'=>
 rw[hfs2] at h4;simp only at h4;have fin:∀(e:Option Ex) (_:r=(.blit e.isNone,{ t:=itA,fs:=fs',h:=sB.h,pend:=e })) (_:e=none\/∃x,e=some x),
   ∃v w',(Instr.endRound B.y (e.map Ex.code)).run P X2.w=.ok v w'/\∃v' X',Ending.returned v=.returned v'/\X'.w=w'/\Rep X' r.1 v'/\Sim E B X' r.2 act:=by
  intro e hre _;have hend:=run_endRound (P:=P) (r:={ q2V fid ct ps a b D none with state:=.busy }) (e.map Ex.code) hlie2;have hobj:({ ({ q2V fid ct ps a b D none with state:=.busy }:Loop) with state:=if (e.map Ex.code).isNone then .ready else .done,pending:=e.map Ex.code }:Loop)=q2V fid ct ps a b D e:=by cases e<;>rfl
  rw[hobj] at hend;obtain⟨k1,k2⟩:=q6I hs2.hs (o':=.loop (q2V fid ct ps a b D e)) hrec2 (fun _ _ _ h=>by cases h);refine⟨_,_,hend,_,{ X2 with w:=X2.w.putObj B.y (.loop (q2V fid ct ps a b D e)),kept:=q7q B.y (.loop (q2V fid ct ps a b D e)) X2.kept },rfl,rfl,?_,?_⟩
  ·rw[hre];have:(e.map Ex.code).isNone=e.isNone:=by cases e<;>rfl
   rw[this];exact .blit _
  ·have hfs3:=hs2.fs;rw[hfs2] at hfs3;have hfs4:=hfs3.ext0 k2;have hold:∀p,p∈X.kept->p.1≠B.y->p∈q7q B.y (.loop (q2V fid ct ps a b D e)) X2.kept:=fun p hp hne=>
    uu (hs2.pin p (uu hp hne)) hne
   rw[hre];refine⟨k1.base rfl rfl rfl,hs2.h,?_,?_,qaj k2 hs2.glob,?_,hs.ni,hs2.y,?_⟩
   ·cases hfs4 with|cons z1 z2=>exact z1
   ·cases hfs4 with|cons z1 z2=>exact z2
   ·obtain⟨Ds,m1,m2,m3⟩:=hdf;refine⟨Ds,m1,m2,fun D' hD'=>⟨hold _ (m3 D' hD').1 (fun e'=>(m3 D' hD').2 _ qxM e'.symm),fun p hp=>?_⟩⟩;rw[q5] at hp;rcases qxP.1 hp with rfl|hp
    ·exact(m3 D' hD').2 (B.y,.loop (q2V fid ct ps a b D none)) qxM
    ·exact(m3 D' hD').2 p (qxQ _ hp)
   ·intro p hp;rw[q5] at hp;rcases qxP.1 hp with rfl|hp
    ·exact qay hrec2
    ·exact hold p (hpin p (qxQ _ hp)) (q6 p hp)
 cases xB with
 | normal=>
  simp only[Tree.run,qxB] at h4;exact fin none h4.symm (.inl rfl)
 | ret=>
  simp only[Tree.run,qxB] at h4;exact fin (some .ret) h4.symm (.inr ⟨_,rfl⟩)
 | exit i=>
  simp only[Tree.run,qxB] at h4;exact fin (some (.exit i)) h4.symm (.inr ⟨_,rfl⟩)
theorem qme{E:Env}{P:Program}{B:Base}{fn:Func}{st:St}{R:Ending->World->Prop}{n:Nat}:∀(Ds:List Nat) {X:Ctx} {a:Act},Sim E B X st a->a.defers=Ds.map qcg ->
  (∀X',Sim E B X' st { a with defers:=[] }->∃v,(results fn a.tmps).run P X'.w=.ok v X'.w/\R (.returned v) X'.w)->LeavesInM (q1C none) n P fn a.tmps R (Ds.map qcg) .returning X.w
 | [],X,a,hs,hd,h=>by
  have:({ a with defers:=[] }:Act)=a:=by obtain⟨t,d⟩:=a;simp only[List.map_nil] at hd;rw[hd]
  rw[this] at h;exact h X hs
 | D::Ds,X,a,hs,hd,h=>by
  obtain⟨Ds',d1,d2,d3⟩:=hs.df;have hDs:Ds'=D::Ds:=by
   rw[hd] at d1;have inj:∀(l m:List Nat),l.map qcg=m.map qcg->m=l:=by
    intro l;induction l with
    | nil=>intro m hm;cases m with
     | nil=>rfl
     | cons _ _=>cases hm
    | cons x l ih=>intro m hm;cases m with
     | nil=>cases hm
     | cons y m=>
      simp only[qyp,qyF,qcg,Deferred.mk.injEq,Target.collected.injEq,and_true] at hm;rw[ih m hm.2,hm.1]
   exact inj _ _ d1
  subst hDs;obtain⟨m1,m2⟩:=d3 D qxM;have hlie:=(hs.hs.kept _ m1).1;simp only at hlie;obtain⟨g1,g2⟩:=q6I hs.hs (o':=.deferred none) m1 (fun _ _ _ h=>by cases h);have hnd:=List.nodup_cons.1 d2;have hs':=hs.moveB (B':=B) (ds:=Ds.map qcg) g1 g2 rfl rfl rfl rfl ⟨Ds,rfl,hnd.2,fun D' hD'=>⟨uu (d3 D' (qxQ _ hD')).1 (fun e=>hnd.1 (e▸hD')),(d3 D' (qxQ _ hD')).2⟩⟩
   (fun p hp=>uu (hs.pin p hp) (m2 p hp))
  refine⟨by simp,.inl ⟨D,_,rfl,run_takeDeferred hlie,?_⟩⟩;exact qme Ds (a:={ a with defers:=Ds.map qcg }) hs' rfl h
end Go.Eng

namespace Go.Eng
variable {B:Base}{E:Env}{P:Program}{X:Ctx}{a:Act}{f:FuncId}{fn:Func}{st:St}
theorem Sim.env {E E':Env}(he:E.glob=E'.glob)(hn:E.nimp=E'.nimp)(hs:Sim E B X st a):Sim E' B X st a:=⟨hs.hs,hs.h,hs.t,hs.fs,he▸hs.glob,hs.df,hn▸hs.ni,hs.y,hs.pin⟩
theorem jO:∀c:Code,(qO c).length=zk c:=by
 intro c;induction c<;>simp_all [qO,zk]
 all_goals omega
theorem qb6{f k:Nat}{L:St->Tree (Ex×St)}:∀{l:List ((Nat×Nat)×(St->Tree (Ex×St)))},q59 l f k=some L->((f,k),L)∈l
 | [],h=>by cases h
 | x::l,h=>by
  simp only[q59] at h;split at h
  ·rename_i hb;cases h;simp only[qxL] at hb;have h1:=qyf hb.1;have h2:=qyf hb.2;have:x=((f,k),x.2):=by obtain⟨⟨a,b⟩,c⟩:=x;simp only at h1 h2;rw[h1,h2]
   exact this▸qxM
  ·exact qxQ _ (qb6 h)
def qu(P:Program)(gl:List (Nat×AV))(ni:Nat)(BO:Base->Prop)(c:Code)(L:St->Tree (Ex×St)):Prop:=∀(E:Env) (B:Base) (X:Ctx) (st:St) (a:Act) (r:Ex×St),E.glob=gl->E.nimp=ni->BO B->Sim E B X st a->(L st).run=some r->∀(n0:Nat),c.wpIn (q1C B.ro) n0 P (qoa E B r) a X.w
def Env.loopsOK(E:Env)(P:Program):Prop:=∀x,x∈E.loops->∃fn c c',P.funcs[x.1.1]?=some fn/\fn.body=some c/\(qO c)[x.1.2]?=some c'/\qu P E.glob E.nimp (qK P E.iter x.1.1) c' x.2
theorem qtM {rangeH:q85}(hrg:qcn E P rangeH)(hf:P.funcs[f]?=some fn){cb:Code}(hb:fn.body=some cb){k:Nat}{x:Operand}{ps:Array Tmp}{a b:Code}(hk:(qO cb)[k]?=some (.rangeFunc x ps a b)) {evA evB:St->Tree (Ex×St)}(hA:∀(B:Base) (X:Ctx) (st:St) (act:Act) (r:Ex×St),qK P E.iter f B->Sim E B X st act->(evA st).run=some r->∀n,a.wpIn (q1C B.ro) n P (qoa E B r) act X.w)(hB:∀(B:Base) (X:Ctx) (st:St) (act:Act) (r:Ex×St),qK P E.iter f B->Sim E B X st act->(evB st).run=some r->∀n,b.wpIn (q1C B.ro) n P (qoa E B r) act X.w){B:Base} {X:Ctx} {st:St} {act:Act} {r:Ex×St} {n0:Nat} (hbo:qK P E.iter f B) (hs:Sim E B X st act) {g:FuncId} {first caps:List AV} (hx:E.opd st.t x=.fn g first caps)(hc:(qjC E.iter g f k&&q47 E.iter f&&qmS st)=true) (h:((rangeH g (qlq evA evB ps.toList) (first++[.yld]++caps) st).bind qs2).run=some r) :(Code.rangeFunc x ps a b).wpIn (q1C B.ro) n0 P (qoa E B r) act X.w:=by
  simp only[qxL] at hc;obtain⟨⟨hit,hni⟩,htop⟩:=hc;have htop':st.fs=[[]]/\st.pend=none/\AV.noYL st.t=true/\st.h.all Blk.noY=true:=by
    unfold qmS at htop;split at htop
    · rename_i h1 h2
      simp only[qxL] at htop;exact⟨h1,h2,htop.1,htop.2⟩
    · cases htop
  obtain⟨t1,t2,t3,t4⟩:=htop';have hBfs:B.fs=[[]]:=by
    have:=hs.fs;rw[t1] at this;generalize B.fs=l at this;cases this with
    | cons g1 g2=>cases g1;cases g2;rfl
  have hro:B.ro=none:=by
    cases hr:B.ro with
    | none=>rfl
    | some l =>
      have:=hbo.1 (by rw[hr];rfl);rw[hBfs] at this;simp at this
  have hfi:qbq E.iter g=some (f,k):=by
    unfold qjC at hit;split at hit
    · rename_i y hy
      simp only[qxL] at hit;rw[hy];obtain⟨y1,y2⟩:=y;have e1:y1=f:=qyf hit.1;have e2:y2=k:=qyf hit.2;rw[e1,e2]
    · cases hit
  obtain⟨q,h1,h2⟩:=bind_some h;have hvx:=q4d hs x;rw[hx] at hvx;generalize hev:act.eval x=vx at hvx;cases hvx with
  | fn _ _ _ vf vc g1 g2 =>
  rw[hro];apply wpIn_rangeFunc;intro fid _
  let D:=X.w.heap.size
  let l:=X.w.heap.size+1
  let rec0:Obj:=.loop (q2V fid act.tmps ps a b D none)
  obtain⟨k1,k2⟩:=qek hs.hs (o:=.deferred (some [])) (fun _ _ _ h=>by cases h);obtain⟨k3,k4⟩:=qek k1 (o:=rec0) (fun _ _ _ h=>Obj.noConfusion h)
  let X1:Ctx:={ X with w:=(X.w.alloc (.deferred (some []))).alloc rec0,kept:=(l,rec0)::(D,.deferred (some []))::X.kept }
  have hsz:(X.w.alloc (.deferred (some []))).heap.size=l:=by simp[l]
  have hX1:({ ({ X with w:=X.w.alloc (.deferred (some [])),kept:=(X.w.heap.size,.deferred (some []))::X.kept }:Ctx) with w:=(X.w.alloc (.deferred (some []))).alloc rec0,kept:=((X.w.alloc (.deferred (some []))).heap.size,rec0)::(X.w.heap.size,.deferred (some []))::X.kept }:Ctx)=X1:=by rw[hsz]
  have k3':HSim B X1:=hX1▸k3;have k4':Move0 { X with w:=X.w.alloc (.deferred (some [])),kept:=(X.w.heap.size,.deferred (some []))::X.kept } X1 some:=hX1▸k4;have hall:X1.h.all Blk.noY=true:=by show X.h.all Blk.noY=true;rw[hs.h];exact t4
  let X2:Ctx:={ X1 with y:=l }
  have hs2:HSim B X2:=k3'.setY l hall
  let B1:Base:={ B with fs:=act.tmps.toList::B.fs,ro:=none,y:=l,pin:=fun e=>(l,.loop (q2V fid act.tmps ps a b D e))::(D,.deferred (some []))::X.kept }
  have hlt:∀p,p∈(D,(.deferred (some []):Obj))::X.kept->p.1≠l:=by
    intro p hp;rcases qxP.1 hp with rfl|hp
    · show D≠l;simp[D,l]
    · have:=qnj hs.hs hp;simp only[l];omega
  have hI:qnu P (f,k) B1:=⟨fn,cb,x,ps,a,b,hf,hb,hk,act.tmps,B.fs,D,fid,(D,.deferred (some []))::X.kept,rfl,fun e=>rfl,hlt,rfl⟩;have hB1:qK P E.iter g B1:=⟨fun h=>(by cases h),by rw[hfi];exact hI⟩;have hargs:RepL X2 (first++[.yld]++caps) (vf++[Value.func (.yield l) #[] #[]]++vc):=by
    have hno:AV.noYL first=true/\AV.noYL caps=true:=by
      have hn:(AV.fn g first caps).noY=true:=by
        rw[<-hx];cases x with
        | tmp i =>
          simp only[Env.opd];rw[qxE];cases hi:st.t[i]? with
          | none=>rfl
          | some v =>
            have:∀(l:List AV),AV.noYL l=true->∀v,v∈l->v.noY=true:=by
              intro l;induction l with
              | nil=>intro _ v hv;cases hv
              | cons y l ih =>
                intro hl v hv;simp only[AV.noYL,qxL] at hl;rcases qxP.1 hv with rfl|hv
                · exact hl.1
                · exact ih hl.2 v hv
            exact this _ t3 v (qyC hi)
        | const v => rw [show E.opd st.t (.const v) = ofV v from rfl] at hx; unfold ofV at hx; split at hx; · cases hx
                     · unfold vh at hx;split at hx<;>first|cases hx|(split at hx<;>cases hx)
        | global g' =>
          simp only[Env.opd] at hx;cases hg:E.glob.find? fun x=>x.1==g' with
          | none=>rw[hg] at hx;cases hx
          | some y =>
            rw[hg] at hx;obtain⟨⟨sh,r',i,off,he⟩,_⟩:=hs.glob y (qyi hg);simp only[qy0,qyK] at hx;rw[he] at hx;cases hx
        | func f'=>rw[show E.opd st.t (.func f')=.fn f' [] [] from rfl] at hx;cases hx;rfl
      simpa only [AV.noY,qxL] using hn
    have m1:RepL X1 first vf:=(g1.ext0 k2).ext0 k4'
    have m2:RepL X1 caps vc:=(g2.ext0 k2).ext0 k4';exact((m1.setY l hno.1).append (.cons .yld .nil)).append (m2.setY l hno.2)
  have hF:SimF E B1 X2 st:=by have m1:RepL X1 st.t act.tmps.toList:=(hs.t.ext0 k2).ext0 k4';refine⟨hs2.base rfl rfl rfl,hs.h,?_,qlH (qaj k4' (qaj k2 hs.glob)) l,hs.ni,rfl,fun p hp=>by rw[t2] at hp;exact hp⟩;show RepLL X2 _ (act.tmps.toList::B.fs);rw[t1,hBfs];exact .cons (m1.setY l t3) (.cons .nil .nil)
  obtain⟨henter,hcalls⟩:=hrg g _ _ st q B1 X2 _ hF hB1 (fun B' hB'=>by obtain⟨_,h'⟩:=hB';rw[hfi] at h';exact qot hf hb hk hni hA hB h') rfl hargs h1;refine⟨l,[qcg D],X1.w,{ target:=.fn (.func g) vc.toArray,args:=vf.toArray++#[Value.func (.yield l) #[] #[]] },X1.w,g,(vf++[Value.func (.yield l) #[] #[]]++vc).toArray,X1.w,?_,?_,fun _ _=>trivial,?_,q8u none,?_⟩
  · exact run_enterLoop_outer fid act.tmps ps a b
  · simp only[resolve,hev,Deferred.ofValue,qxW]
    simp[Act.eval]
  · simp only[invoke]
    have:vf.toArray++#[Value.func (.yield l) #[] #[]]++vc.toArray=(vf++[Value.func (.yield l) #[] #[]]++vc).toArray:=by apply qyo;simp
    rw[this];exact henter X1.w
  · refine qs9.2 (hcalls.mono fun e w' ⟨v,X',e1,e2,_,hF'⟩=>?_)
    subst e1 e2;have hpin:=hF'.pin;have hrec:(l,.loop (q2V fid act.tmps ps a b D q.2.pend))∈X'.kept:=hpin _ qxM;have hlie:=(hF'.hs.kept _ hrec).1;simp only at hlie;have hbusy:(q2V fid act.tmps ps a b D q.2.pend).state≠.busy:=by simp only[q2V];split<;>simp
    obtain⟨m1,m2⟩:=q6I hF'.hs (o':=.loop { q2V fid act.tmps ps a b D q.2.pend with state:=.exhausted }) hrec (fun _ _ _ h=>by cases h);refine⟨_,_,run_endLoop hlie hbusy,?_⟩;unfold qs2 at h2;cases htq:qmS { q.2 with pend:=none } with
    | false=>rw[htq] at h2;cases h2
    | true =>
    rw[htq] at h2;simp only at h2;have htop2:q.2.fs=[[]]/\AV.noYL q.2.t=true/\q.2.h.all Blk.noY=true:=by
      unfold qmS at htq;split at htq
      · rename_i h1 h2
        simp only[qxL] at htq;exact⟨h1,htq.1,htq.2⟩
      · cases htq
    obtain⟨u1,u2,u3⟩:=htop2
    let X3:Ctx:={ X' with w:=X'.w.putObj l (.loop { q2V fid act.tmps ps a b D q.2.pend with state:=.exhausted }),kept:=q7q l (.loop { q2V fid act.tmps ps a b D q.2.pend with state:=.exhausted }) X'.kept }
    have hsim:Sim E B { X3 with y:=B.y } { q.2 with pend:=none } { act with defers:=[qcg D]++act.defers }:=by
      have hfs':=hF'.fs.ext0 m2;have hold:∀p,p∈(D,(.deferred (some []):Obj))::X.kept->p∈X3.kept:=fun p hp=>uu (hpin p (qxQ _ hp)) (hlt p hp);have hfs2:RepLL X3 (q.2.t::q.2.fs) (act.tmps.toList::B.fs):=hfs';refine⟨((m1.base (B':=B) rfl rfl rfl).setY B.y (by show X'.h.all Blk.noY=true;rw[hF'.h];exact u3)),hF'.h,?_,?_,qlH (qaj m2 hF'.glob) B.y,?_,hs.ni,rfl,?_⟩
      · cases hfs2 with|cons z1 z2=>exact z1.setY B.y u2
      · show RepLL _ q.2.fs B.fs
        rw[u1,hBfs];exact .cons .nil .nil
      · obtain⟨Ds,d1,d2,d3⟩:=hs.df
        rw[t2] at d3;refine⟨D::Ds,by rw[d1];rfl,List.nodup_cons.2 ⟨fun hD=>?_,d2⟩,fun D' hD'=>?_⟩
        · have:=qnj hs.hs (d3 D hD).1
          simp[D] at this
        · rcases qxP.1 hD' with rfl|hD'
          · refine⟨hold _ qxM,fun p hp=>?_⟩
            have hp':=hs.pin p (by rw[t2];exact hp);have:=qnj hs.hs hp';simp only[D];omega
          · exact⟨hold _ (qxQ _ (d3 D' hD').1),(d3 D' hD').2⟩
      · intro p hp
        exact hold p (qxQ _ (hs.pin p (by rw[t2];exact hp)))
    cases hpe:q.2.pend with
    | none =>
      rw[hpe] at h2;simp only[Tree.run,qxB] at h2;subst h2;exact⟨rfl,{ X3 with y:=B.y },by show X'.w.putObj l _=_;rw[hpe],hsim⟩
    | some e =>
      rw[hpe] at h2;cases e with
      | normal=>cases h2
      | ret =>
        simp only[Tree.run,qxB] at h2;subst h2;exact wpIn_ret ⟨rfl,{ X3 with y:=B.y },by show X'.w.putObj l _=_;rw[hpe],hsim⟩
      | exit i =>
        simp only[Tree.run,qxB] at h2;subst h2;exact wpIn_exit ⟨rfl,{ X3 with y:=B.y },by show X'.w.putObj l _=_;rw[hpe],hsim⟩
def Ctx.frzC(X:Ctx)(b:Nat):Ctx:={ X with h:=X.h.set b .dead,M:=fun m=>X.M m\/X.σ b=some m }
theorem Ctx.frzC_ext {b:Nat}{cs:List AV}(hb:X.h[b]?=some (.cells cs)):Ext X (X.frzC b):=by
 refine Move.of (fun _ h=>.inl h) (fun _ _=>rfl) (fun b1 b2 hb1 h=>?_);cases h;refine⟨by simpa[Ctx.frzC] using hb1,rfl,fun sh1 m ⟨e1,l1,h1,h2⟩=>?_,fun _ _ _ m hm c T fr hc=>⟨c,T,fr,hc,rfl⟩⟩;have hbl:=qj hb;rcases h1 with h1|h1
 ·rcases q34 hbl h1 with⟨rfl,h3⟩|⟨hne,h1⟩
  ·cases h3
  ·exact⟨_,_,.inl h1,h2⟩
 ·rcases q34 hbl h1 with⟨rfl,h3⟩|⟨hne,h1⟩
  ·cases h3
  ·exact⟨_,_,.inr h1,h2⟩
theorem HSim.frzC (hs:HSim B X){b:Nat}{cs:List AV}(hb:X.h[b]?=some (.cells cs))(hni:B.imps.length<=b):HSim B (X.frzC b):=by
 have hx:=Ctx.frzC_ext hb;have hbl:=qj hb;have hown:∀b1 n1,(X.frzC b).own b1 n1->b1≠b/\X.own b1 n1:=by
  intro b1 n1 ⟨h1,k1,h2,h3⟩;rcases q34 hbl h2 with⟨rfl,rfl⟩|⟨hne,h2⟩
  ·cases h3
  ·exact⟨hne,h1,k1,h2,h3⟩
 have hob:∀m,X.σ b=some m->X.own b m:=fun m hm=>⟨hm,_,hb,rfl⟩;constructor
 ·intro b1 k1 h;rcases q34 hbl h with⟨rfl,rfl⟩|⟨hne,h1⟩
  ·trivial
  ·exact vD.ext hx rfl (fun _ _=>rfl) (hs.blk b1 k1 h1)
 ·intro b1 b2 m h1 h2;exact hs.inj b1 b2 m (hown b1 m h1).2 (hown b2 m h2).2
 ·intro b1 m h1 h2;rcases h2 with h2|h2
  ·exact hs.notM b1 m (hown b1 m h1).2 h2
  ·exact(hown b1 m h1).1 (hs.inj b1 b m (hown b1 m h1).2 (hob m h2))
 ·intro m h;rcases h with h|h
  ·exact hs.ltM m h
  ·exact Ctx.own.lt hs (hob m h)
 ·intro m h;exact .inl (hs.M0 m h)
 ·intro m h;rcases h with h|h
  ·exact hs.newM m h
  ·exact .inr (hs.fresh b m (hob m h) hni)
 ·exact hs.os
 ·exact hs.tape
 ·exact hs.output
 ·exact hs.size
 ·exact hs.frame
 ·exact hs.imps
 ·intro b1 hb1;obtain⟨cs,h,hc⟩:=hs.impc b1 hb1;exact⟨cs,by simpa[Ctx.frzC,qxD (show b≠b1 by omega)] using h,hc⟩
 ·intro b1 n1 h1 h2;exact hs.fresh b1 n1 (hown b1 n1 h1).2 h2
 ·exact hs.kept
theorem qrL {a:AV}{s:Sh}{u:U}{v:Value}(h:uOf a=some (s,u))(hr:Rep X a v):RepU X.w X.M s u v:=by
 cases hr<;>simp only[uOf] at h<;>first|(cases h;done)|skip
 all_goals first|(cases h;exact .int _ _)|(cases h;exact .bool _)|(cases h;exact .str _)|skip
 rename_i himm;cases h;exact q5d himm
theorem qjr{X:Ctx}:∀{cs:List AV} {sh:List Sh} {row:List U} {vs:List Value},qwa cs=some (sh,row)->RepL X cs vs->sh.length=vs.length/\row.length=vs.length /\
  ∀j (hj:j<sh.length),∃v,vs[j]?=some v/\RepU X.w X.M sh[j] (row.getD j (.i 0)) v
 | [],sh,row,vs,h,hr=>by
  simp only[qwa] at h;cases h;cases hr;exact⟨rfl,rfl,fun j hj=>absurd hj (Nat.not_lt_zero j)⟩
 | a::cs,sh,row,vs,h,hr=>by
  simp only[qwa] at h;split at h
  ·rename_i s u ss us h1 h2;cases h;cases hr with
   | cons q1 q2=>
    obtain⟨g1,g2,g3⟩:=qjr h2 q2;refine⟨by simp[g1],by simp[g2],fun j hj=>?_⟩;cases j with
    | zero=>exact⟨_,rfl,qrL h1 q1⟩
    | succ j=>
     obtain⟨v,k1,k2⟩:=g3 j (by simpa using hj);exact⟨v,by simpa using k1,by simpa using k2⟩
  ·cases h
theorem qnw (hs:Sim E B X st a)(b:Nat):∃X',X'.w=X.w/\Sim E B X' (qqN E.nimp b st) a:=by
 unfold qqN;split
 ·rename_i cs hb;split
  ·rename_i sh row hu hni;have hbX:X.h[b]?=some (.cells cs):=by rw[hs.h];exact hb
   have hni':B.imps.length<=b:=qxJ hs.ni (Nat.le_of_ble_eq_true hni);have hx:=Ctx.frzC_ext hbX;have h1:=hs.hs.frzC hbX hni';have hsim:=hs.ext hx h1;obtain⟨n,c,T,g1,g2,g3⟩:=hs.hs.blk b _ hbX;obtain⟨k1,k2,k3⟩:=qjr hu (g3.ext hx);have hrows:Rows (X.frzC b).w (X.frzC b).M sh [row] ⟨n,0,none⟩:=by
    intro r j hj hr;have hr0:r=0:=by simpa using hr
    subst hr0;obtain⟨v,q1,q2⟩:=k3 j hj;refine⟨.inr g1,v,?_,q2⟩;show World.cell? X.w ⟨n,0+0*sh.length+j,none⟩=some v;rw[show 0+0*sh.length+j=j from by omega,zu g2];simpa using q1
   refine⟨X.frzC b,rfl,hsim.hs,by show X.h.set b .dead=_;rw[hs.h],?_,hsim.fs,hsim.glob,hsim.df,hsim.ni,hsim.y,hsim.pin⟩;have key:∀{azz:List AV} {vs:List Value},RepL (X.frzC b) azz vs->RepL (X.frzC b) (azz.map (qwU b sh row)) vs:=by
    intro azz;induction azz with
    | nil=>intro vs h;cases h;exact .nil
    | cons x azz ih=>
     intro vs h;cases h with
     | cons q1 q2=>
      refine .cons ?_ (ih q2);cases x<;>first|exact q1|skip
      rename_i b' off;show Rep _ (if Nat.beq b' b=true then AV.eptr sh [row] 0 off else AV.ptr b' off) _;split
      ·rename_i hbb;obtain rfl:=qyf hbb;cases q1 with
       | ptr _ _ n' hb' hσ=>
        have hσ':X.σ b'=some n':=hσ;rw[g1] at hσ';cases hσ';have:=Rep.eptr (X:=X.frzC b') sh [row] 0 off ⟨n,0,none⟩ rfl (qxT 0) (by simp) hrows;simpa using this
      ·exact q1
   exact key hsim.t
  ·exact⟨X,rfl,hs⟩
 ·exact⟨X,rfl,hs⟩
theorem qoe (hs:Sim E B X st a)(ops:List Oper):∃X',X'.w=X.w/\Sim E B X' (qjL E ops st) a:=by
 unfold qjL;split
 ·exact qnw hs _
 ·exact⟨X,rfl,hs⟩
theorem q6v (hm:P.follows .mixedOrders=true)(hE:E.tok P)(hS:E.specs P)(hL:E.loopsOK P)(hf:P.funcs[f]?=some fn){cb:Code}(hb:fn.body=some cb){callH:q4j} (hcH:∀B,qK P E.iter f B->CallOK E P callH B) {callS:List Blk->q32} (hc:qcp E P callS) (hmo:q2z E callS) {rangeH:q85} (hrg:qcn E P rangeH) :∀(c:Code) (k:Nat),(∀j c',(qO c)[j]?=some c'->(qO cb)[k+j]?=some c') ->∀{B:Base} {X:Ctx} {st:St} {a:Act} {r:Ex×St} {n0:Nat},qK P E.iter f B->Sim E B X st a->(j4 E callH callS rangeH f c k st).run=some r->c.wpIn (q1C B.ro) n0 P (qoa E B r) a X.w:=by
 intro c;induction c with
 | skip=>
  intro k _ B X st a r n0 hbo hs h;simp only[j4,Tree.run,qxB] at h;subst h;exact wpIn_skip ⟨rfl,X,rfl,hs⟩
 | label _=>
  intro k _ B X st a r n0 hbo hs h;simp only[j4,Tree.run,qxB] at h;subst h;exact wpIn_label ⟨rfl,X,rfl,hs⟩
 | region id ops draw=>
  intro k _ B X st a r n0 hbo hs h;simp only[j4] at h;obtain⟨s,h1,h2⟩:=bind_some h;simp only[Tree.run,qxB] at h2;subst h2;obtain⟨X0,hw0,hs0⟩:=qoe hs ops.toList;rw[<-hw0];cases draw with
  | true=>exact qlM hm hE hS (hcH B hbo) hc hmo hs0 h1 fun X' a' hs'=>⟨rfl,X',rfl,hs'⟩
  | false=>exact qiE hE (hcH B hbo) hs0 h1 fun X' a' hs'=>⟨rfl,X',rfl,hs'⟩
 | seq c d ihc ihd=>
  intro k hl B X st a r n0 hbo hs h;simp only[j4] at h;cases hfn:q59 E.loops f k with
  | some L=>
   rw[hfn] at h;obtain⟨fn',c1,c2,q1,q2,q3,q4⟩:=hL _ (qb6 hfn);simp only at q1 q3 q4;rw[hf] at q1;cases q1;rw[hb] at q2;cases q2;have:=hl 0 (.seq c d) (by simp[qO]);rw[qyd,q3] at this;cases this;exact q4 E B X st a r rfl rfl hbo hs h n0
  | none=>
  rw[hfn] at h;obtain⟨r1,h1,h2⟩:=bind_some h;apply wpIn_seq;have g1:=ihc (k+1) (fun j c' hj=>by have:=hl (1+j) c' (by simp only[qO];rw[Nat.add_comm,qyg,qxK (qj hj)];exact hj);rw[show k+1+j=k+(1+j) by omega];exact this) (n0:=n0) hbo hs h1;refine wpIn_mono g1 fun e a' w' ⟨he,X',hw,hs'⟩=>?_;subst hw;obtain⟨x1,s1⟩:=r1;cases x1 with
  | normal=>
   subst he;refine ihd (k+1+zk c) (fun j c' hj=>?_) hbo hs' h2;have:=hl (1+zk c+j) c' (by simp only[qO];rw[show 1+zk c+j=(zk c+j)+1 by omega,qyg,qxU (by rw[jO];omega),jO];rw[show zk c+j-zk c=j by omega];exact hj);rw[show k+1+zk c+j=k+(1+zk c+j) by omega];exact this
  | exit i=>
   simp only[Tree.run,qxB] at h2;subst he h2;exact⟨rfl,X',rfl,hs'⟩
  | ret=>
   simp only[Tree.run,qxB] at h2;subst he h2;exact⟨rfl,X',rfl,hs'⟩
 | cond x c d ihc ihd=>
  intro k hl B X st a r n0 hbo hs h;simp only[j4] at h;have hlc:=fun j c' (hj:(qO c)[j]?=some c')=>hl j c' (by simp only[qO];rw[qxK (qj hj)];exact hj);have hld:∀j c',(qO d)[j]?=some c'->(qO cb)[k+zk c+j]?=some c':=fun j c' hj=>by have:=hl (zk c+j) c' (by simp only[qO];rw[qxU (by rw[jO];omega),jO];rw[show zk c+j-zk c=j by omega];exact hj);rw[show k+zk c+j=k+(zk c+j) by omega];exact this
  have hx:=q4d hs x;cases hv:E.opd st.t x with
  | blit b=>
   rw[hv] at h hx;generalize hev:a.eval x=vx at hx;cases hx;cases b with
   | true=>exact wpIn_cond_true hev (ihc k hlc hbo hs h)
   | false=>exact wpIn_cond_false hev (ihd _ hld hbo hs h)
  | bool b=>
   rw[hv] at h hx;generalize hev:a.eval x=vx at hx;cases hx;cases x with
   | tmp t=>
    simp only at h;have ht:st.t[t]?=some (.bool b):=by
     simp only[Env.opd,qxE] at hv;cases hg:st.t[t]? with
     | none=>rw[hg] at hv;cases hv
     | some y=>rw[hg] at hv;simp at hv;rw[hv]
    have hs':=hs.lit ht;cases b with
    | true=>exact wpIn_cond_true hev (ihc k hlc hbo hs' h)
    | false=>exact wpIn_cond_false hev (ihd _ hld hbo hs' h)
   | _=>cases h
  | _=>rw[hv] at h;cases h
 | block id c ihc=>
  intro k hl B X st a r n0 hbo hs h;simp only[j4] at h;obtain⟨r1,h1,h2⟩:=bind_some h;apply wpIn_block;have g1:=@ihc k hl _ _ _ _ _ n0 hbo hs h1;refine wpIn_mono g1 fun e a' w' ⟨he,X',hw,hs'⟩=>?_;subst hw he;obtain⟨x1,s1⟩:=r1;cases x1 with
  | normal=>
   simp only[Tree.run,qxB] at h2;subst h2;exact⟨rfl,X',rfl,hs'⟩
  | ret=>
   simp only[Tree.run,qxB] at h2;subst h2;exact⟨rfl,X',rfl,hs'⟩
  | exit i=>
   simp only[Ex.out,Exit.inBlock];simp only at h2;by_cases hi:i=id
   ·rw[if_pos hi] at h2 ⊢;simp only[Tree.run,qxB] at h2;subst h2;exact⟨rfl,X',rfl,hs'⟩
   ·rw[if_neg hi] at h2 ⊢;simp only[Tree.run,qxB] at h2;subst h2;exact⟨rfl,X',rfl,hs'⟩
 | loop c ihc=>
  intro k hl B X st a r n0 hbo hs h;simp only[j4] at h;cases hfn:q59 E.loops f k with
  | none=>rw[hfn] at h;cases h
  | some L=>
   rw[hfn] at h;obtain⟨fn',c1,c2,q1,q2,q3,q4⟩:=hL _ (qb6 hfn);simp only at q1 q3 q4;rw[hf] at q1;cases q1;rw[hb] at q2;cases q2;have:=hl 0 (.loop c) (by simp[qO]);rw[qyd,q3] at this;cases this;exact q4 E B X st a r rfl rfl hbo hs h n0
 | exit id=>
  intro k _ B X st a r n0 hbo hs h;simp only[j4,Tree.run,qxB] at h;subst h;exact wpIn_exit ⟨rfl,X,rfl,hs⟩
 | ret  =>
  intro k _ B X st a r n0 hbo hs h;simp only[j4,Tree.run,qxB] at h;subst h;exact wpIn_ret ⟨rfl,X,rfl,hs⟩
 | goto _=>
  intro k _ B X st a r n0 hbo hs h;simp only[j4] at h;cases h
 | scope _ ihc=>
  intro k _ B X st a r n0 hbo hs h;simp only[j4] at h;cases h
 | rangeFunc x ps c d ihc ihd=>
  intro k hl B X st a r n0 hbo hs h;simp only[j4] at h;cases hx:E.opd st.t x with
  | fn g first caps=>
   rw[hx] at h;simp only at h;cases hcd:qjC E.iter g f k&&q47 E.iter f&&qmS st with
   | false=>rw[hcd] at h;cases h
   | true=>
    rw[hcd] at h;simp only at h;refine qtM hrg hf hb (hl 0 _ (by simp[qO])) (fun B X st act r hbo hs hr n=>?_) (fun B X st act r hbo hs hr n=>?_) hbo hs hx hcd h
    ·refine ihc (k+1) (fun j c' hj=>?_) hbo hs hr;have:=hl (1+j) c' (by simp only[qO];rw[Nat.add_comm,qyg,qxK (qj hj)];exact hj);rw[show k+1+j=k+(1+j) by omega];exact this
    ·refine ihd (k+1+zk c) (fun j c' hj=>?_) hbo hs hr;have:=hl (1+zk c+j) c' (by simp only[qO];rw[show 1+zk c+j=(zk c+j)+1 by omega,qyg,qxU (by rw[jO];omega),jO];rw[show zk c+j-zk c=j by omega];exact hj);rw[show k+1+zk c+j=k+(1+zk c+j) by omega];exact this
  | _=>rw[hx] at h;cases h
 | _=>
  intro k hl B X st a r n0 hbo hs h;simp only[j4] at h;cases h
theorem qni {w:World}{t:TypeId}{v u:Value}(h:(Instr.loadAt t v).run P w=.ok u w):∃ad,v=.pointer (some ad)/\(loadVar t ad).run P w=.ok u w:=by
 cases v with
 | pointer p=>
  cases p with
  | some ad=>exact⟨ad,rfl,by simpa[Instr.loadAt,Instr.sureAddr] using h⟩
  | none=>simp[Instr.loadAt,Instr.sureAddr] at h
 | _=>simp[Instr.loadAt,Instr.sureAddr] at h
def qvT(tmps:Array Value):ResultVar->Sem Value
 | .tmp t=>pure (tmps.getD t undef)
 | .cell a t=>do loadVar t (<-asAddr (tmps.getD a undef))
theorem qpO (fn:Func)(tmps:Array Value):results fn tmps=(fn.results.mapM (qvT tmps) >>= fun vs=>pure (if h:vs.size=1 then vs[0] else .tuple vs)):=by unfold results;congr 1
theorem qcu{E:Env}{P:Program}(hE:E.tok P){B:Base}{X:Ctx}{st:St}{a:Act}(hs:Sim E B X st a):∀(l:List ResultVar) (vs:List AV),qg1 E st.h st.t l=some vs ->
  ∃us,(l.mapM (qvT a.tmps)).run P X.w=.ok us X.w/\RepL X vs us
 | [],vs,h=>by simp only[qg1,qxB] at h;subst h;exact⟨[],by simp,.nil⟩
 | .tmp i::l,vs,h=>by
  simp only[qg1] at h;split at h
  ·rename_i r hr;cases h;obtain⟨us,h1,h2⟩:=qcu hE hs l r hr;have:=q4d hs (.tmp i);simp only[Env.opd,Act.eval] at this;exact⟨_::us,by simp[List.mapM_cons,qvT,h1],.cons this h2⟩
  ·cases h
 | .cell i ty::l,vs,h=>by
  simp only[qg1] at h;split at h
  ·rename_i v h' n r hld hr;cases h;obtain⟨us,h1,h2⟩:=qcu hE hs l r hr;have hv:=q4d hs (.tmp i);simp only[Env.opd,Act.eval] at hv;rw[<-hs.h] at hld;obtain⟨av,u,g1,g2,g3⟩:=qaf hE hs.hs hv (r:=(v,h',n)) (by rw[hld];rfl);obtain⟨ad,g4,g5⟩:=qni g2;have:v=av:=congrArg Prod.fst g1;subst this;refine⟨u::us,?_,.cons g3 h2⟩;simp only[List.mapM_cons,qvT,qxF,g4,asAddr,qxW,qxH,g5,h1]
  ·cases h
theorem RepL.len:∀{azz:List AV} {vs:List Value},RepL X azz vs->azz.length=vs.length
 | _,_,.nil=>rfl
 | _,_,.cons _ t=>by simp[t.len]
theorem qkY (hE:E.tok P)(hs:Sim E B X st a){vs:List AV}(h:qg1 E st.h st.t fn.results.toList=some vs) :∃u,(results fn a.tmps).run P X.w=.ok u X.w/\Rep X (qrI vs) u:=by
 obtain⟨us,h1,h2⟩:=qcu hE hs _ _ h;have hm:(fn.results.mapM (qvT a.tmps)).run P X.w=.ok us.toArray X.w:=by rw[Array.mapM_eq_mapM_toList,Sem.run_map,h1];rfl
 rw[qpO,qxF,hm];simp only[qxH,qxW];have hl:=h2.len;cases h2 with
 | nil=>exact⟨_,rfl,.tuple [] [] .nil⟩
 | cons g1 g2=>
  cases g2 with
  | nil=>exact⟨_,rfl,by simpa[qrI] using g1⟩
  | cons g3 g4=>
   refine⟨_,rfl,?_⟩;rw[dif_neg (by simp)];exact .tuple _ _ (.cons g1 (.cons g3 g4))
theorem qrw {args:List AV}{vargs:List Value}(h:RepL X args vargs):RepL X (qq4 fn args) (vargs.toArray++Array.replicate (fn.ntmps-vargs.toArray.size) undef).toList:=by
 have hrep:∀n,RepL X (List.replicate n .skip) (List.replicate n undef):=by
  intro n;induction n with
  | zero=>exact .nil
  | succ n ih=>simp only[qyQ];exact .cons .skip ih
 unfold qq4;simp only[qzb,Array.toList_replicate,List.size_toArray];rw[h.len];exact h.append (hrep _)
def Env.bodies(E:Env)(P:Program):Prop:=∀x,x∈E.body->P.funcs[x.1]?=some x.2/\(x.2.name == "runtime.NumGoroutine")=false
theorem qe5 (hm:P.follows .mixedOrders=true)(hE:E.tok P)(hS:E.specs P)(hL:E.loopsOK P)(hf:P.funcs[f]?=some fn){callH:q4j} (hcH:∀B,qK P E.iter f B->CallOK E P callH B) {callS:List Blk->q32} (hc:qcp E P callS) (hmo:q2z E callS) {rangeH:q85} (hrg:qcn E P rangeH){args:List AV} {st:St} {r:AV×St} {B:Base} {X:Ctx} {vargs:List Value} (hro:B.ro=none) (hbo:qK P E.iter f B) (hs:SimF E B X st) (ha:RepL X args vargs) (h:(qjS E callS callH rangeH f fn args st).run=some r) :fn.body.isNone=false/\Calls P f vargs.toArray X.w fun e w'=>∃v X',e=.returned v/\X'.w=w'/\Rep X' r.1 v/\SimF E B X' r.2:=by
 unfold qjS at h;cases hb:fn.body with
 | none=>rw[hb] at h;cases h
 | some c=>
  rw[hb] at h;refine⟨rfl,qs9.1 (callsIn_of_wp_marks (F:=q1C none) (n:=0) hf hb trivial ?_)⟩;obtain⟨r1,h1,h2⟩:=bind_some h;have hsim:Sim E B X { t:=qq4 fn args,fs:=st.t::st.fs,h:=st.h,pend:=st.pend } { tmps:=vargs.toArray++Array.replicate (fn.ntmps-vargs.toArray.size) undef,defers:=[] }:=
   ⟨hs.hs,hs.h,qrw ha,hs.fs,hs.glob,qnM.nil,hs.ni,hs.y,hs.pin⟩
  have hcode:=q6v (n0:=0) hm hE hS hL hf hb hcH hc hmo hrg c 0 (fun j c' hj=>by rw[qym];exact hj) hbo hsim h1;rw[hro] at hcode;refine wpIn_mono hcode fun e a' w' ⟨he,X',hw,hs'⟩=>?_;subst he hw;obtain⟨x1,s1⟩:=r1;have fin:∀{vs:List AV} {caller:List AV} {fs:List (List AV)},qg1 E s1.h s1.t fn.results.toList=some vs->s1.fs=caller::fs->r=(qrI vs,{ t:=caller,fs:=fs,h:=s1.h,pend:=s1.pend }) ->
    LeavesInM (q1C none) 0 P fn a'.tmps (fun e w'=>∃v X',e=.returned v/\X'.w=w'/\Rep X' r.1 v/\SimF E B X' r.2) a'.defers .returning X'.w:=by
   intro vs caller fs hr hfs hre;obtain⟨Ds,d1,_⟩:=hs'.df;rw[d1];refine qme Ds hs' d1 fun X2 hs2=>?_;obtain⟨u,g1,g2⟩:=qkY hE hs2 hr;refine⟨u,g1,u,X2,rfl,rfl,by rw[hre];exact g2,?_⟩;rw[hre];exact⟨hs2.hs,hs2.h,by rw[<-hfs];exact hs2.fs,hs2.glob,hs2.ni,hs2.y,hs2.pin⟩
  unfold qu3 at h2;cases x1 with
  | exit i=>simp only at h2;cases h2
  | normal=>
   simp only at h2;split at h2
   ·rename_i vs caller fs hr hfs;cases h2;exact fin hr hfs rfl
   ·cases h2
  | ret=>
   simp only at h2;split at h2
   ·rename_i vs caller fs hr hfs;cases h2;exact fin hr hfs rfl
   ·cases h2
theorem yS (hf:P.funcs[f]?=some fn)(hn:(fn.name == "runtime.NumGoroutine")=false)(hb:fn.body.isNone=false):qc7 P f:=by intro args w;unfold callFunc;rw[qxF];show (Result.ok P w).andThen _=_;simp only[qxH,hf,hn,hb,qy5,if_false,qxW]
theorem qvs {all:Array Oper}{k:Nat}{o:Oper}{s s':St}(h:(qiS all k o s).run=some s')(u:St)(hu:u.t=s.t):(qiS all k o u).run=some { u with t:=s'.t }:=by
 unfold qiS at h ⊢;split at h
 ·rename_i hg;rw[if_pos hg];split at h
  ·rename_i d hd;simp only[hu];split at h
   ·rename_i b hb;simp only[Tree.run] at h ⊢;cases b<;>(simp only[qxB] at h ⊢;subst h;rfl)
   ·rename_i hb;cases hx:s.t[d]? with
    | none=>simp only[Tree.run,qxB] at h ⊢;subst h;rw[<-hu]
    | some v=>
     rw[hx] at hb;cases v<;>first|(exact absurd rfl (hb _))|(simp only[Tree.run,qxB] at h ⊢;subst h;rw[<-hu])
  ·simp only[Tree.run,qxB] at h ⊢;subst h;rw[<-hu]
 ·rename_i hg;rw[if_neg hg];simp only[Tree.run,qxB] at h ⊢;subst h;rw[<-hu]
theorem qf7{E:Env}{callH:q4j}{all:Array Oper}{st0:St}:∀(l:List Oper) (k:Nat) (t t':List AV),(qjt E st0.h all k l t).run=some t'->(qcH E callH all k l { st0 with t:=t }).run=some { st0 with t:=t' }
 | [],k,t,t',h=>by simp only[qjt,Tree.run,qxB] at h;subst h;rfl
 | o::rest,k,t,t',h=>by
  simp only[qjt] at h;simp only[qcH];cases hw:q2o all o t with
  | none=>rw[hw] at h;cases h
  | some b=>
   rw[hw] at h;cases b with
   | false=>
    simp only at h ⊢;exact qf7 rest (k+1) _ t' h
   | true=>
    simp only at h ⊢;cases hst:q6Y E o.op with
    | false=>rw[hst] at h;cases h
    | true=>
     rw[hst] at h;obtain⟨r,h1,h2⟩:=bind_some h;obtain⟨s,h3,h4⟩:=bind_some h2;have hr:=qj9 hst h1;have hstep:(qig E callH o { st0 with t:=t }).run=some { st0 with t:=qbY t o.dst r.1 }:=by
      unfold qig;split
      ·rename_i x args tys hop;rw[hop] at hst;cases hst
      ·rw[Tree.run_bind,h1];obtain⟨r1,r2⟩:=r;simp only at hr;subst hr;rfl
     rw[Tree.run_bind,hstep];simp only[qy3];rw[Tree.run_bind,qvs h3 { st0 with t:=qbY t o.dst r.1 } rfl];exact qf7 rest (k+1) _ t' h4
theorem qlm {callH:q4j}{callS:List Blk->q32}{rangeH:q85}{st0:St}:∀(c:Code) (k:Nat) (t:List AV) (r:Ex×List AV),(kj E st0.h f c k t).run=some r ->(j4 E callH callS rangeH f c k { st0 with t:=t }).run=some (r.1,{ st0 with t:=r.2 }):=by
 intro c;induction c with
 | skip=>intro k t r h;simp only[kj,Tree.run,qxB] at h;subst h;rfl
 | label _=>intro k t r h;simp only[kj,Tree.run,qxB] at h;subst h;rfl
 | region id ops draw=>
  intro k t r h;simp only[kj] at h;cases draw with
  | true=>cases h
  | false=>
   simp only at h;cases hfz:quG E ops.toList t with
   | some b=>rw[hfz] at h;cases h
   | none=>
   rw[hfz] at h;obtain⟨s,h1,h2⟩:=bind_some h;simp only[Tree.run,qxB] at h2;subst h2;simp only[j4];have e0:qjL E ops.toList { st0 with t:=t }={ st0 with t:=t }:=by unfold qjL;simp only;rw[hfz]
   rw[e0,Tree.run_bind,qf7 (callH:=callH) _ _ _ _ h1];rfl
 | seq c d ihc ihd=>
  intro k t r h;simp only[kj] at h;simp only[j4];cases hfn:q59 E.loops f k with
  | some L=>rw[hfn] at h;cases h
  | none=>
   rw[hfn] at h;simp only at h ⊢;obtain⟨s,h1,h2⟩:=bind_some h;rw[Tree.run_bind,ihc _ _ _ h1];simp only[qy3];obtain⟨e,s2⟩:=s;cases e with
   | normal=>exact ihd _ _ _ h2
   | ret=>simp only[Tree.run,qxB] at h2 ⊢;subst h2;rfl
   | exit i=>simp only[Tree.run,qxB] at h2 ⊢;subst h2;rfl
 | cond x c d ihc ihd=>
  intro k t r h;simp only[kj] at h;simp only[j4];split at h
  ·exact ihc _ _ _ h
  ·exact ihd _ _ _ h
  ·rename_i b hx;cases x with
   | tmp d'=>
    simp only[Tree.run] at h ⊢;cases b with
    | true=>exact ihc _ _ _ h
    | false=>exact ihd _ _ _ h
   | _=>cases h
  ·cases h
 | block id c ihc=>
  intro k t r h;simp only[kj] at h;simp only[j4];obtain⟨s,h1,h2⟩:=bind_some h;rw[Tree.run_bind,ihc _ _ _ h1];simp only[qy3];obtain⟨e,s2⟩:=s;cases e with
  | normal=>simp only[Tree.run,qxB] at h2 ⊢;subst h2;rfl
  | ret=>simp only[Tree.run,qxB] at h2 ⊢;subst h2;rfl
  | exit i=>
   simp only at h2 ⊢;split at h2
   ·rename_i hi;rw[if_pos hi];simp only[Tree.run,qxB] at h2 ⊢;subst h2;rfl
   ·rename_i hi;rw[if_neg hi];simp only[Tree.run,qxB] at h2 ⊢;subst h2;rfl
 | exit id=>intro k t r h;simp only[kj,Tree.run,qxB] at h;subst h;rfl
 | ret=>intro k t r h;simp only[kj,Tree.run,qxB] at h;subst h;rfl
 | _=>intro k t r h;simp only[kj] at h;cases h
theorem qmq {callH:q4j}{rangeH:q85}{args:List AV}{v:AV}(h:(qmV E st.h f fn args).run=some v):(qjS E qlc callH rangeH f fn args st).run=some (v,st):=by
 unfold qmV at h;unfold qjS;cases hb:fn.body with
 | none=>rw[hb] at h;cases h
 | some c=>
  rw[hb] at h;simp only at h ⊢;obtain⟨r,h1,h2⟩:=bind_some h;rw[Tree.run_bind,qlm (callH:=callH) (callS:=qlc) (rangeH:=rangeH) (st0:={ t:=[],fs:=st.t::st.fs,h:=st.h,pend:=st.pend }) c 0 _ r h1];simp only[qy3];obtain⟨e,t'⟩:=r;unfold qu3;cases e with
  | exit i=>cases h2
  | normal=>
   simp only at h2 ⊢;cases hr:qg1 E st.h t' fn.results.toList with
   | none=>rw[hr] at h2;cases h2
   | some vs=>rw[hr] at h2;cases h2;rfl
  | ret=>
   simp only at h2 ⊢;cases hr:qg1 E st.h t' fn.results.toList with
   | none=>rw[hr] at h2;cases h2
   | some vs=>rw[hr] at h2;cases h2;rfl
theorem qcY {it:List (FuncId×FuncId×Nat)}(h:q47 it f=true)(hB:B.ro.isSome=true->2<=B.fs.length):qK P it f B:=by
 refine⟨hB,?_⟩;unfold q47 at h;split at h
 ·cases h
 ·rename_i hn;rw[hn];trivial
theorem qeU (E:Env)(P:Program):qcn E P qjU:=fun _ _ _ _ _ _ _ _ _ _ _ _ _ h=>by cases h
theorem qsu (B:Base):CallOK E P (fun _ _ _=>.fail) B:=⟨(fun f args st r X a vargs _ _ h=>by cases h),(fun args st r X a vargs _ _ h=>by cases h)⟩
theorem q6u (hm:P.follows .mixedOrders=true)(hE:E.tok P)(hS:E.specs P)(hL:E.loopsOK P)(hb:E.bodies P):qcp E P (q48 E):=by
 intro f args st v B X a vargs hs ha h;unfold q48 at h;cases hsp:E.spec.find? fun x=>x.1==f with
 | some G=>rw[hsp] at h;exact qla hS f args st v B X a vargs hs ha h
 | none=>
  rw[hsp] at h;simp only at h;cases hbd:E.body.find? fun x=>x.1==f with
  | none=>rw[hbd] at h;cases h
  | some fn=>
   rw[hbd] at h;simp only at h;cases hni:q47 E.iter f with
   | false=>rw[hni] at h;cases h
   | true=>
   rw[hni] at h;simp only at h;have hx:=hb fn (qyi hbd);have hfe:fn.1=f:=by simpa using qyv hbd
   rw[hfe] at hx
   let B':Base:={ B with fs:=a.tmps.toList::B.fs,ro:=none,pin:=fun _=>X.kept }
   have hF:SimF E B' X st:=⟨hs.hs.base rfl rfl rfl,hs.h,.cons hs.t hs.fs,hs.glob,hs.ni,hs.y,fun p hp=>hp⟩;have h1:=qmq (callH:=fun _ _ _=>.fail) (rangeH:=qjU) h;obtain⟨g1,g2⟩:=qe5 hm hE hS hL hx.1 (fun B _=>qsu B) (callS:=qlc) (fun _ _ _ _ _ _ _ _ _ _ h=>by cases h) (qlF E) (qeU E P) (B:=B') rfl (qcY hni (fun h=>by cases h)) hF ha h1;refine⟨yS hx.1 hx.2 g1 _,g2.mono fun e w' ⟨u,X',e1,e2,e3,e4⟩=>⟨u,X',e1,e2,e3,?_⟩⟩;have hpin:∀p,p∈X.kept->p∈X'.kept:=e4.pin;have hfs:RepLL X' (st.t::st.fs) (a.tmps.toList::B.fs):=e4.fs;obtain⟨Ds,d1,d2,d3⟩:=hs.df;refine⟨e4.hs.base rfl rfl rfl,e4.h,?_,?_,e4.glob,⟨Ds,d1,d2,fun D hD=>⟨hpin _ (d3 D hD).1,(d3 D hD).2⟩⟩,hs.ni,e4.y,fun p hp=>hpin p (hs.pin p hp)⟩
   ·cases hfs with|cons k1 k2=>exact k1
   ·cases hfs with|cons k1 k2=>exact k2
theorem qb4 (hm:P.follows .mixedOrders=true)(hE:E.tok P)(hS:E.specs P)(hL:E.loopsOK P)(hbs:E.bodies P)(hf:P.funcs[f]?=some fn){callH:q4j} (hcH:∀B,qK P E.iter f B->CallOK E P callH B) {rangeH:q85} (hrg:qcn E P rangeH){args:List AV} {st:St} {r:AV×St} {B:Base} {X:Ctx} {vargs:List Value} (hro:B.ro=none) (hbo:qK P E.iter f B) (hs:SimF E B X st) (ha:RepL X args vargs) (h:(qp1 E callH rangeH f fn args st).run=some r) :fn.body.isNone=false/\Calls P f vargs.toArray X.w fun e w'=>∃v X',e=.returned v/\X'.w=w'/\Rep X' r.1 v/\SimF E B X' r.2:=qe5 hm hE hS hL hf hcH (q6u hm hE hS hL hbs) (q3E E) hrg hro hbo hs ha h
theorem q87 (hm:P.follows .mixedOrders=true)(hE:E.tok P)(hS:E.specs P)(hL:E.loopsOK P)(hb:E.bodies P){callH:q4j}(hcH:∀B,CallOK E P callH B):qcn E P (qcw E callH):=by
 intro g y args st r B X vargs hs hbo hy hro ha h;unfold qcw at h;cases hbd:E.body.find? fun x=>x.1==g with
 | none=>rw[hbd] at h;cases h
 | some fn=>
  rw[hbd] at h;have hx:=hb fn (qyi hbd);have hfe:fn.1=g:=by simpa using qyv hbd
  rw[hfe] at hx;obtain⟨g1,g2⟩:=qb4 hm hE hS hL hb hx.1 (callH:=qtD y callH) (fun B' hB'=>⟨(hcH B').fn,hy B' hB'⟩) (qeU E P) hro hbo hs ha h;exact⟨yS hx.1 hx.2 g1 _,g2⟩
theorem qaX{E:Env}{P:Program}(hm:P.follows .mixedOrders=true)(hE:E.tok P)(hS:E.specs P)(hL:E.loopsOK P)(hb:E.bodies P):∀n B,CallOK E P (q4A E n) B
 | 0,_=>⟨(fun f args st r X a vargs _ _ h=>by simp only[q4A] at h;cases h),(fun args st r X a vargs _ _ h=>by simp only[q4A] at h;cases h)⟩
 | n+1,B=>⟨(fun f args st r X a vargs hs ha h=>by
  simp only[q4A] at h;cases hdl:qvO E f with
  | some e=>
   rw[hdl] at h;have hD:=qmz hS hdl;exact⟨hD.1 _,qmi hE hD hs ha h⟩
  | none=>
  rw[hdl] at h;simp only at h;cases hsp:E.spec.find? fun x=>x.1==f with
  | some G=>
   rw[hsp] at h;have hG:=hS.sp G (qyi hsp);have hfe:G.1=f:=by simpa using qyv hsp
   rw[hfe] at hG;exact⟨hG.1 _,q3I hG hs ha h⟩
  | none=>
   rw[hsp] at h;cases hbd:E.body.find? fun x=>x.1==f with
   | none=>rw[hbd] at h;cases h
   | some fn=>
    rw[hbd] at h;simp only at h;cases hni:q47 E.iter f with
    | false=>rw[hni] at h;cases h
    | true=>
    rw[hni] at h;simp only at h;obtain⟨r1,h1,h2⟩:=bind_some h;simp only[Tree.run,qxB] at h2;subst h2;have hx:=hb fn (qyi hbd);have hfe:fn.1=f:=by simpa using qyv hbd
    rw[hfe] at hx
    let B':Base:={ B with fs:=a.tmps.toList::B.fs,ro:=none,pin:=fun _=>X.kept }
    have hF:SimF E B' X st:=⟨hs.hs.base rfl rfl rfl,hs.h,.cons hs.t hs.fs,hs.glob,hs.ni,hs.y,fun p hp=>hp⟩;obtain⟨g1,g2⟩:=qb4 hm hE hS hL hb hx.1 (fun B _=>qaX hm hE hS hL hb n B) (q87 hm hE hS hL hb (qaX hm hE hS hL hb n)) (B:=B') rfl (qcY hni (fun h=>by cases h)) hF ha h1;refine⟨yS hx.1 hx.2 g1 _,g2.mono fun e w' ⟨v,X',e1,e2,e3,e4⟩=>⟨v,X',e1,e2,e3,?_⟩⟩;have hpin:∀p,p∈X.kept->p∈X'.kept:=e4.pin;have hfs:RepLL X' (r1.2.t::r1.2.fs) (a.tmps.toList::B.fs):=e4.fs;obtain⟨Ds,d1,d2,d3⟩:=hs.df;refine⟨e4.hs.base rfl rfl rfl,e4.h,?_,?_,e4.glob,⟨Ds,d1,d2,fun D hD=>⟨hpin _ (d3 D hD).1,(d3 D hD).2⟩⟩,hs.ni,e4.y,fun p hp=>hpin p (hs.pin p hp)⟩
    ·cases hfs with|cons k1 k2=>exact k1
    ·cases hfs with|cons k1 k2=>exact k2),
  (fun args st r X a vargs _ _ h=>by simp only[q4A] at h;cases h)⟩
theorem qlu (hm:P.follows .mixedOrders=true)(hE:E.tok P)(hS:E.specs P)(hL:E.loopsOK P)(hb:E.bodies P)(hf:P.funcs[f]?=some fn){n:Nat} {B:Base} {X:Ctx} {args:List AV} {vargs:List Value} {r:AV×List Blk} (hs:HSim B X) (h0:B.imps.length<=E.nimp) (hgl:q5o E.glob X) (ha:RepL X args vargs)(h:(qov E n f fn args X.h).run=some r) :Calls P f vargs.toArray X.w fun e w'=>∃v X',e=.returned v/\X'.w=w'/\Rep X' r.1 v/\X'.h=r.2/\HSim B X'/\X'.y=X.y:=by
 unfold qov at h;cases hni:q47 E.iter f with
 | false=>rw[hni] at h;cases h
 | true=>
 rw[hni] at h;simp only at h;obtain⟨r1,h1,h2⟩:=bind_some h;simp only[Tree.run,qxB] at h2;subst h2
 let B0:Base:={ B with fs:=[[]],ro:=none,y:=X.y,pin:=fun _=>[] }
 have hF:SimF E B0 X { t:=[],fs:=[],h:=X.h,pend:=none }:=⟨hs.base rfl rfl rfl,rfl,.cons .nil .nil,hgl,h0,rfl,fun p hp=>by cases hp⟩;obtain⟨_,g2⟩:=qb4 hm hE hS hL hb hf (fun B _=>qaX hm hE hS hL hb n B) (q87 hm hE hS hL hb (qaX hm hE hS hL hb n)) (B:=B0) rfl (qcY hni (fun h=>by cases h)) hF ha h1;refine g2.mono fun e w' ⟨v,X',e1,e2,e3,e4⟩=>⟨v,X',e1,e2,e3,e4.h,e4.hs.base rfl rfl rfl,e4.y⟩
end Go.Eng

namespace Go.Eng
variable {X:Ctx}
inductive PK where
 | i|b|s|r
inductive PV where
 | i (n:Int)|b (x:Bool)|s (l:qxA)|r (l:R)
def PV.kind:PV->PK|.i _=>.i|.b _=>.b|.s _=>.s|.r _=>.r
def PV.toI:PV->Int|.i n=>n|_=>0
def PV.toB:PV->Bool|.b x=>x|_=>false
def PV.toS:PV->List UInt8|.s x=>x|_=>[]
def PV.toR:PV->R|.r x=>x|_=>[]
inductive AP where
 | any|yld
 | int (k:IntKind)|bool|str|blit (b:Bool)
 | nilp|ptr (b off:Nat)|eptr (sh:List Sh) (off:Nat)|mptr (sh:List Sh) (off:Nat)|vptr (b off:Nat)
 | nils|imm (sh:List Sh)|vec (b:Nat)
 | nilf|fn (f:FuncId) (first caps:List AP)
 | agg (l:List AP)|tuple (l:List AP)
def zl:Nat->List AP->List AP
 | 0,l=>l
 | n+1,l=>.any::zl n l
def qsE:Option (List PV)->Option (List PV)->Option (List PV)
 | some a,some b=>some (a++b)
 | _,_=>none
mutual
def AP.take:AP->AV->Option (List PV)
 | .any,_=>some []
 | .yld,.yld=>some []
 | .int k,.int k' n=>if k=k' then some [.i n] else none
 | .int k,.ilit k' n=>if k=k' then some [.i n] else none
 | .bool,.bool b=>some [.b b]
 | .bool,.blit b=>some [.b b]
 | .str,.str s=>some [.s s]
 | .blit b,.blit b'=>if b=b' then some [] else none
 | .nilp,.nilp=>some []
 | .ptr b off,.ptr b' off'=>if b=b'/\off=off' then some [] else none
 | .eptr sh off,.eptr sh' l i off'=>if Sh.beqL sh sh'=true/\off=off' then some [.r l,.i i] else none
 | .mptr _ _,.nilp=>some [.b false,.r [],.i 0]
 | .mptr sh off,.eptr sh' l i off'=>if Sh.beqL sh sh'=true/\off=off' then some [.b true,.r l,.i i] else none
 | .mptr sh off,.mptr c sh' l i off'=>if Sh.beqL sh sh'=true/\off=off' then some [.b c,.r l,.i i] else none
 | .vptr b off,.vptr b' i off'=>if b=b'/\off=off' then some [.i i] else none
 | .nils,.nils=>some []
 | .imm sh,.imm sh' l=>if Sh.beqL sh sh'=true then some [.r l] else none
 | .imm _,.nils=>some [.r []]
 | .vec b,.vec b'=>if b=b' then some [] else none
 | .nilf,.nilf=>some []
 | .fn f p q,.fn g a c=>if f=g then qsE (AP.takeL p a) (AP.takeL q c) else none
 | .agg l,.agg a=>AP.takeL l a
 | .tuple l,.tuple a=>AP.takeL l a
 | _,_=>none
def AP.takeL:List AP->List AV->Option (List PV)
 | [],[]=>some []
 | p::l,a::azz=>qsE (p.take a) (AP.takeL l azz)
 | _,_=>none
end
mutual
def AP.make:AP->List PV->AV×List PV
 | .any,ps=>(.undef,ps)
 | .yld,ps=>(.yld,ps)
 | .int k,.i n::ps=>(.int k n,ps)
 | .bool,.b x::ps=>(.bool x,ps)
 | .str,.s x::ps=>(.str x,ps)
 | .blit b,ps=>(.blit b,ps)
 | .nilp,ps=>(.nilp,ps)
 | .ptr b off,ps=>(.ptr b off,ps)
 | .eptr sh off,.r l::.i i::ps=>(.eptr sh l i off,ps)
 | .mptr sh off,.b c::.r l::.i i::ps=>(.mptr c sh l i off,ps)
 | .vptr b off,.i i::ps=>(.vptr b i off,ps)
 | .nils,ps=>(.nils,ps)
 | .imm sh,.r l::ps=>(.imm sh l,ps)
 | .vec b,ps=>(.vec b,ps)
 | .nilf,ps=>(.nilf,ps)
 | .fn f p q,ps=>let x:=AP.makeL p ps;let y:=AP.makeL q x.2;(.fn f x.1 y.1,y.2)
 | .agg l,ps=>let x:=AP.makeL l ps;(.agg x.1,x.2)
 | .tuple l,ps=>let x:=AP.makeL l ps;(.tuple x.1,x.2)
 | _,ps=>(.undef,ps)
def AP.makeL:List AP->List PV->List AV×List PV
 | [],ps=>([],ps)
 | p::l,ps=>let x:=p.make ps;let y:=AP.makeL l x.2;(x.1::y.1,y.2)
end
mutual
def AP.kinds:AP->List PK
 | .int _=>[.i]|.bool=>[.b]|.str=>[.s]
 | .eptr _ _=>[.r,.i]|.mptr _ _=>[.b,.r,.i]|.vptr _ _=>[.i]|.imm _=>[.r]
 | .fn _ p q=>AP.kindsL p++AP.kindsL q
 | .agg l=>AP.kindsL l
 | .tuple l=>AP.kindsL l
 | _=>[]
def AP.kindsL:List AP->List PK
 | []=>[]
 | p::l=>p.kinds++AP.kindsL l
end
theorem kF {a b:Option (List PV)}{c:List PV}(h:qsE a b=some c):∃x y,a=some x/\b=some y/\c=x++y:=by cases a<;>cases b<;>simp[qsE] at h;exact⟨_,_,rfl,rfl,h.symm⟩
mutual
theorem AP.take_ok{X:Ctx}:∀(p:AP) (a:AV) (ps rest:List PV),p.take a=some ps->(p.make (ps++rest)).2=rest/\ps.map PV.kind=p.kinds/\∀v,Rep X a v->Rep X (p.make (ps++rest)).1 v
 | .any,a,ps,rest,h=>by simp only[AP.take,qxB] at h;subst h;exact⟨rfl,rfl,fun v _=>.undef v⟩
 | .yld,a,ps,rest,h=>by
  cases a<;>simp only[AP.take] at h<;>first|(cases h;done)|skip
  cases h;exact⟨rfl,rfl,fun v hv=>hv⟩
 | .int k,a,ps,rest,h=>by
  cases a<;>simp only[AP.take] at h<;>first|(cases h;done)|skip
  all_goals
   split at h
   ·rename_i hk;cases h;subst hk;refine⟨rfl,rfl,fun v hv=>?_⟩;cases hv;exact .int _ _
   ·cases h
 | .bool,a,ps,rest,h=>by
  cases a<;>simp only[AP.take] at h<;>first|(cases h;done)|skip
  all_goals
   cases h;refine⟨rfl,rfl,fun v hv=>?_⟩;cases hv;exact .bool _
 | .str,a,ps,rest,h=>by
  cases a<;>simp only[AP.take] at h<;>first|(cases h;done)|skip
  cases h;exact⟨rfl,rfl,fun v hv=>hv⟩
 | .blit b,a,ps,rest,h=>by
  cases a<;>simp only[AP.take] at h<;>first|(cases h;done)|skip
  split at h
  ·rename_i hb;cases h;subst hb;exact⟨rfl,rfl,fun v hv=>hv⟩
  ·cases h
 | .nilp,a,ps,rest,h=>by
  cases a<;>simp only[AP.take] at h<;>first|(cases h;done)|skip
  cases h;exact⟨rfl,rfl,fun v hv=>hv⟩
 | .ptr b off,a,ps,rest,h=>by
  cases a<;>simp only[AP.take] at h<;>first|(cases h;done)|skip
  split at h
  ·rename_i hb;cases h;obtain⟨rfl,rfl⟩:=hb;exact⟨rfl,rfl,fun v hv=>hv⟩
  ·cases h
 | .eptr sh off,a,ps,rest,h=>by
  cases a<;>simp only[AP.take] at h<;>first|(cases h;done)|skip
  split at h
  ·rename_i hb;cases h;obtain⟨hb,rfl⟩:=hb;have:=Sh.beqL_eq _ _ hb;subst this;exact⟨rfl,rfl,fun v hv=>hv⟩
  ·cases h
 | .mptr sh off,a,ps,rest,h=>by
  cases a<;>simp only[AP.take] at h<;>first|(cases h;done)|skip
  ·cases h;refine⟨rfl,rfl,fun v hv=>?_⟩;cases hv;exact .mnil _ _ _ _
  ·split at h
   ·rename_i hb;cases h;obtain⟨hb,rfl⟩:=hb;have:=Sh.beqL_eq _ _ hb;subst this;refine⟨rfl,rfl,fun v hv=>?_⟩;cases hv with
    | eptr _ _ _ _ a h1 h2 h3 h4=>exact .mptr _ _ _ _ a h1 h2 h3 h4
   ·cases h
  ·split at h
   ·rename_i hb;cases h;obtain⟨hb,rfl⟩:=hb;have:=Sh.beqL_eq _ _ hb;subst this;exact⟨rfl,rfl,fun v hv=>hv⟩
   ·cases h
 | .vptr b off,a,ps,rest,h=>by
  cases a<;>simp only[AP.take] at h<;>first|(cases h;done)|skip
  split at h
  ·rename_i hb;cases h;obtain⟨rfl,rfl⟩:=hb;exact⟨rfl,rfl,fun v hv=>hv⟩
  ·cases h
 | .nils,a,ps,rest,h=>by
  cases a<;>simp only[AP.take] at h<;>first|(cases h;done)|skip
  cases h;exact⟨rfl,rfl,fun v hv=>hv⟩
 | .imm sh,a,ps,rest,h=>by
  cases a<;>simp only[AP.take] at h<;>first|(cases h;done)|skip
  ·cases h;refine⟨rfl,rfl,fun v hv=>?_⟩;cases hv;exact .imm _ _ _ (.inl ⟨rfl,rfl⟩)
  ·split at h
   ·rename_i hb;cases h;have:=Sh.beqL_eq _ _ hb;subst this;exact⟨rfl,rfl,fun v hv=>hv⟩
   ·cases h
 | .vec b,a,ps,rest,h=>by
  cases a<;>simp only[AP.take] at h<;>first|(cases h;done)|skip
  split at h
  ·rename_i hb;cases h;subst hb;exact⟨rfl,rfl,fun v hv=>hv⟩
  ·cases h
 | .nilf,a,ps,rest,h=>by
  cases a<;>simp only[AP.take] at h<;>first|(cases h;done)|skip
  cases h;exact⟨rfl,rfl,fun v hv=>hv⟩
 | .fn f p q,a,ps,rest,h=>by
  cases a<;>simp only[AP.take] at h<;>first|(cases h;done)|skip
  rename_i g a c;split at h
  ·rename_i hf;subst hf;obtain⟨x,y,h1,h2,rfl⟩:=kF h;obtain⟨a1,a2,a3⟩:=AP.takeL_ok (X:=X) p a x (y++rest) h1;obtain⟨b1,b2,b3⟩:=AP.takeL_ok (X:=X) q c y rest h2;simp only[AP.make,qyb,a1,b1,AP.kinds,qyS,a2,b2,true_and];intro v hv;cases hv with
   | fn _ _ _ vf vc g1 g2=>exact .fn _ _ _ vf vc (a3 _ g1) (b3 _ g2)
  ·cases h
 | .agg l,a,ps,rest,h=>by
  cases a<;>simp only[AP.take] at h<;>first|(cases h;done)|skip
  obtain⟨a1,a2,a3⟩:=AP.takeL_ok (X:=X) l _ ps rest h;simp only[AP.make,a1,AP.kinds,a2,true_and];intro v hv;cases hv with
  | agg _ vs g=>exact .agg _ vs (a3 _ g)
 | .tuple l,a,ps,rest,h=>by
  cases a<;>simp only[AP.take] at h<;>first|(cases h;done)|skip
  obtain⟨a1,a2,a3⟩:=AP.takeL_ok (X:=X) l _ ps rest h;simp only[AP.make,a1,AP.kinds,a2,true_and];intro v hv;cases hv with
  | tuple _ vs g=>exact .tuple _ vs (a3 _ g)
theorem AP.takeL_ok{X:Ctx}:∀(p:List AP) (a:List AV) (ps rest:List PV),AP.takeL p a=some ps->(AP.makeL p (ps++rest)).2=rest/\ps.map PV.kind=AP.kindsL p/\∀v,RepL X a v->RepL X (AP.makeL p (ps++rest)).1 v
 | [],a,ps,rest,h=>by
  cases a<;>simp only[AP.takeL] at h<;>cases h;exact⟨rfl,rfl,fun v hv=>hv⟩
 | p::l,a,ps,rest,h=>by
  cases a with
  | nil=>simp only[AP.takeL] at h;cases h
  | cons a azz=>
   simp only[AP.takeL] at h;obtain⟨x,y,h1,h2,rfl⟩:=kF h;obtain⟨a1,a2,a3⟩:=AP.take_ok (X:=X) p a x (y++rest) h1;obtain⟨b1,b2,b3⟩:=AP.takeL_ok (X:=X) l azz y rest h2;simp only[AP.makeL,qyb,a1,b1,AP.kindsL,qyS,a2,b2,true_and];intro v hv;cases hv with
   | cons g1 g2=>exact .cons (a3 _ g1) (b3 _ g2)
end
def AP.takeLL:List (List AP)->List (List AV)->Option (List PV)
 | [],[]=>some []
 | p::l,a::azz=>qsE (AP.takeL p a) (AP.takeLL l azz)
 | _,_=>none
def AP.makeLL:List (List AP)->List PV->List (List AV)×List PV
 | [],ps=>([],ps)
 | p::l,ps=>let x:=AP.makeL p ps;let y:=AP.makeLL l x.2;(x.1::y.1,y.2)
def AP.kindsLL:List (List AP)->List PK
 | []=>[]
 | p::l=>AP.kindsL p++AP.kindsLL l
theorem AP.takeLL_ok{X:Ctx}:∀(p:List (List AP)) (a:List (List AV)) (ps rest:List PV),AP.takeLL p a=some ps->(AP.makeLL p (ps++rest)).2=rest/\ps.map PV.kind=AP.kindsLL p/\∀v,RepLL X a v->RepLL X (AP.makeLL p (ps++rest)).1 v
 | [],a,ps,rest,h=>by
  cases a<;>simp only[AP.takeLL] at h<;>cases h;exact⟨rfl,rfl,fun v hv=>hv⟩
 | p::l,a,ps,rest,h=>by
  cases a with
  | nil=>simp only[AP.takeLL] at h;cases h
  | cons a azz=>
   simp only[AP.takeLL] at h;obtain⟨x,y,h1,h2,rfl⟩:=kF h;obtain⟨a1,a2,a3⟩:=AP.takeL_ok (X:=X) p a x (y++rest) h1;obtain⟨b1,b2,b3⟩:=AP.takeLL_ok (X:=X) l azz y rest h2;simp only[AP.makeLL,qyb,a1,b1,AP.kindsLL,qyS,a2,b2,true_and];intro v hv;cases hv with
   | cons g1 g2=>exact .cons (a3 _ g1) (b3 _ g2)
inductive BP where
 | cells (l:List AP)|big (l:List AP) (k:IntKind) (n:Nat)|vec (e:TypeId) (sh:List Sh)|frz (e:TypeId) (sh:List Sh)|dead
def BP.take:BP->Blk->Option (List PV)
 | .cells l,.cells cs=>AP.takeL l cs
 | .big l k n,.big cs k' n' r=>if k=k'/\n=n' then qsE (AP.takeL l cs) (some [.r r]) else none
 | .vec e sh,.vec e' sh' l=>if e=e'/\Sh.beqL sh sh'=true then some [.r l] else none
 | .frz e sh,.frz e' sh' l=>if e=e'/\Sh.beqL sh sh'=true then some [.r l] else none
 | .dead,_=>some []
 | _,_=>none
def BP.make:BP->List PV->Blk×List PV
 | .cells l,ps=>let x:=AP.makeL l ps;(.cells x.1,x.2)
 | .big l k n,ps=>let x:=AP.makeL l ps;match x.2 with
  | .r r::qs=>(.big x.1 k n r,qs)
  | qs=>(.dead,qs)
 | .vec e sh,.r l::ps=>(.vec e sh l,ps)
 | .frz e sh,.r l::ps=>(.frz e sh l,ps)
 | _,ps=>(.dead,ps)
def BP.kinds:BP->List PK
 | .cells l=>AP.kindsL l
 | .big l _ _=>AP.kindsL l++[.r]
 | .vec _ _=>[.r]
 | .frz _ _=>[.r]
 | .dead=>[]
def BP.takeL:List BP->List Blk->Option (List PV)
 | [],[]=>some []
 | p::l,b::bs=>qsE (p.take b) (BP.takeL l bs)
 | _,_=>none
def BP.makeL:List BP->List PV->List Blk×List PV
 | [],ps=>([],ps)
 | p::l,ps=>let x:=p.make ps;let y:=BP.makeL l x.2;(x.1::y.1,y.2)
def BP.kindsL:List BP->List PK
 | []=>[]
 | p::l=>p.kinds++BP.kindsL l
def BP.isCells:BP->Bool
 | .cells _|.big _ _ _=>true
 | _=>false
theorem BP.take_ok (p:BP)(k:Blk)(ps rest:List PV)(h:p.take k=some ps):(p.make (ps++rest)).2=rest/\ps.map PV.kind=p.kinds/\Wk X k (p.make (ps++rest)).1 /\(p.isCells=true->(p.make (ps++rest)).1.solid=true):=by
 cases p with
 | cells l=>
  cases k<;>simp only[BP.take] at h<;>first|(cases h;done)|skip
  obtain⟨a1,a2,a3⟩:=AP.takeL_ok (X:=X) l _ ps rest h;simp only[BP.make,a1,BP.kinds,a2,true_and];exact⟨.inr (.inr (.inl ⟨_,_,rfl,rfl,a3⟩)),fun _=>rfl⟩
 | big l kk n=>
  cases k<;>simp only[BP.take] at h<;>first|(cases h;done)|skip
  split at h
  ·rename_i hb;obtain⟨rfl,rfl⟩:=hb;obtain⟨x,y,h1,h2,rfl⟩:=kF h;cases h2;rename_i cs r;obtain⟨a1,a2,a3⟩:=AP.takeL_ok (X:=X) l _ x ([.r r]++rest) h1;simp only[qyn,qyN] at a1 a3;simp only[BP.make,qyb,a1,qyn,qyN,BP.kinds,qyS,a2,qyp,List.map_nil,PV.kind,true_and];exact⟨.inr (.inr (.inr ⟨_,_,_,_,_,rfl,rfl,a3⟩)),fun _=>rfl⟩
  ·cases h
 | vec e sh=>
  cases k<;>simp only[BP.take] at h<;>first|(cases h;done)|skip
  split at h
  ·rename_i hb;cases h;obtain⟨rfl,hb⟩:=hb;have:=Sh.beqL_eq _ _ hb;subst this;exact⟨rfl,rfl,.inr (.inl rfl),fun h=>by cases h⟩
  ·cases h
 | frz e sh=>
  cases k<;>simp only[BP.take] at h<;>first|(cases h;done)|skip
  split at h
  ·rename_i hb;cases h;obtain⟨rfl,hb⟩:=hb;have:=Sh.beqL_eq _ _ hb;subst this;exact⟨rfl,rfl,.inr (.inl rfl),fun h=>by cases h⟩
  ·cases h
 | dead=>
  have:ps=[]:=by cases k<;>simp[BP.take] at h<;>exact h
  subst this;exact⟨rfl,rfl,.inl rfl,fun h=>by cases h⟩
theorem BP.takeL_ok{X:Ctx}:∀(p:List BP) (k:List Blk) (ps rest:List PV),BP.takeL p k=some ps->(BP.makeL p (ps++rest)).2=rest/\ps.map PV.kind=BP.kindsL p /\
  (BP.makeL p (ps++rest)).1.length=k.length/\p.length=k.length/\∀(b:Nat) (k':Blk),(BP.makeL p (ps++rest)).1[b]?=some k'->∃k0,k[b]?=some k0/\Wk X k0 k'/\∀q:BP,p[b]?=some q->q.isCells=true->k'.solid=true
 | [],k,ps,rest,h=>by
  cases k<;>simp only[BP.takeL] at h<;>cases h;exact⟨rfl,rfl,rfl,rfl,fun b k' hb=>by simp[BP.makeL] at hb⟩
 | p::l,k,ps,rest,h=>by
  cases k with
  | nil=>simp only[BP.takeL] at h;cases h
  | cons k ks=>
   simp only[BP.takeL] at h;obtain⟨x,y,h1,h2,rfl⟩:=kF h;obtain⟨a1,a2,a3,a4⟩:=BP.take_ok (X:=X) p k x (y++rest) h1;obtain⟨b1,b2,b3,b4,b5⟩:=BP.takeL_ok (X:=X) l ks y rest h2;simp only[BP.makeL,qyb,a1,b1,BP.kindsL,qyS,a2,b2,qy9,b3,b4,true_and];intro b k' hb;cases b with
   | zero=>
    simp only[qyr,qxB] at hb;subst hb;exact⟨k,rfl,a3,fun q hq hc=>by simp only[qyr,qxB] at hq;subst hq;exact a4 hc⟩
   | succ b=>
    simp only[qyg] at hb ⊢;exact b5 b k' hb
def keep(n:Nat):Nat->Option Nat:=fun b=>if Nat.blt b n then some b else none
theorem qsD {n b b':Nat}(h:keep n b=some b'):b'=b/\b<n:=by
 unfold keep at h;split at h
 ·rename_i hb;cases h;exact⟨rfl,by simpa[Nat.blt_eq] using hb⟩
 ·cases h
def Ctx.cut(X:Ctx)(n:Nat):Ctx:={ X with h:=(X.h.take n).map (Blk.ren (keep n)) }
theorem Ctx.cut_get {n b:Nat}{k:Blk}(h:(X.cut n).h[b]?=some k):b<n/\∃k0,X.h[b]?=some k0/\k=k0.ren (keep n):=by
 have h':((X.h.take n).map (Blk.ren (keep n)))[b]?=some k:=h;rw[qxZ,qyj] at h';split at h'
 ·rename_i hb;refine⟨hb,?_⟩;cases hk:X.h[b]? with
  | none=>rw[hk] at h';cases h'
  | some k0=>rw[hk] at h';exact⟨k0,rfl,(qy6 h').symm⟩
 ·cases h'
theorem qp3 {B:Base}(hs:HSim B X){n:Nat}(hn:B.imps.length<=n):HSim B (X.cut n)/\Move X (X.cut n) (keep n):=by
 have hvec:∀b sh m,(X.cut n).isVec b sh m->X.isVec b sh m:=by
  intro b sh m ⟨e,l,h1,h2⟩;refine⟨e,l,?_,h2⟩;rcases h1 with h1|h1
  ·obtain⟨_,k0,h3,h4⟩:=Ctx.cut_get h1;cases k0<;>simp[Blk.ren] at h4;obtain⟨rfl,rfl,rfl⟩:=h4;exact .inl h3
  ·obtain⟨_,k0,h3,h4⟩:=Ctx.cut_get h1;cases k0<;>simp[Blk.ren] at h4;obtain⟨rfl,rfl,rfl⟩:=h4;exact .inr h3
 have hm:Move X (X.cut n) (keep n):=by refine Move.of (fun _ h=>h) (fun _ _=>rfl) (fun b b' hb hf=>?_);obtain⟨rfl,hlt⟩:=qsD hf;exact⟨by simp[Ctx.cut];omega,rfl,hvec b',fun sh m _ k hk c T fr hc=>⟨c,T,fr,hc,rfl⟩⟩
 have hown:∀b m,(X.cut n).own b m->X.own b m:=by intro b m ⟨h1,k,h2,h3⟩;obtain⟨_,k0,h4,h5⟩:=Ctx.cut_get h2;exact⟨h1,k0,h4,by rw[h5,Blk.mut_ren] at h3;exact h3⟩
 refine⟨⟨?_,fun b b' m h h'=>hs.inj b b' m (hown _ _ h) (hown _ _ h'),fun b m h=>hs.notM b m (hown _ _ h),hs.ltM,hs.M0,hs.newM,hs.os,hs.tape,hs.output,hs.size,hs.frame,hs.imps,?_,fun b m h=>hs.fresh b m (hown _ _ h),hs.kept⟩,hm⟩
 ·intro b k hk;obtain⟨_,k0,h1,h2⟩:=Ctx.cut_get hk;rw[h2];exact vD.move hm.toMove0 rfl (fun _ _=>rfl) (hs.blk b k0 h1)
 ·intro b hb;obtain⟨cs,h1,h2⟩:=hs.impc b hb;refine⟨cs.ren (keep n),?_,by rw[Blk.solid_ren];exact h2⟩;show ((X.h.take n).map (Blk.ren (keep n)))[b]?=_;rw[qxZ,qyj,if_pos (by omega),h1];rfl
end Go.Eng

namespace Go.Eng
variable {B:Base}{E:Env}{X:Ctx}{a:Act}{st:St}
def Ex.beq:Ex->Ex->Bool
 | .normal,.normal=>true
 | .ret,.ret=>true
 | .exit i,.exit j=>Nat.beq i j
 | _,_=>false
theorem Ex.beq_eq {x y:Ex}(h:x.beq y=true):x=y:=by cases x<;>cases y<;>simp[Ex.beq] at h ⊢;exact h
def peq:Option Ex->Option Ex->Bool
 | none,none=>true
 | some x,some y=>x.beq y
 | _,_=>false
theorem qwC {x y:Option Ex}(h:peq x y=true):x=y:=by cases x<;>cases y<;>simp[peq] at h ⊢;exact Ex.beq_eq h
structure Tmpl where
 t:List AP
 h:List BP
 pro:List (Nat×TypeId×List Sh):=[]
 fs:List (List AP):=[[]]
 pend:Option Ex:=none
 sw:List (Nat×Nat):=[]
 swn:Nat:=0
 prc:List (Nat×Nat×TypeId×List Sh):=[]
 fz:List Nat:=[]
def qps:List (Nat×TypeId×List Sh)->St->St
 | [],st=>st
 | (i,e,sh)::l,st=>match st.t[i]? with
  | some .nils=>qps l { st with t:=st.t.set i (.vec st.h.length),h:=st.h++[.vec e sh []] }
  | _=>qps l st
def qfv:List (Nat×Nat×TypeId×List Sh)->St->St
 | [],st=>st
 | (i,off,e,sh)::l,st=>match st.t[i]? with
  | some (.ptr b _)=>(match st.h[b]? with
   | some (.cells cs)=>(match cs[off]? with
    | some .nils=>qfv l { st with h:=(st.h++[Blk.vec e sh []]).set b (.cells (cs.set off (.vec st.h.length))) }
    | _=>qfv l st)
   | _=>qfv l st)
  | _=>qfv l st
def q7w(n:Nat)(h:List BP):Bool:=Nat.ble n h.length&&(h.take n).all BP.isCells
def swp(b c x:Nat):Nat:=if Nat.beq x b then c else if Nat.beq x c then b else x
def swB(b c:Nat):Nat->Option Nat:=fun x=>some (swp b c x)
def qn5(b c:Nat)(h:List Blk):List Blk:=(h.set b (h.getD c .dead)).set c (h.getD b .dead)
def St.swap(b c:Nat)(st:St):St:={ t:=AV.renL (swB b c) st.t,fs:=st.fs.map (AV.renL (swB b c)),h:=(qn5 b c st.h).map (Blk.ren (swB b c)),pend:=st.pend }
def qwe:AV->Option Nat
 | .ptr b _=>some b
 | .vec b=>some b
 | _=>none
def qxs(st:St)(i:Nat):Option Nat:=match Nat.blt i 1000000 with
 | true=>(st.t[i]?).bind qwe
 | false=>match st.t[i%1000000]? with
  | some (.ptr b _)=>(match st.h[b]? with
   | some (.cells cs)=>(cs[i/1000000-1]?).bind qwe
   | _=>none)
  | _=>none
def qi4(n:Nat):List (Nat×Nat)->St->St
 | [],st=>st
 | (i,b)::l,st=>match qxs st i with
  | some c=>(match Nat.ble n b&&Nat.ble n c&&Nat.blt b st.h.length&&Nat.blt c st.h.length&&!(Nat.beq b c) with
   | true=>qi4 n l (st.swap b c)
   | false=>qi4 n l st)
  | none=>qi4 n l st
def Tmpl.take1(tm:Tmpl)(st:St):Option (List PV):=match peq tm.pend st.pend with
 | true=>qsE (AP.takeL tm.t (AV.renL (keep tm.h.length) st.t)) (qsE (AP.takeLL tm.fs (st.fs.map (AV.renL (keep tm.h.length)))) (BP.takeL tm.h ((st.h.take tm.h.length).map (Blk.ren (keep tm.h.length)))))
 | false=>none
def qwA(l:List Nat)(st:St):St:={ st with h:=qx st.h l }
def Tmpl.take(tm:Tmpl)(st:St):Option (List PV):=tm.take1 (qwA tm.fz (qi4 tm.swn tm.sw (qfv tm.prc (qps tm.pro st))))
def Tmpl.ok(n:Nat)(tm:Tmpl):Bool:=q7w n tm.h&&(tm.sw.isEmpty||Nat.ble n tm.swn)
def Tmpl.make(tm:Tmpl)(ps:List PV):St:=let x:=AP.makeL tm.t ps;let y:=AP.makeLL tm.fs x.2;{ t:=x.1,fs:=y.1,h:=(BP.makeL tm.h y.2).1,pend:=tm.pend }
def Tmpl.kinds(tm:Tmpl):List PK:=AP.kindsL tm.t++(AP.kindsLL tm.fs++BP.kindsL tm.h)
theorem qhz {n:Nat}{h:List BP}(hc:q7w n h=true):n<=h.length/\∀b,b<n->∃q,h[b]?=some q/\q.isCells=true:=by
 simp only[q7w,qxL,Nat.ble_eq,qxV] at hc;refine⟨hc.1,fun b hb=>?_⟩;have hlt:b<h.length:=by omega
 refine⟨h[b],qxO hlt,hc.2 _ ?_⟩;rw[List.mem_take_iff_getElem];exact⟨b,by omega,rfl⟩
theorem qgX {X X':Ctx}(hM:∀n,X.M n->X'.M n)(hw:X'.w=X.w)(hy:X'.y=X.y)(h:∀x,x∈E.glob->(∃sh l i off,x.2=.eptr sh l i off)/\qtH X x) :∀x,x∈E.glob->(∃sh l i off,x.2=.eptr sh l i off)/\qtH X' x:=by intro x hx;obtain⟨⟨sh,l,i,off,he⟩,hr⟩:=h x hx;refine⟨⟨sh,l,i,off,he⟩,hr.move hM (fun _ _=>by rw[hw]) ?_⟩;have hr:=hr.1;rw[he] at hr ⊢;exact hr.noMen rfl hM (fun _ _=>by rw[hw]) hy
theorem qeN{E:Env}{B:Base}{a:Act}:∀(l:List (Nat×TypeId×List Sh)) {X:Ctx} {st:St},Sim E B X st a->∃X',X'.w=X.w/\Sim E B X' (qps l st) a
 | [],X,st,hs=>⟨X,rfl,hs⟩
 | (i,e,sh)::l,X,st,hs=>by
  simp only[qps];split
  ·rename_i hi;have hw:=PushW.same X;have hk:vD (X.pushW (.vec e sh []) none X.w) X.h.length (.vec e sh []):=.inl ⟨by simp[Ctx.pushW],rfl⟩;have hs1:=HSim.push hs.hs hw hk;have hx:=Ctx.push_ext hs.hs (.vec e sh []) hw;have hsim:=hs.ext hx hs1;obtain⟨v,g1,g2⟩:=hs.t.get i _ hi;have hv:v=.slice none 0 0:=by cases g2;rfl
   subst hv;have hrep:Rep (X.pushW (.vec e sh []) none X.w) (.vec st.h.length) (.slice none 0 0):=by rw[<-hs.h];refine .vec _ _ _ _ (by simp[Ctx.pushW]) fun sh' m hv=>?_;unfold qmm;simp[Ctx.pushW]
   have hset:=RepL.set hrep hsim.t i;have he:a.tmps.toList.set i (.slice none 0 0)=a.tmps.toList:=by
    apply qyc;intro j;by_cases hj:j=i
    ·subst hj;rw[qxN (qj g1),g1]
    ·rw[qxD (qxS hj)]
   rw[he] at hset;obtain⟨X2,q1,q2⟩:=qeN l (X:=X.pushW (.vec e sh []) none X.w) (st:={ st with t:=st.t.set i (.vec st.h.length),h:=st.h++[.vec e sh []] })
    ⟨hs1,by simp[Ctx.pushW,hs.h],hset,hsim.fs,hsim.glob,hsim.df,hsim.ni,hsim.y,hsim.pin⟩
   exact⟨X2,q1,q2⟩
  ·exact qeN l hs
theorem q5T{E:Env}{B:Base}{a:Act}:∀(l:List (Nat×Nat×TypeId×List Sh)) {X:Ctx} {st:St},Sim E B X st a->∃X',X'.w=X.w/\Sim E B X' (qfv l st) a
 | [],X,st,hs=>⟨X,rfl,hs⟩
 | (i,off,e,sh)::l,X,st,hs=>by
  simp only[qfv];split
  ·rename_i b o hi;split
   ·rename_i cs hb;split
    ·rename_i hc;have hw:=PushW.same X;have hk:vD (X.pushW (.vec e sh []) none X.w) X.h.length (.vec e sh []):=.inl ⟨by simp[Ctx.pushW],rfl⟩;have hs1:=HSim.push hs.hs hw hk;have hx:=Ctx.push_ext hs.hs (.vec e sh []) hw;have hsim:=hs.ext hx hs1;have hbX:X.h[b]?=some (.cells cs):=by rw[hs.h];exact hb
     have hbl:=qj hbX;obtain⟨n,c,T,g1,g2,g3⟩:=hs.hs.blk b _ hbX;have hb1:(X.pushW (.vec e sh []) none X.w).h[b]?=some (.cells cs):=by show (X.h++[Blk.vec e sh []])[b]?=_;rw[qxK hbl];exact hbX
     have g1':(X.pushW (.vec e sh []) none X.w).σ b=some n:=by show (if b=X.h.length then none else X.σ b)=_;rw[if_neg (by omega)];exact g1
     have g3':=g3.ext hx;have hrep:Rep (X.pushW (.vec e sh []) none X.w) (.vec st.h.length) (.slice none 0 0):=by rw[<-hs.h];refine .vec _ _ _ _ (by simp[Ctx.pushW]) fun sh' m hv=>?_;unfold qmm;simp[Ctx.pushW]
     obtain⟨v,k1,k2⟩:=g3'.get off _ hc;have hv:v=.slice none 0 0:=by cases k2;rfl
     subst hv;have hset:=RepL.set hrep g3' off;have he:c.toList.set off (.slice none 0 0)=c.toList:=by
      apply qyc;intro j;by_cases hj:j=off
      ·subst hj;rw[qxN (qj k1),k1]
      ·rw[qxD (qxS hj)]
     rw[he] at hset;have hup:UpdW (X.pushW (.vec e sh []) none X.w) n c c T X.w:=⟨g2,g2,rfl,fun _ _=>rfl,rfl,rfl,rfl,rfl⟩;have hown:(X.pushW (.vec e sh []) none X.w).own b n:=⟨g1',_,hb1,rfl⟩;have hx2:=Ctx.upd_ext (k':=.cells (cs.set off (.vec st.h.length))) hs1 hb1 hown hup trivial;have hs2:=hs1.upd (k':=.cells (cs.set off (.vec st.h.length))) hb1 hown hup trivial ⟨n,c,T,g1',g2,hset.ext hx2⟩;have hsim2:=hsim.ext hx2 hs2;have hh:((X.pushW (.vec e sh []) none X.w).upd b (.cells (cs.set off (.vec st.h.length))) X.w).h=(st.h++[Blk.vec e sh []]).set b (.cells (cs.set off (.vec st.h.length))):=by show (X.h++[Blk.vec e sh []]).set b _=_;rw[hs.h]
     obtain⟨X3,q1,q2⟩:=q5T l hsim2;refine⟨X3,q1,?_⟩;rw[hh] at q2;exact q2
    ·exact q5T l hs
   ·exact q5T l hs
  ·exact q5T l hs
theorem qgx (b c x:Nat):swp b c (swp b c x)=x:=by
 unfold swp;simp only[Nat.beq_eq];by_cases h1:x=b
 ·subst h1;by_cases h2:c=x
  ·simp[h2]
  ·simp[h2]
 ·by_cases h2:x=c
  ·subst h2;simp[h1]
  ·simp[h1,h2]
theorem qwh {b c x n:Nat}(hb:n<=b)(hc:n<=c):n<=swp b c x↔n<=x:=by
 unfold swp;simp only[Nat.beq_eq];split
 ·rename_i h;subst h;exact⟨fun _=>hb,fun _=>hc⟩
 ·split
  ·rename_i h;subst h;exact⟨fun _=>hc,fun _=>hb⟩
  ·exact Iff.rfl
theorem qwG {b c x n:Nat}(hb:b<n)(hc:c<n):swp b c x<n↔x<n:=by
 unfold swp;simp only[Nat.beq_eq];split
 ·rename_i h;subst h;exact⟨fun _=>hb,fun _=>hc⟩
 ·split
  ·rename_i h;subst h;exact⟨fun _=>hc,fun _=>hb⟩
  ·exact Iff.rfl
theorem quE {b c x n:Nat}(hb:n<=b)(hc:n<=c)(hx:x<n):swp b c x=x:=by unfold swp;simp only[Nat.beq_eq];rw[if_neg (by omega),if_neg (by omega)]
theorem qrD {b c:Nat}{h:List Blk}(hb:b<h.length)(hc:c<h.length)(hbc:b≠c)(i:Nat):(qn5 b c h)[i]?=h[swp b c i]?:=by
 have e1:h.getD c .dead=h[c]:=by simp[hc]
 have e2:h.getD b .dead=h[b]:=by simp[hb]
 unfold qn5 swp;simp only[Nat.beq_eq];rw[e1,e2];by_cases h1:i=b
 ·subst h1;rw[if_pos rfl,qxD (qxS hbc),qxN hb,qxO hc]
 ·by_cases h2:i=c
  ·subst h2;rw[if_neg h1,if_pos rfl,qxN (by simpa using hc),qxO hb]
  ·rw[if_neg h1,if_neg h2,qxD (qxS h2),qxD (qxS h1)]
def Ctx.swap(X:Ctx)(b c:Nat):Ctx:={ X with σ:=fun x=>X.σ (swp b c x),h:=(qn5 b c X.h).map (Blk.ren (swB b c)) }
theorem qrn (hs:HSim B X){b c:Nat}(hb:B.imps.length<=b)(hc:B.imps.length<=c)(hbl:b<X.h.length)(hcl:c<X.h.length)(hbc:b≠c) :HSim B (X.swap b c)/\Move X (X.swap b c) (swB b c):=by
 have hget:∀i,(X.swap b c).h[i]?=(X.h[swp b c i]?).map (Blk.ren (swB b c)):=fun i=>by show ((qn5 b c X.h).map _)[i]?=_;rw[qxZ,qrD hbl hcl hbc]
 have hget':∀i k,(X.swap b c).h[i]?=some k->∃k0,X.h[swp b c i]?=some k0/\k=k0.ren (swB b c):=by
  intro i k h;rw[hget] at h;cases hk:X.h[swp b c i]? with
  | none=>rw[hk] at h;cases h
  | some k0=>rw[hk] at h;exact⟨k0,rfl,(qy6 h).symm⟩
 have hσ:∀i,(X.swap b c).σ i=X.σ (swp b c i):=fun _=>rfl;have hm:Move X (X.swap b c) (swB b c):=by
  refine Move.of (fun _ h=>h) (fun _ _=>rfl) (fun b1 b2 hb1 hf=>?_);have hf':b2=swp b c b1:=(qy6 hf).symm;subst hf';refine⟨?_,by rw[hσ,qgx],fun sh m ⟨e,l,h1,h2⟩=>⟨e,l,?_,h2⟩,fun sh m _ n hn c T fr hc=>⟨c,T,fr,hc,rfl⟩⟩
  ·show _<((qn5 b c X.h).map _).length;simp only[qn5,qz9,qyO];exact(qwG hbl hcl).2 hb1
  ·rcases h1 with h1|h1
   ·obtain⟨k0,h3,h4⟩:=hget' _ _ h1;rw[qgx] at h3;rcases qeC (.inl h4) with rfl|rfl
    ·exact .inl h3
    ·exact .inr h3
   ·obtain⟨k0,h3,h4⟩:=hget' _ _ h1;rw[qgx] at h3;rcases qeC (.inr h4) with rfl|rfl
    ·exact .inl h3
    ·exact .inr h3
 have hown:∀i n,(X.swap b c).own i n->X.own (swp b c i) n:=by intro i n ⟨h1,k,h2,h3⟩;obtain⟨k0,h4,h5⟩:=hget' i k h2;exact⟨h1,k0,h4,by rw[h5,Blk.mut_ren] at h3;exact h3⟩
 refine⟨⟨?_,?_,fun i n h=>hs.notM _ n (hown _ _ h),hs.ltM,hs.M0,hs.newM,hs.os,hs.tape,hs.output,hs.size,hs.frame,?_,?_,?_,hs.kept⟩,hm⟩
 ·intro i k hk;obtain⟨k0,h1,h2⟩:=hget' i k hk;rw[h2];exact vD.move hm.toMove0 (hσ i) (fun _ _=>rfl) (hs.blk _ k0 h1)
 ·intro i j n h1 h2;have:=hs.inj _ _ n (hown _ _ h1) (hown _ _ h2);rw[<-qgx b c i,this,qgx]
 ·intro i hi;rw[hσ,quE hb hc hi];exact hs.imps i hi
 ·intro i hi;obtain⟨k,h1,h2⟩:=hs.impc i hi;exact⟨k.ren (swB b c),by rw[hget,quE hb hc hi,h1];rfl,by rw[Blk.solid_ren];exact h2⟩
 ·intro i n h1 h2;exact hs.fresh _ n (hown _ _ h1) ((qwh hb hc).2 h2)
theorem q8x{E:Env}{B:Base}{a:Act}{n:Nat}(hn:B.imps.length<=n):∀(l:List (Nat×Nat)) {X:Ctx} {st:St},Sim E B X st a->∃X',X'.w=X.w/\Sim E B X' (qi4 n l st) a
 | [],X,st,hs=>⟨X,rfl,hs⟩
 | (i,b)::l,X,st,hs=>by
  simp only[qi4];split
  ·rename_i c hc;split
   ·rename_i hcond;simp only[qxL,Nat.ble_eq,Nat.blt_eq,qyw] at hcond;obtain⟨⟨⟨⟨c1,c2⟩,c3⟩,c4⟩,c5⟩:=hcond;have hne:b≠c:=fun e=>by subst e;simp at c5
    obtain⟨g1,g2⟩:=qrn hs.hs (b:=b) (c:=c) (by omega) (by omega) (by rw[hs.h];exact c3) (by rw[hs.h];exact c4) hne;obtain⟨X2,q1,q2⟩:=q8x hn l (X:=X.swap b c) (st:=st.swap b c) ⟨g1,by simp[Ctx.swap,St.swap,hs.h],hs.t.ren g2.toMove0,hs.fs.ren g2.toMove0,qgX (X:=X) (fun _ h=>h) rfl rfl hs.glob,hs.df,hs.ni,hs.y,hs.pin⟩;exact⟨X2,q1,q2⟩
   ·exact q8x hn l hs
  ·exact q8x hn l hs
theorem Tmpl.weaken1 {tm:Tmpl}{ps:List PV}(hk:q7w E.nimp tm.h=true)(h:tm.take1 st=some ps)(hs:Sim E B X st a) :ps.map PV.kind=tm.kinds/\∃X',X'.w=X.w/\Sim E B X' (tm.make ps) a:=by
 unfold Tmpl.take1 at h;split at h
 ·rename_i hpe;have hpe':=qwC hpe;obtain⟨x,yz,h1,h0,rfl⟩:=kF h;obtain⟨y,z,h2,h3,rfl⟩:=kF h0;obtain⟨hc1,hc2⟩:=qhz hk;obtain⟨c1,c2⟩:=qp3 hs.hs (n:=tm.h.length) (qxJ hs.ni hc1);obtain⟨a1,a2,a3⟩:=AP.takeL_ok (X:=X.cut tm.h.length) _ _ x (y++z) h1;obtain⟨d1,d2,d3⟩:=AP.takeLL_ok (X:=X.cut tm.h.length) _ _ y z h2;obtain⟨b1,b2,b3,b4,b5⟩:=BP.takeL_ok (X:=X.cut tm.h.length) _ _ z [] h3;have hch:(X.cut tm.h.length).h=(st.h.take tm.h.length).map (Blk.ren (keep tm.h.length)):=by rw[<-hs.h];rfl
  rw[<-hch] at b3 b5;rw[qyD] at b3 b5;obtain⟨e1,e2⟩:=q63 c1 (h':=(BP.makeL tm.h z).1) b3 (fun b k' hb=>by obtain⟨k0,e1,e2,_⟩:=b5 b k' hb;exact⟨k0,e1,e2⟩)
   (fun b hb k' hk'=>by obtain⟨q,q1,q2⟩:=hc2 b (by have:=hs.ni;omega);obtain⟨k0,_,_,e3⟩:=b5 b k' hk';exact e3 q q1 q2)
  refine⟨by simp[Tmpl.kinds,a2,d2,b2],{ X.cut tm.h.length with h:=(BP.makeL tm.h z).1 },rfl,⟨e1,?_,?_,?_,?_,?_,hs.ni,hs.y,?_⟩⟩
  ·simp only[Tmpl.make,a1,d1]
  ·simp only[Tmpl.make];exact(a3 _ (hs.t.ren c2.toMove0)).ext e2
  ·simp only[Tmpl.make,a1];exact(d3 _ (hs.fs.ren c2.toMove0)).ext e2
  ·exact qgX (X:=X) (fun _ h=>h) rfl rfl hs.glob
  ·show qnM X.kept (B.pin tm.pend) a.defers;rw[hpe'];exact hs.df
  ·show ∀p,p∈B.pin tm.pend->p∈X.kept;rw[hpe'];exact hs.pin
 ·cases h
theorem qpL (l:List Nat)(hs:Sim E B X st a):∃X',X'.w=X.w/\Sim E B X' (qwA l st) a:=by obtain⟨X1,f⟩:=q1P l hs.hs;refine⟨X1,f.w,?_⟩;have:=hs.ext f.ext f.hs;rw[f.h,hs.h] at this;exact this
theorem Tmpl.weaken {tm:Tmpl}{ps:List PV}(hk:tm.ok E.nimp=true)(h:tm.take st=some ps)(hs:Sim E B X st a) :ps.map PV.kind=tm.kinds/\∃X',X'.w=X.w/\Sim E B X' (tm.make ps) a:=by
 unfold Tmpl.ok at hk;simp only[qxL,qyE,List.isEmpty_iff,Nat.ble_eq] at hk;obtain⟨X0,h0,h2'⟩:=qeN tm.pro hs;obtain⟨X1,h1',h2⟩:=q5T tm.prc h2';have h1:=h1'.trans h0;have:∃X',X'.w=X1.w/\Sim E B X' (qi4 tm.swn tm.sw (qfv tm.prc (qps tm.pro st))) a:=by
  rcases hk.2 with h0|h0
  ·rw[h0];exact⟨X1,rfl,h2⟩
  ·exact q8x (qxJ hs.ni h0) tm.sw h2
 obtain⟨X1',h1',h2'⟩:=this;obtain⟨X1'',h1'',h2''⟩:=qpL tm.fz h2';obtain⟨g1,X2,g2,g3⟩:=Tmpl.weaken1 hk.1 h h2'';exact⟨g1,X2,((g2.trans h1'').trans h1').trans h1,g3⟩
structure Out where
 x:Ex
 tm:Tmpl
abbrev TR:=Tree (Nat×List PV)
def qvQ:List Out->Nat->Ex×St->TR
 | [],_,_=>.fail
 | o::l,j,r=>match Ex.beq o.x r.1,o.tm.take r.2 with
  | true,some ps=>.leaf (j,ps)
  | _,_=>qvQ l (j+1) r
def okR(R:TR):Bool:=R.run.isSome
def jR(R:TR):Nat:=match R.run with|some r=>r.1|none=>0
def pR(R:TR)(i:Nat):PV:=match R.run with|some r=>r.2.getD i (.i 0)|none=>.i 0
def gI(R:TR)(i:Nat):Int:=(pR R i).toI
def gB(R:TR)(i:Nat):Bool:=(pR R i).toB
def gS(R:TR)(i:Nat):List UInt8:=(pR R i).toS
def gR(R:TR)(i:Nat):Go.Eng.R:=(pR R i).toR
def jIs(R:TR)(j:Nat):Bool:=Nat.beq (jR R) j
def qgg(R:TR):List PK->Nat->List PV
 | [],_=>[]
 | .i::l,n=>.i (gI R n)::qgg R l (n+1)
 | .b::l,n=>.b (gB R n)::qgg R l (n+1)
 | .s::l,n=>.s (gS R n)::qgg R l (n+1)
 | .r::l,n=>.r (gR R n)::qgg R l (n+1)
theorem qeb{R:TR}{j:Nat}{ps:List PV}(hR:R.run=some (j,ps)):∀(ks:List PK) (n:Nat),(ps.drop n).map PV.kind=ks->qgg R ks n=ps.drop n
 | [],n,h=>by simp at h;simp[qgg];exact h
 | k::ks,n,h=>by
  cases hd:ps.drop n with
  | nil=>rw[hd] at h;cases h
  | cons v rest=>
   rw[hd] at h;simp only[qyp,qyF] at h;have hn:ps[n]?=some v:=by
    have:(ps.drop n)[0]?=some v:=by rw[hd];rfl
    rwa [qyl,qyd] at this
   have hr:ps.drop (n+1)=rest:=by rw[<-List.drop_drop,hd];rfl
   have ih:=qeb hR ks (n+1) (by rw[hr];exact h.2);have hp:pR R n=v:=by simp[pR,hR,hn]
   rw[hr] at ih;cases v<;>simp only[PV.kind] at h<;>obtain⟨rfl,_⟩:=h<;>simp only[qgg,ih,gI,gB,gS,gR,hp,PV.toI,PV.toB,PV.toS,PV.toR]
def qwl(R:TR):List Out->Nat->Tree (Ex×St)
 | [],_=>.fail
 | o::l,j=>match l with
  | []=>.leaf (o.x,o.tm.make (qgg R o.tm.kinds 0))
  | _::_=>.br (jIs R j) (.leaf (o.x,o.tm.make (qgg R o.tm.kinds 0))) (qwl R l (j+1))
theorem qoD{R:TR}{j:Nat}{ps:List PV}(hR:R.run=some (j,ps)):∀(outs:List Out) (k:Nat) (o:Out) (r:Ex×St),k<=j->outs[j-k]?=some o->ps.map PV.kind=o.tm.kinds ->
  (qwl R outs k).run=some r->r=(o.x,o.tm.make ps)
 | [],k,o,r,_,h,_,_=>by simp at h
 | o'::l,k,o,r,hk,h,hp,hr=>by
  have hj:jR R=j:=by simp[jR,hR]
  simp only[qwl] at hr;cases l with
  | nil=>
   have:j-k=0:=by
    rcases qyx (j-k) with h0|h0
    ·exact h0
    ·rw[qxR (by simp;omega)] at h;cases h
   rw[this] at h;simp only[qyr,qxB] at h;subst h;simp only[Tree.run,qxB] at hr;rw[<-hr,qeb hR _ 0 (by simpa using hp)];rfl
  | cons o2 l=>
   simp only[Tree.run] at hr;by_cases hjk:j=k
   ·have hb:jIs R k=true:=by simp[jIs,hj,hjk]
    rw[hb] at hr;simp only[qxB] at hr;subst hjk;simp only[Nat.sub_self,qyr,qxB] at h;subst h;rw[<-hr,qeb hR _ 0 (by simpa using hp)];rfl
   ·have hb:jIs R k=false:=by
     simp only[jIs,hj];cases hq:Nat.beq j k with
     | false=>rfl
     | true=>exact absurd (qyf hq) hjk
    rw[hb] at hr;simp only at hr;refine qoD hR (o2::l) (k+1) o r (by omega) ?_ hp hr;rw[show j-k=(j-(k+1))+1 by omega,qyg] at h;exact h
theorem qp8:∀(outs:List Out) (k:Nat) (r:Ex×St) (j:Nat) (ps:List PV),(qvQ outs k r).run=some (j,ps)->k<=j/\∃o,outs[j-k]?=some o/\o.x=r.1/\o.tm.take r.2=some ps
 | [],k,r,j,ps,h=>by simp only[qvQ] at h;cases h
 | o::l,k,r,j,ps,h=>by
  simp only[qvQ] at h;split at h
  ·rename_i ps' hb ht;simp only[Tree.run,qxB,qxX] at h;obtain⟨rfl,rfl⟩:=h;exact⟨qxC _,o,by simp,Ex.beq_eq hb,ht⟩
  ·obtain⟨h1,o',h2,h3,h4⟩:=qp8 l (k+1) r j ps h;refine⟨by omega,o',?_,h3,h4⟩;rw[show j-k=(j-(k+1))+1 by omega,qyg];exact h2
def qp(tin:Tmpl)(outs:List Out)(T:List PV->TR):St->Tree (Ex×St):=fun st=>match tin.take st with
 | none=>.fail
 | some ps=>.br (okR (T ps)) (qwl (T ps) outs 0) .fail
theorem qpp {tin:Tmpl}{outs:List Out}{T:List PV->TR}{r:Ex×St}(h:(qp tin outs T st).run=some r) :∃ps j qs,tin.take st=some ps/\(T ps).run=some (j,qs)/\(qwl (T ps) outs 0).run=some r:=by
 unfold qp at h;cases ht:tin.take st with
 | none=>rw[ht] at h;cases h
 | some ps=>
  rw[ht] at h;simp only[Tree.run] at h;cases hr:(T ps).run with
  | none=>simp[okR,hr] at h
  | some q=>
   obtain⟨j,qs⟩:=q;simp only[okR,hr,Option.isSome_some] at h;exact⟨ps,j,qs,rfl,hr,h⟩
theorem qoa.env {E E':Env}(he:E.glob=E'.glob)(hn:E.nimp=E'.nimp){r:Ex×St}{e:Exit}{w:World}(h:qoa E B r e a w):qoa E' B r e a w:=by obtain⟨h1,X',h2,h3⟩:=h;exact⟨h1,X',h2,h3.env he hn⟩
theorem quK {ni:Nat}{outs:List Out}(h:(outs.all fun o=>o.tm.ok ni)=true){j:Nat}{o:Out}(ho:outs[j]?=some o):o.tm.ok ni=true:=qxV.1 h o (qyC ho)
theorem qjP {p:Nat->Prop}(h:∃n,p n):∃n,p n/\∀m,p m->n<=m:=by
 obtain⟨n,hn⟩:=h;induction n using Nat.strongRecOn with
 | _ n ih=>
  by_cases hlt:∃m,m<n/\p m
  ·obtain⟨m,h1,h2⟩:=hlt;exact ih m h1 h2
  ·exact⟨n,hn,fun m hm=>Nat.le_of_not_lt fun h=>hlt ⟨m,h,hm⟩⟩
open Classical in
noncomputable def qkh(p:Nat->Prop):Nat:=if h:∃n,p n then Classical.choose (qjP h) else 0
theorem qfK {p:Nat->Prop}(h:∃n,p n):p (qkh p)/\∀m,p m->qkh p<=m:=by unfold qkh;rw[dif_pos h];exact Classical.choose_spec (qjP h)
def qtA(tin:Tmpl)(outs:List Out)(r:Ex×St):TR:=match r.1 with
 | .normal=>match tin.take r.2 with
  | some ps=>.leaf (0,ps)
  | none=>.fail
 | _=>qvQ outs 1 r
def qdC(S:List PV->TR):Nat->List PV->TR
 | 0,_=>.fail
 | n+1,ps=>(S ps).bind fun r=>match r.1 with
  | 0=>qdC S n r.2
  | j+1=>.leaf (j,r.2)
theorem qry {P:Program}{c:Code}{BO:Base->Prop}{ev:St->Tree (Ex×St)}(hev:∀(n0:Nat) B X st a r,BO B->Sim E B X st a->(ev st).run=some r->c.wpIn (q1C B.ro) n0 P (qoa E B r) a X.w){tin:Tmpl} {outs:List Out} {S T:List PV->TR} (hk:tin.ok E.nimp=true) (hko:(outs.all fun o=>o.tm.ok E.nimp)=true)(hS:∀ps r,ps.map PV.kind=tin.kinds->(S ps).run=some r->((ev (tin.make ps)).bind (qtA tin outs)).run=some r) (hT:∀ps,∃n,T ps=qdC S n ps) :qu P E.glob E.nimp BO (.loop c) (qp tin outs T):=by
 intro E' B X st a r he hn hbo hs h nf;obtain⟨ps,j,qs,h1,h2,h3⟩:=qpp h;obtain⟨hkd,X',hw,hs'⟩:=Tmpl.weaken hk h1 (hs.env he hn);obtain⟨n0,hn0⟩:=hT ps;have hend:∀(o:Out) (X3:Ctx) (a':Act),outs[j]?=some o->qs.map PV.kind=o.tm.kinds->Sim E B X3 (o.tm.make qs) a'->qoa E' B r o.x.out a' X3.w:=by intro o X3 a' q1 hkd2 hs3;have hr:=qoD h2 outs 0 o r (Nat.zero_le _) q1 hkd2 h3;subst hr;exact qoa.env he.symm hn.symm ⟨rfl,X3,rfl,hs3⟩
 rw[hn0] at h2
 let I:Nat->Act->World->Prop:=fun n a' w'=>∃X1 ps1,X1.w=w'/\ps1.map PV.kind=tin.kinds/\Sim E B X1 (tin.make ps1) a'/\(qdC S n ps1).run=some (j,qs)
 have key:∀a' w',(∃n,I n a' w')->c.wpIn (q1C B.ro) nf P (Exit.then (fun a'' w''=>∃n,I n a'' w''/\∀m,I m a' w'->n<m) (qoa E' B r)) a' w':=by
  intro a' w' hex;have hmin:=qjP hex;obtain⟨n,⟨X1,ps1,rfl,hk1,hs1,hit⟩,hleast⟩:=hmin;cases n with
  | zero=>simp only[qdC] at hit;cases hit
  | succ n=>
   simp only[qdC] at hit;obtain⟨s,g1,g2⟩:=bind_some hit;obtain⟨r1,g3,g4⟩:=bind_some (hS ps1 s hk1 g1);refine wpIn_mono (hev nf B X1 _ a' r1 hbo hs1 g3) fun e a'' w'' ⟨p1,X2,p2,p3⟩=>?_;subst p1 p2;obtain⟨x1,s1⟩:=r1;have other:∀(_:(qvQ outs 1 (x1,s1)).run=some s),qoa E' B r x1.out a'' X2.w:=by
    intro hf;obtain⟨sj,sps⟩:=s;obtain⟨f1,o,f2,f3,f4⟩:=qp8 _ _ _ _ _ hf;cases sj with
    | zero=>omega
    | succ sj=>
     simp only[Tree.run,qxB,qxX] at g2;obtain⟨rfl,rfl⟩:=g2;simp only[Nat.add_sub_cancel] at f2;obtain⟨hkd2,X3,hw3,hs3⟩:=Tmpl.weaken (quK hko f2) f4 p3;have f3':o.x=x1:=f3;rw[<-f3',<-hw3];exact hend o X3 a'' f2 hkd2 hs3
   cases x1 with
   | normal=>
    simp only[qtA] at g4;cases htk:tin.take s1 with
    | none=>rw[htk] at g4;cases g4
    | some ps2=>
     rw[htk] at g4;simp only[Tree.run,qxB] at g4;subst g4;obtain⟨hkd2,X3,hw3,hs3⟩:=Tmpl.weaken hk htk p3;refine⟨n,⟨X3,ps2,hw3,hkd2,hs3,g2⟩,fun m hm=>?_⟩;have:=hleast m hm;omega
   | exit i=>exact other g4
   | ret=>exact other g4
 rw[<-hw];have hI0:∃n,I n a X'.w:=⟨n0,X',ps,rfl,hkd,hs',h2⟩;refine wpIn_loop (fun a' w'=>∃n,I n a' w') (fun a' w'=>qkh fun n=>I n a' w') hI0 fun a' w' hex=>?_;refine wpIn_mono (key a' w' hex) fun e a'' w'' hq=>?_;cases e with
 | normal=>
  obtain⟨n,hn1,hn2⟩:=hq;exact⟨⟨n,hn1⟩,Nat.lt_of_le_of_lt ((qfK ⟨n,hn1⟩).2 n hn1) (hn2 _ (qfK hex).1)⟩
 | exit i=>exact hq
 | goto i=>exact hq
 | ret=>exact hq
 | panic ch=>exact hq
 | outgrown=>exact hq
end Go.Eng

namespace Go.Eng
variable {B:Base}{P:Program}{X:Ctx}{f:FuncId}{gl:List (Nat×AV)}{v:Value}
structure FOut where
 res:AP
 h:List BP
 pro:Option (Nat×TypeId×List Sh):=none
def qvE:Nat->AV->Bool
 | i,.tuple vs=>match vs[i]? with|some .nils=>true|_=>false
 | 0,.nils=>true
 | _,_=>false
def qxo(i:Nat)(v:AV):AV->AV
 | .tuple vs=>.tuple (vs.set i v)
 | .nils=>v
 | x=>x
def qwZ(p:Option (Nat×TypeId×List Sh))(r:AV×List Blk):AV×List Blk:=match p with
 | none=>r
 | some (i,e,sh)=>match qvE i r.1 with
  | true=>(qxo i (.vec r.2.length) r.1,r.2++[.vec e sh []])
  | false=>r
def qo3(h:List Blk):Blk->Blk
 | .cells cs=>.cells (AV.lendL h cs)
 | k=>k
def q8e(fz:Bool)(r:AV×List Blk):AV×List Blk:=match fz with
 | false=>r
 | true=>let h1:=qx r.2 (List.range r.2.length);(r.1.lend h1,h1.map (qo3 h1))
def FOut.take1(o:FOut)(r:AV×List Blk):Option (List PV):=qsE (o.res.take (r.1.ren (keep o.h.length))) (BP.takeL o.h ((r.2.take o.h.length).map (Blk.ren (keep o.h.length))))
def FOut.take(o:FOut)(r:AV×List Blk):Option (List PV):=o.take1 (qwZ o.pro r)
def FOut.make(o:FOut)(ps:List PV):AV×List Blk:=let x:=o.res.make ps;(x.1,(BP.makeL o.h x.2).1)
def FOut.kinds(o:FOut):List PK:=o.res.kinds++BP.kindsL o.h
def qvL:List FOut->Nat->AV×List Blk->TR
 | [],_,_=>.fail
 | o::l,j,r=>match o.take r with
  | some ps=>.leaf (j,ps)
  | none=>qvL l (j+1) r
def qvM(R:TR):List FOut->Nat->Tree (AV×List Blk)
 | [],_=>.fail
 | o::l,j=>match l with
  | []=>.leaf (o.make (qgg R o.kinds 0))
  | _::_=>.br (jIs R j) (.leaf (o.make (qgg R o.kinds 0))) (qvM R l (j+1))
structure FIn where
 args:List AP
 h:List BP
def FIn.take(i:FIn)(args:List AV)(h:List Blk):Option (List PV):=qsE (AP.takeL i.args args) (BP.takeL i.h h)
def FIn.make(i:FIn)(ps:List PV):List AV×List Blk:=let x:=AP.makeL i.args ps;(x.1,(BP.makeL i.h x.2).1)
def FIn.kinds(i:FIn):List PK:=AP.kindsL i.args++BP.kindsL i.h
def q9(i:FIn)(outs:List FOut)(T:List PV->TR):wk:=fun args h=>match i.take args h with
 | none=>.fail
 | some ps=>.br (okR (T ps)) (qvM (T ps) outs 0) .fail
theorem qgp{R:TR}{j:Nat}{ps:List PV}(hR:R.run=some (j,ps)):∀(outs:List FOut) (k:Nat) (o:FOut) (r:AV×List Blk),k<=j->outs[j-k]?=some o->ps.map PV.kind=o.kinds ->
  (qvM R outs k).run=some r->r=o.make ps
 | [],k,o,r,_,h,_,_=>by simp at h
 | o'::l,k,o,r,hk,h,hp,hr=>by
  have hj:jR R=j:=by simp[jR,hR]
  simp only[qvM] at hr;cases l with
  | nil=>
   have:j-k=0:=by
    rcases qyx (j-k) with h0|h0
    ·exact h0
    ·rw[qxR (by simp;omega)] at h;cases h
   rw[this] at h;simp only[qyr,qxB] at h;subst h;simp only[Tree.run,qxB] at hr;rw[<-hr,qeb hR _ 0 (by simpa using hp)];rfl
  | cons o2 l=>
   simp only[Tree.run] at hr;by_cases hjk:j=k
   ·have hb:jIs R k=true:=by simp[jIs,hj,hjk]
    rw[hb] at hr;simp only[qxB] at hr;subst hjk;simp only[Nat.sub_self,qyr,qxB] at h;subst h;rw[<-hr,qeb hR _ 0 (by simpa using hp)];rfl
   ·have hb:jIs R k=false:=by
     simp only[jIs,hj];cases hq:Nat.beq j k with
     | false=>rfl
     | true=>exact absurd (qyf hq) hjk
    rw[hb] at hr;simp only at hr;refine qgp hR (o2::l) (k+1) o r (by omega) ?_ hp hr;rw[show j-k=(j-(k+1))+1 by omega,qyg] at h;exact h
theorem qoC:∀(outs:List FOut) (k:Nat) (r:AV×List Blk) (j:Nat) (ps:List PV),(qvL outs k r).run=some (j,ps)->k<=j/\∃o,outs[j-k]?=some o/\o.take r=some ps
 | [],k,r,j,ps,h=>by simp only[qvL] at h;cases h
 | o::l,k,r,j,ps,h=>by
  simp only[qvL] at h;split at h
  ·rename_i ps' ht;simp only[Tree.run,qxB,qxX] at h;obtain⟨rfl,rfl⟩:=h;exact⟨qxC _,o,by simp,ht⟩
  ·obtain⟨h1,o',h2,h4⟩:=qoC l (k+1) r j ps h;refine⟨by omega,o',?_,h4⟩;rw[show j-k=(j-(k+1))+1 by omega,qyg];exact h2
theorem qij {i:FIn}{outs:List FOut}{T:List PV->TR}{args:List AV}{h:List Blk}{r:AV×List Blk}(hr:(q9 i outs T args h).run=some r) :∃ps j qs,i.take args h=some ps/\(T ps).run=some (j,qs)/\(qvM (T ps) outs 0).run=some r:=by
 unfold q9 at hr;cases ht:i.take args h with
 | none=>rw[ht] at hr;cases hr
 | some ps=>
  rw[ht] at hr;simp only[Tree.run] at hr;cases hq:(T ps).run with
  | none=>simp[okR,hq] at hr
  | some q=>
   obtain⟨j,qs⟩:=q;simp only[okR,hq,Option.isSome_some] at hr;exact⟨ps,j,qs,rfl,hq,hr⟩
theorem qiU (hs:HSim B X)(fz:Bool){r:AV×List Blk}(hr:Rep X r.1 v)(hh:X.h=r.2) :∃X',X'.w=X.w/\X'.h=(q8e fz r).2/\HSim B X'/\Rep X' (q8e fz r).1 v/\X'.y=X.y:=by
 cases fz with
 | false=>exact⟨X,rfl,hh,hs,hr,rfl⟩
 | true=>
  obtain⟨X1,f⟩:=q1P (List.range r.2.length) hs;have hf:X1.h=qx r.2 (List.range r.2.length):=by rw[f.h,hh]
  obtain⟨d1,d2⟩:=q63 f.hs (h':=X1.h.map (qo3 X1.h)) (by simp) (fun b k' hb=>by
   rw[qxZ] at hb;cases hk:X1.h[b]? with
   | none=>rw[hk] at hb;cases hb
   | some k0=>
    rw[hk] at hb;simp only[qy0,qxB] at hb;refine⟨k0,rfl,?_⟩;cases k0 with
    | cells cs=>exact .inr (.inr (.inl ⟨cs,_,rfl,hb.symm,fun vs hv=>q80 f.hs hv⟩))
    | _=>exact .inr (.inl hb.symm)) (fun b hb k' hk'=>by
   obtain⟨cs,hc,hc2⟩:=f.hs.impc b hb;rw[qxZ,hc] at hk';simp only[qy0,qxB] at hk';subst hk';cases cs<;>first|(cases hc2;done)|rfl)
  refine⟨{ X1 with h:=X1.h.map (qo3 X1.h) },f.w,?_,d1,?_,f.ext.y⟩
  ·simp only[q8e,hf]
  ·have:=(qp6 f.hs (hr.ext f.ext)).ext d2;simp only[q8e];rw[<-hf];exact this
theorem qqC (hs:HSim B X)(p:Option (Nat×TypeId×List Sh)){r:AV×List Blk}(hr:Rep X r.1 v)(hh:X.h=r.2) :∃X',X'.w=X.w/\X'.h=(qwZ p r).2/\HSim B X'/\Rep X' (qwZ p r).1 v/\X'.y=X.y:=by
 cases p with
 | none=>exact⟨X,rfl,hh,hs,hr,rfl⟩
 | some p=>
  obtain⟨i,e,sh⟩:=p;obtain⟨a,h⟩:=r;simp only at hr hh;subst hh;simp only[qwZ];cases hn:qvE i a with
  | false=>exact⟨X,rfl,rfl,hs,hr,rfl⟩
  | true=>
   simp only;have hw:=PushW.same X;have hk:vD (X.pushW (.vec e sh []) none X.w) X.h.length (.vec e sh []):=.inl ⟨by simp[Ctx.pushW],rfl⟩;have hs1:=HSim.push hs hw hk;have hx:=Ctx.push_ext hs (.vec e sh []) hw;have hrep:Rep (X.pushW (.vec e sh []) none X.w) (.vec X.h.length) (.slice none 0 0):=by refine .vec _ _ _ _ (by simp[Ctx.pushW]) fun sh' m hv=>?_;unfold qmm;simp[Ctx.pushW]
   refine⟨X.pushW (.vec e sh []) none X.w,rfl,by simp[Ctx.pushW],hs1,?_,rfl⟩;cases a with
   | nils=>
    cases hr;exact hrep
   | tuple vs=>
    cases hr with
    | tuple _ us hu=>
     simp only[qvE] at hn;cases hg:vs[i]? with
     | none=>rw[hg] at hn;cases hn
     | some x=>
      rw[hg] at hn;cases x<;>first|(cases hn;done)|skip
      obtain⟨u,g1,g2⟩:=hu.get i _ hg;have hue:u=.slice none 0 0:=by cases g2;rfl
      subst hue;have hset:=RepL.set hrep (hu.ext hx) i;have he:us.set i (.slice none 0 0)=us:=by
       apply qyc;intro j;by_cases hj:j=i
       ·subst hj;rw[qxN (qj g1),g1]
       ·rw[qxD (qxS hj)]
      rw[he] at hset;exact .tuple _ _ hset
   | _=>cases i<;>cases hn
theorem FOut.weaken1 {o:FOut}{r:AV×List Blk}{ps:List PV}(hk:q7w B.imps.length o.h=true)(h:o.take1 r=some ps)(hs:HSim B X)(hr:Rep X r.1 v)(hh:X.h=r.2) :ps.map PV.kind=o.kinds/\∃X',X'.w=X.w/\X'.h=(o.make ps).2/\HSim B X'/\Rep X' (o.make ps).1 v/\X'.y=X.y:=by
 unfold FOut.take1 at h;obtain⟨x,y,h1,h2,rfl⟩:=kF h;obtain⟨hc1,hc2⟩:=qhz hk;obtain⟨c1,c2⟩:=qp3 hs (n:=o.h.length) hc1;obtain⟨a1,a2,a3⟩:=AP.take_ok (X:=X.cut o.h.length) _ _ x y h1;obtain⟨b1,b2,b3,b4,b5⟩:=BP.takeL_ok (X:=X.cut o.h.length) _ _ y [] h2;have hch:(X.cut o.h.length).h=(r.2.take o.h.length).map (Blk.ren (keep o.h.length)):=by rw[<-hh];rfl
 rw[<-hch] at b3 b5;rw[qyD] at b3 b5;obtain⟨d1,d2⟩:=q63 c1 (h':=(BP.makeL o.h y).1) b3 (fun b k' hb=>by obtain⟨k0,e1,e2,_⟩:=b5 b k' hb;exact⟨k0,e1,e2⟩)
  (fun b hb k' hk'=>by obtain⟨q,q1,q2⟩:=hc2 b hb;obtain⟨k0,_,_,e3⟩:=b5 b k' hk';exact e3 q q1 q2)
 refine⟨by simp[FOut.kinds,a2,b2],{ X.cut o.h.length with h:=(BP.makeL o.h y).1 },rfl,?_,d1,?_,rfl⟩
 ·simp only[FOut.make,a1]
 ·simp only[FOut.make];exact(a3 _ (hr.ren c2.toMove0)).ext d2
theorem FOut.weaken {o:FOut}{r:AV×List Blk}{ps:List PV}(hk:q7w B.imps.length o.h=true)(h:o.take r=some ps)(hs:HSim B X)(hr:Rep X r.1 v)(hh:X.h=r.2) :ps.map PV.kind=o.kinds/\∃X',X'.w=X.w/\X'.h=(o.make ps).2/\HSim B X'/\Rep X' (o.make ps).1 v/\X'.y=X.y:=by obtain⟨X1,h1,h2,h3,h4,h5⟩:=qqC hs o.pro hr hh;obtain⟨g1,X2,g2,g3,g4,g5,g6⟩:=FOut.weaken1 hk h h3 h4 h2;exact⟨g1,X2,g2.trans h1,g3,g4,g5,g6.trans h5⟩
theorem qsA {E:Env}(hm:P.follows .mixedOrders=true)(hE:E.tok P)(hS:E.specs P)(hL:E.loopsOK P)(hb:E.bodies P){fn:Func}(hf:P.funcs[f]?=some fn)(hn:(fn.name == "runtime.NumGoroutine")=false) (hbd:fn.body.isNone=false) {n:Nat} {fz:Bool} {i:FIn} {outs:List FOut} {T:List PV->TR}(hi:i.h.length=E.nimp/\i.h.all BP.isCells=true) (ho:(outs.all fun o=>q7w E.nimp o.h)=true)(hT:∀ps r,ps.map PV.kind=i.kinds->(T ps).run=some r->((qov E n f fn (i.make ps).1 (i.make ps).2).bind fun q=>qvL outs 0 (q8e fz q)).run=some r) :qV P E.glob f (q9 i outs T):=by
 refine⟨yS hf hn hbd,fun B X args vargs r hs hen hgl ha h=>?_⟩;obtain⟨ps,j,qs,h1,h2,h3⟩:=qij h;unfold FIn.take at h1;obtain⟨x,y,g1,g2,rfl⟩:=kF h1;obtain⟨a1,a2,a3⟩:=AP.takeL_ok (X:=X) _ _ x y g1;obtain⟨b1,b2,b3,b4,b5⟩:=BP.takeL_ok (X:=X) _ _ y [] g2;rw[qyD] at b3 b5;have himp:B.imps.length=X.h.length:=by rw[hen.imps];simp
 obtain⟨d1,d2⟩:=q63 hs (h':=(BP.makeL i.h y).1) b3 (fun b k' hb=>by obtain⟨k0,e1,e2,_⟩:=b5 b k' hb;exact⟨k0,e1,e2⟩)
  (fun b hb k' hk'=>by
   obtain⟨k0,_,_,e3⟩:=b5 b k' hk';have hlt:b<i.h.length:=by omega
   exact e3 i.h[b] (qxO hlt) (qxV.1 hi.2 _ (qyu hlt)))
 have hkd:(x++y).map PV.kind=i.kinds:=by simp[FIn.kinds,a2,b2]
 have hgl1:q5o E.glob ({ X with h:=(BP.makeL i.h y).1 }:Ctx):=qgX (X:=X) (fun _ h=>h) rfl rfl hgl;obtain⟨q,k1,k2⟩:=bind_some (hT _ _ hkd h2);have hmk:i.make (x++y)=((AP.makeL i.args (x++y)).1,(BP.makeL i.h y).1):=by simp only[FIn.make,a1]
 rw[hmk] at k1;have hcalls:=qlu hm hE hS hL hb hf (n:=n) d1 (by omega) hgl1 ((a3 _ ha).ext d2) k1;refine hcalls.mono fun e w' ⟨v,X',e1,e2,e3,e4,e5,e6⟩=>?_;obtain⟨X2,p1,p2,p3,p4,p5⟩:=qiU e5 fz e3 e4;obtain⟨_,o,q1,q2⟩:=qoC _ _ _ _ _ k2;have hco:q7w B.imps.length o.h=true:=by rw[himp,<-b4,hi.1];exact qxV.1 ho o (qyC q1)
 obtain⟨m1,X3,m2,m3,m4,m5,m6⟩:=FOut.weaken hco q2 p3 p4 p2;have hre:=qgp h2 outs 0 o r (Nat.zero_le _) q1 m1 h3;subst hre;exact⟨v,X3,e1,by rw[m2,p1,e2],m5,m3,m4,(m6.trans p5).trans e6⟩
def qxf(l:List (FIn×wk)):wk:=fun args h=>match l.find? fun c=>(c.1.take args h).isSome with
 | some c=>c.2 args h
 | none=>.fail
theorem qtN {l:List (FIn×wk)}(he:qc7 P f)(hl:∀c,c∈l->qV P gl f c.2):qV P gl f (qxf l):=by
 refine⟨he,fun B X args vargs r hs hen hg ha h=>?_⟩;unfold qxf at h;cases hc:l.find? fun c=>(c.1.take args X.h).isSome with
 | none=>rw[hc] at h;cases h
 | some c=>
  rw[hc] at h;exact(hl c (qyi hc)).2 B X args vargs r hs hen hg ha h
theorem quO:∀c,c∈([]:List (FIn×wk))->qV P gl f c.2:=fun _ h=>by cases h
theorem qoX {i:FIn}{G:wk}{l:List (FIn×wk)}(h:qV P gl f G)(t:∀c,c∈l->qV P gl f c.2):∀c,c∈(i,G)::l->qV P gl f c.2:=fun c hc=>by
 rcases qxP.1 hc with rfl|hc
 ·exact h
 ·exact t c hc
end Go.Eng

