/- Texts of the proof, merged: what the code computes, and plain laws. No statement stands here. -/
import Derived.Orders
import Derived.RangeFuncRecord
import Derived.Test.YtcngjnijbegcmaaGreatDoorE1
namespace Go.Eng
variable {B:Base}{X:Ctx}
structure Entry (B:Base) (X:Ctx):Prop where
 w0:B.w0=X.w
 imps:B.imps=(List.range X.h.length).map X.σ
 M0:∀n,X.M n->B.M0 n
def qcs(P:Program)(f:FuncId):Prop:=∀(args:Array Value) (w:World),(callFunc f args).run P w=.ok (.enter f args) w
def qQ(P:Program)(gl:List (Nat×AV))(f:FuncId)(G:zw):Prop:=
 qcs P f/\∀(B:Base) (X:Ctx) (args:List AV) (vargs:List Value) (r:AV×List Blk),HSim B X->Entry B X->q5G gl X->RepL X args vargs->(G args X.h).run=some r ->
  Calls P f vargs.toArray X.w fun e w'=>∃v X',e=.returned v/\X'.w=w'/\Rep X' r.1 v/\X'.h=r.2/\HSim B X'/\X'.y=X.y
mutual
theorem qz6{B:Base}{X:Ctx}(hs:HSim B X):∀{av:AV} {v:Value},Rep X av v->Rep X (av.lend X.h) v
 | .vec b,v,h=>by
  unfold AV.lend;split
  ·rename_i e sh l hb;exact .imm _ _ _ (qiJ hs hb h)
  ·exact .undef v
 | .agg cs,_,.agg _ vs h=>.agg _ vs (qew hs h)
 | .tuple cs,_,.tuple _ vs h=>.tuple _ vs (qew hs h)
 | .undef,_,h|.skip,_,h|.yld,_,h|.blit _,_,h|.bool _,_,h|.ilit _ _,_,h|.int _ _,_,h|.str _,_,h|.nilp,_,h|.ptr _ _,_,h|.eptr _ _ _ _,_,h|.mptr _ _ _ _ _,_,h|.vptr _ _ _,_,h|.vsub _ _,_,h|.aptr _ _ _,_,h|.asub _ _ _ _ _,_,h|.bagg _ _ _ _,_,h
 | .nils,_,h|.imm _ _,_,h|.full _ _,_,h|.nilf,_,h|.fn _ _ _,_,h=>h
theorem qew{B:Base}{X:Ctx}(hs:HSim B X):∀{azz:List AV} {vs:List Value},RepL X azz vs->RepL X (AV.lendL X.h azz) vs
 | _,_,.nil=>.nil
 | _,_,.cons h t=>.cons (qz6 hs h) (qew hs t)
end
def Wk(X:Ctx)(k k':Blk):Prop:=k'=.dead\/k'=k\/(∃cs cs',k=.cells cs/\k'=.cells cs'/\∀vs,RepL X cs vs->RepL X cs' vs)\/∃cs cs' kk n l,k=.big cs kk n l/\k'=.big cs' kk n l/\∀vs,RepL X cs vs->RepL X cs' vs
theorem qbU (hs:HSim B X){h':List Blk}(hl:h'.length=X.h.length)(hw:∀(b:Nat) (k':Blk),h'[b]?=some k'->∃k0,X.h[b]?=some k0/\Wk X k0 k')(hc:∀b:Nat,b<B.imps.length->∀k':Blk,h'[b]?=some k'->k'.solid=true):HSim B { X with h:=h' }/\Ext X { X with h:=h' }:=by
 have hvec:∀b sh m,({ X with h:=h' }:Ctx).isVec b sh m->X.isVec b sh m:=by
  intro b sh m ⟨e,l,h1,h2⟩;refine⟨e,l,?_,h2⟩;rcases h1 with h1|h1
  ·obtain⟨k0,h3,h4⟩:=hw b _ h1;rcases h4 with h4|h4|⟨_,_,_,h4,_⟩|⟨_,_,_,_,_,_,h4,_⟩
   ·cases h4
   ·exact .inl (h4▸h3)
   ·cases h4
   ·cases h4
  ·obtain⟨k0,h3,h4⟩:=hw b _ h1;rcases h4 with h4|h4|⟨_,_,_,h4,_⟩|⟨_,_,_,_,_,_,h4,_⟩
   ·cases h4
   ·exact .inr (h4▸h3)
   ·cases h4
   ·cases h4
 have hx:Ext X { X with h:=h' }:=by refine Move.of (fun _ h=>h) (fun _ _=>rfl) (fun b b' hb hf=>?_);cases hf;exact⟨by show b<h'.length;omega,rfl,hvec b,fun sh m _ k hk c T fr hc=>⟨c,T,fr,hc,rfl⟩⟩
 have hown:∀b m,({ X with h:=h' }:Ctx).own b m->X.own b m:=by
  intro b m ⟨h1,k,h2,h3⟩;obtain⟨k0,h4,h5⟩:=hw b k h2;refine⟨h1,k0,h4,?_⟩;rcases h5 with h5|h5|⟨_,_,h5,_,_⟩|⟨_,_,_,_,_,h5,_,_⟩
  ·subst h5;cases h3
  ·exact h5▸h3
  ·subst h5;rfl
  ·subst h5;rfl
 refine⟨⟨?_,fun b b' m h h'=>hs.inj b b' m (hown _ _ h) (hown _ _ h'),fun b m h=>hs.notM b m (hown _ _ h),hs.ltM,hs.M0,hs.newM,hs.os,hs.tape,hs.output,hs.size,hs.frame,hs.imps,?_,fun b m h=>hs.fresh b m (hown _ _ h),hs.kept⟩,hx⟩
 ·intro b k hk;obtain⟨k0,h1,h2⟩:=hw b k hk;have h3:=hs.blk b k0 h1;rcases h2 with h2|h2|⟨cs,cs',h2,h4,h5⟩|⟨cs,cs',kk,N,l,h2,h4,h5⟩
  ·subst h2;trivial
  ·subst h2;exact jJ.ext hx rfl (fun _ _=>rfl) h3
  ·subst h2 h4;obtain⟨m,c,T,e1,e2,e3⟩:=h3;exact⟨m,c,T,e1,e2,(h5 _ e3).ext hx⟩
  ·subst h2 h4;obtain⟨m,c,T,vs,e1,e2,e3,e4,e5⟩:=h3;exact⟨m,c,T,vs,e1,e2,(h5 _ e3).ext hx,e4,e5⟩
 ·intro b hb;have hlt:b<h'.length:=by have:=hs.hlen;omega
  exact⟨_,qLz hlt,hc b hb _ (qLz hlt)⟩
theorem Frozen.trans {X Y Z:Ctx}{h h':List Blk}(f:Frozen B X Y h)(g:Frozen B Y Z h'):Frozen B X Z h':=⟨g.h,g.w.trans f.w,g.σ.trans f.σ,g.hs,Move.trans f.ext g.ext⟩
theorem qkP{B:Base}:∀(l:List Nat) {X:Ctx} (_:HSim B X),∃X',Frozen B X X' (qcn X.h l)
 | [],X,hs=>⟨X,rfl,rfl,rfl,hs,Ext.refl X⟩
 | b::l,X,hs=>by
  simp only[qcn];split
  ·rename_i cs hb;obtain⟨d1,d2⟩:=qbU hs (h':=X.h.set b (.cells (AV.lendL X.h cs))) (by simp) (fun b' k' hk=>by
    by_cases hbb:b'=b
    ·subst hbb;rw[qLL (qv hb)] at hk;exact⟨.cells cs,hb,.inr (.inr (.inl ⟨cs,_,rfl,(qMd hk).symm,fun vs hv=>qew hs hv⟩))⟩
    ·rw[qLt (qLX hbb)] at hk;exact⟨k',hk,.inr (.inl rfl)⟩) (fun b' hb' k' hk=>by
    by_cases hbb:b'=b
    ·subst hbb;rw[qLL (qv hb)] at hk;rw[<-qMd hk];rfl
    ·rw[qLt (qLX hbb)] at hk;obtain⟨cs',h1,h2⟩:=hs.impc b' hb';rw[h1] at hk;rw[<-qMd hk];exact h2)
   obtain⟨X2,f⟩:=qkP l d1;have f0:Frozen B X { X with h:=X.h.set b (.cells (AV.lendL X.h cs)) } (X.h.set b (.cells (AV.lendL X.h cs))):=⟨rfl,rfl,rfl,d1,d2⟩;exact⟨X2,f0.trans f⟩
  ·exact qkP l hs
theorem qvl (args:List AV)(hs:HSim B X):∃X',Frozen B X X' (vQ X.h args):=by unfold vQ;obtain⟨X1,f1⟩:=q5Q (args.flatMap w9) hs;simp only;rw[<-f1.h];obtain⟨X2,f2⟩:=q5Q (q8d X1.h (AV.menL (AV.lendL X1.h args))) f1.hs;rw[<-f2.h];obtain⟨X3,f3⟩:=qkP (AV.menL (AV.lendL X1.h args)) f2.hs;exact⟨X3,(f1.trans f2).trans f3⟩
mutual
theorem AV.ren_of_men(f:Nat->Option Nat):∀av:AV,av.men=[]->av.ren f=av
 | .undef,_|.skip,_|.yld,_|.blit _,_|.bool _,_|.ilit _ _,_|.int _ _,_|.str _,_|.nilp,_|.eptr _ _ _ _,_|.mptr _ _ _ _ _,_|.nils,_|.imm _ _,_|.full _ _,_|.nilf,_=>rfl
 | .ptr _ _,h=>by simp[AV.men] at h
 | .vptr _ _ _,h=>by simp[AV.men] at h
 | .vsub _ _,h=>by simp[AV.men] at h
 | .aptr _ _ _,h=>by simp[AV.men] at h
 | .asub _ _ _ _ _,h=>by simp[AV.men] at h
 | .bagg cs k n l,h=>by simp only[AV.men] at h;simp only[AV.ren,AV.renL_of_men f cs h]
 | .vec _,h=>by simp[AV.men] at h
 | .fn g a b,h=>by
  simp only[AV.men,List.append_eq_nil_iff] at h;simp only[AV.ren,AV.renL_of_men f a h.1,AV.renL_of_men f b h.2]
 | .agg cs,h=>by simp only[AV.men] at h;simp only[AV.ren,AV.renL_of_men f cs h]
 | .tuple cs,h=>by simp only[AV.men] at h;simp only[AV.ren,AV.renL_of_men f cs h]
theorem AV.renL_of_men(f:Nat->Option Nat):∀l:List AV,AV.menL l=[]->AV.renL f l=l
 | [],_=>rfl
 | a::l,h=>by
  simp only[AV.menL,List.append_eq_nil_iff] at h;simp only[AV.renL,AV.ren_of_men f a h.1,AV.renL_of_men f l h.2]
end
theorem RepL.noMen {X X':Ctx}{azz:List AV}{vs:List Value}(h:RepL X azz vs)(hm:AV.menL azz=[])(hM:∀n,X.M n->X'.M n)(hw:∀a:Addr,X.M a.block->X'.w.cell? a=X.w.cell? a)(hy:X'.y=X.y:=by rfl):RepL X' azz vs:=by
 have:=h.ren (X':=X') (f:=fun _=>none) ⟨hM,hw,(fun _ _ _ h=>by cases h),hy⟩
 rwa [AV.renL_of_men _ _ hm] at this
theorem Rep.noMen {X X':Ctx}{a:AV}{v:Value}(h:Rep X a v)(hm:a.men=[])(hM:∀n,X.M n->X'.M n)(hw:∀a:Addr,X.M a.block->X'.w.cell? a=X.w.cell? a)(hy:X'.y=X.y:=by rfl):Rep X' a v:=by
 have:=h.ren (X':=X') (f:=fun _=>none) ⟨hM,hw,(fun _ _ _ h=>by cases h),hy⟩
 rwa [AV.ren_of_men _ _ hm] at this
theorem qk5:∀l:List Nat,(qkg l).Nodup
 | []=>List.nodup_nil
 | a::l=>by
  simp only[qkg];split
  ·exact qk5 l
  ·rename_i h;exact List.nodup_cons.2 ⟨by simpa using h,qk5 l⟩
theorem qB1 {l:List Nat}{b k:Nat}(h:qCf l b=some k):l[k]?=some b:=by
 simp only[qCf] at h;split at h
 ·rename_i hlt;cases h;rw[qLz hlt];have:=List.findIdx_getElem (p:=(·==b)) (w:=hlt);simpa using this
 ·cases h
theorem qlF:∀{fp:List Nat} {h:List Blk} {hin:List Blk},q6f h fp=some hin->hin.length=fp.length /\
  ∀(k:Nat) (b:Nat),fp[k]?=some b->∃cs,h[b]?=some cs/\hin[k]?=some cs/\cs.plain=true
 | [],h,hin,e=>by simp[q6f] at e;subst e;exact⟨rfl,fun k b hk=>by simp at hk⟩
 | b::l,h,hin,e=>by
  simp only[q6f] at e;split at e
  ·rename_i cs r h1 h2;split at e
   ·rename_i hm;cases e;obtain⟨g1,g2⟩:=qlF h2;refine⟨by simp[g1],fun k b' hk=>?_⟩;cases k with
    | zero=>simp at hk;subst hk;exact⟨cs,h1,by simp,hm⟩
    | succ k=>
     obtain⟨cs',q1,q2,q3⟩:=g2 k b' (by simpa using hk);exact⟨cs',q1,by simpa using q2,q3⟩
   ·cases e
  ·cases e
theorem qog:∀{fp:List Nat} {h hout h2:List Blk},q1O h fp hout=some h2->fp.Nodup->(∀b∈fp,b<h.length)->h2.length=h.length/\fp.length<=hout.length /\
  (∀b,b∉fp->h2[b]?=h[b]?)/\∀(k:Nat) (b:Nat),fp[k]?=some b->∃cs,hout[k]?=some cs/\h2[b]?=some cs/\cs.plain=true
 | [],h,hout,h2,e,_,_=>by
  simp[q1O] at e;subst e;exact⟨rfl,by simp,fun _ _=>rfl,fun k b hk=>by simp at hk⟩
 | b::l,h,hout,h2,e,hn,hl=>by
  cases hout with
  | nil=>simp[q1O] at e
  | cons cs r=>
    simp only[q1O] at e;by_cases hm:cs.plain=true
    ·rw[if_pos hm] at e;cases hp:q1O h l r with
     | none=>rw[hp] at e;cases e
     | some h'=>
      rw[hp] at e;simp only[qM6,qLq] at e;subst e;obtain⟨hn1,hn2⟩:=List.nodup_cons.1 hn;obtain⟨g1,g2,g3,g4⟩:=qog hp hn2 (fun x hx=>hl x (qLO _ hx));have hb:=hl b qLE;refine⟨by simp[g1],by simp;omega,fun x hx=>?_,fun k b' hk=>?_⟩
      ·have:x≠b:=fun e=>hx (e▸qLE);rw[qLt (qLX this)];exact g3 x fun h=>hx (qLO _ h)
      ·cases k with
       | zero=>simp at hk;subst hk;exact⟨cs,by simp,by rw[qLL (by omega)],hm⟩
       | succ k=>
        have hk':l[k]?=some b':=by simpa using hk
        obtain⟨cs',q1,q2,q3⟩:=g4 k b' hk';have:b'≠b:=fun e=>hn1 (e▸qMJ hk');exact⟨cs',by simpa using q1,by rw[qLt (qLX this)];exact q2,q3⟩
    ·rw[if_neg hm] at e;cases e
theorem qBw {b:Nat}{k:Blk}(hp:k.plain=true)(h:jJ X b k):∃n,X.σ b=some n:=by
 cases k with
 | cells cs=>obtain⟨n,_,_,e,_⟩:=h;exact⟨n,e⟩
 | big cs k N l=>obtain⟨n,_,_,_,e,_⟩:=h;exact⟨n,e⟩
 | _=>cases hp
theorem qsU {X X':Ctx}{b b':Nat}{k:Blk}(hp:k.plain=true)(h:jJ X b k)(hσ:X'.σ b'=X.σ b)(hw:∀n,X.σ b=some n->X'.w.heap[n]?=X.w.heap[n]?)(hM:∀n,X.M n->X'.M n) (hc:∀a:Addr,X.M a.block->X'.w.cell? a=X.w.cell? a) (hy:X'.y=X.y):jJ X' b' k:=by
 cases k with
 | cells cs=>
  obtain⟨n,c,T,e1,e2,e3⟩:=h;exact⟨n,c,T,by rw[hσ];exact e1,by rw[hw n e1];exact e2,e3.noMen (by simpa[Blk.plain] using hp) hM hc hy⟩
 | big cs k N l=>
  obtain⟨n,c,T,vs,e1,e2,e3,e4,e5⟩:=h;exact⟨n,c,T,vs,by rw[hσ];exact e1,by rw[hw n e1];exact e2,e3.noMen (by simpa[Blk.plain] using hp) hM hc hy,e4,e5⟩
 | _=>cases hp
theorem qkq {k:Blk}(hp:k.plain=true):k.solid=true/\k.mut=true/\(∀e sh l,k≠.vec e sh l/\k≠.frz e sh l):=by cases k<;>first|(cases hp;done)|exact⟨rfl,rfl,fun _ _ _=>⟨(nomatch ·),(nomatch ·)⟩⟩
theorem q8n {E:Env}{P:Program}{f:FuncId}{G:zw}(hG:qQ P E.glob f G){args:List AV}{st:St}{r:AV×St}{a:Act}{vargs:List Value}(hsim:Sim E B X st a) (hargs:RepL X args vargs) (h:(q1z G args st).run=some r) :Calls P f vargs.toArray X.w fun e w'=>∃v X',e=.returned v/\X'.w=w'/\Rep X' r.1 v/\Sim E B X' r.2 a:=by
 unfold q1z at h;obtain⟨X1,fz⟩:=qvl args hsim.hs;rw[<-hsim.h] at h;rw[<-fz.h] at h;simp only at h;have hs1:=fz.hs;generalize hfp:qkg (AV.menL (AV.lendL X1.h args))=fp at h;have hnd:fp.Nodup:=hfp▸qk5 _;cases htk:q6f X1.h fp with
 | none=>rw[htk] at h;cases h
 | some hin=>
  rw[htk] at h;obtain⟨r0,h1,h2⟩:=bind_some h;cases hput:q1O X1.h fp r0.2 with
  | none=>rw[hput] at h2;cases h2
  | some hh2=>
   rw[hput] at h2;cases h2;obtain⟨k1,k2⟩:=qlF htk;have hfpl:∀b∈fp,b<X1.h.length:=by intro b hb;obtain⟨k,hk⟩:=qNI hb;obtain⟨cs,q1,_⟩:=k2 k b hk;exact qv q1
   obtain⟨p1,p2,p3,p4⟩:=qog hput hnd hfpl;have hcell:∀(k b:Nat),fp[k]?=some b->∃cs n,X1.h[b]?=some cs/\hin[k]?=some cs/\cs.plain=true/\X1.σ b=some n/\X1.own b n:=by intro k b hk;obtain⟨cs,q1,q2,q3⟩:=k2 k b hk;obtain⟨n,e1⟩:=qBw q3 (hs1.blk b _ q1);exact⟨cs,n,q1,q2,q3,e1,e1,_,q1,(qkq q3).2.1⟩
   let X0:Ctx:={ σ:=fun k=>(fp[k]?).bind X1.σ,h:=hin,w:=X1.w,M:=X1.M,y:=X1.y }
   let B0:Base:={ w0:=X1.w,imps:=(List.range hin.length).map X0.σ,M0:=X1.M,fs:=[] }
   have hget0:∀(k:Nat) (blk:Blk),X0.h[k]?=some blk->∃(b:Nat) (cs:Blk) (n:Nat),fp[k]?=some b/\blk=cs/\X1.h[b]?=some cs/\cs.plain=true/\X1.σ b=some n/\X1.own b n:=by
    intro k blk hk;have hlt:k<fp.length:=by rw[<-k1];exact qv hk
    have hfk:fp[k]?=some fp[k]:=qLz hlt;obtain⟨cs,n,q1,q2,q3,q4,q5⟩:=hcell k _ hfk;have:blk=cs:=by have hk':hin[k]?=some blk:=hk;rw[q2] at hk';exact(qMd hk').symm
    exact⟨fp[k],cs,n,hfk,this,q1,q3,q4,q5⟩
   have hσ0:∀(k b:Nat),fp[k]?=some b->X0.σ k=X1.σ b:=by intro k b hk;show (fp[k]?).bind X1.σ=_;rw[hk];rfl
   have hown0:∀(k n:Nat),X0.own k n->∃b:Nat,fp[k]?=some b/\X1.own b n:=by intro k n ⟨e1,blk,e2,e3⟩;obtain⟨b,cs,n',q1,q2,q3,q4,q5,q6⟩:=hget0 k blk e2;rw[hσ0 k b q1,q5] at e1;cases e1;exact⟨b,q1,q6⟩
   have hs0:HSim B0 X0:=by
    constructor
    ·intro k blk hk;obtain⟨b,cs,n,q1,q2,q3,q4,q5,q6⟩:=hget0 k blk hk;subst q2;exact qsU q4 (hs1.blk b _ q3) (hσ0 k b q1) (fun _ _=>rfl) (fun _ h=>h) (fun _ _=>rfl) rfl
    ·intro k k' n hk hk';obtain⟨b,q1,q2⟩:=hown0 k n hk;obtain⟨b',q3,q4⟩:=hown0 k' n hk';have:=hs1.inj b b' n q2 q4;subst this;have hlt:=qv q1;exact(List.getElem?_inj hlt hnd).1 (q1.trans q3.symm)
    ·intro k n hk;obtain⟨b,_,q2⟩:=hown0 k n hk;exact hs1.notM b n q2
    ·exact hs1.ltM
    ·exact fun n hn=>hn
    ·exact fun n hn=>.inl hn
    ·rfl
    ·rfl
    ·rfl
    ·exact qLs _
    ·intro _ _ _;rfl
    ·intro k hk;have hk':k<hin.length:=by simpa[B0] using hk
     simp[B0,hk']
    ·intro k hk;have hk':k<hin.length:=by simpa[B0] using hk
     obtain⟨b,cs,n,q1,q2,q3,q4,q5,q6⟩:=hget0 k _ (qLz hk');exact⟨cs,by rw[<-q2];exact qLz hk',(qkq q4).1⟩
    ·intro k n hk hk2;obtain⟨b,q1,_⟩:=hown0 k n hk;have:k<hin.length:=by rw[k1];exact qv q1
     simp[B0] at hk2;omega
    ·intro p hp;cases hp
   have hent:Entry B0 X0:=⟨rfl,rfl,fun _ h=>h⟩;have hgl:q5G E.glob X0:=by intro x hx;obtain⟨⟨sh,l,i,off,he⟩,hr⟩:=hsim.glob x hx;refine⟨⟨sh,l,i,off,he⟩,hr.move fz.ext.M fz.ext.w ?_⟩;have h3:=hr.1.ext fz.ext;rw[he] at h3 ⊢;exact h3.noMen rfl (fun _ h=>h) (fun _ _=>rfl)
   have hmove:Move0 X1 X0 (qCf fp):=by
    refine⟨fun _ h=>h,fun _ _=>rfl,fun b k hb hk=>?_,rfl⟩;have hfk:=qB1 hk;have hnv:∀sh m,¬X0.isVec k sh m:=by intro sh m ⟨e,l,q1,_⟩;rcases q1 with q1|q1<;>obtain⟨_,_,_,_,q2,_,q4,_⟩:=hget0 k _ q1<;>subst q2<;>cases q4
    exact⟨by show k<hin.length;rw[k1];exact qv hfk,hσ0 k b hfk,fun sh m hv=>absurd hv (hnv sh m),fun sh m hv=>absurd hv (hnv sh m)⟩
   have hrep0:RepL X0 (AV.renL (qCf fp) (AV.lendL X1.h args)) vargs:=(qew hs1 (hargs.ext fz.ext)).ren hmove;have hcalls:=hG.2 B0 X0 _ vargs r0 hs0 hent hgl hrep0 h1;have hw1:X0.w=X.w:=fz.w;rw[hw1] at hcalls;refine hcalls.mono fun e w' ⟨v,X0',e1,e2,e3,e4,e5,e6⟩=>?_;have hB0:B0.imps.length=fp.length:=by simp[B0,k1]
   have hσ0':∀(k b:Nat),fp[k]?=some b->X0'.σ k=X1.σ b:=by
    intro k b hk;have hlt:=qv hk;have:=e5.imps k (by rw[hB0];exact hlt);rw[this,<-hσ0 k b hk];have hk':k<hin.length:=by omega
    simp[B0,hk']
   let X':Ctx:={ σ:=fun b=>if b<X1.h.length then X1.σ b else X0'.σ (fp.length+(b-X1.h.length)),h:=hh2++(r0.2.drop fp.length).map (Blk.ren (qot fp X1.h.length)),w:=X0'.w,M:=X0'.M,kept:=X1.kept,y:=X1.y }
   have hM01:∀n,X1.M n->X0'.M n:=fun n hn=>e5.M0 n hn;have himp:∀n,some n∈B0.imps->∃(k b:Nat),fp[k]?=some b/\X1.own b n:=by
    intro n hn;obtain⟨k,hk,hk2⟩:=qMi.1 hn;have hk':k<fp.length:=by rw[<-k1];simpa using hk
    have hfk:fp[k]?=some fp[k]:=qLz hk';obtain⟨cs,n',q1,q2,q3,q4,q5⟩:=hcell k _ hfk;rw[hσ0 k _ hfk,q4] at hk2;cases hk2;exact⟨k,_,hfk,q5⟩
   have hkeep:∀n,n<X1.w.heap.size->(∀(k b:Nat),fp[k]?=some b->¬X1.own b n)->X0'.w.heap[n]?=X1.w.heap[n]?:=by intro n hn hno;refine e5.frame n hn fun hm=>?_;obtain⟨k,b,q1,q2⟩:=himp n hm;exact hno k b q1 q2
   have hh2l:hh2.length=X1.h.length:=p1;have hget':∀(b:Nat) (blk:Blk),X'.h[b]?=some blk ->
     (b<X1.h.length/\b∉fp/\X1.h[b]?=some blk)\/(b<X1.h.length/\∃(k:Nat) (cs:Blk),fp[k]?=some b/\blk=cs/\X0'.h[k]?=some cs/\cs.plain=true) \/
     (X1.h.length<=b/\∃k0,X0'.h[fp.length+(b-X1.h.length)]?=some k0/\blk=k0.ren (qot fp X1.h.length)):=by
    intro b blk hb;have hb':(hh2++(r0.2.drop fp.length).map (Blk.ren (qot fp X1.h.length)))[b]?=some blk:=hb;rcases qLy b X1.h.length with hlt|hge
    ·rw[qLB (by omega)] at hb';by_cases hbf:b∈fp
     ·obtain⟨k,hk⟩:=qNI hbf;obtain⟨cs,q1,q2,q3⟩:=p4 k b hk;rw[q2] at hb';cases hb';exact .inr (.inl ⟨hlt,k,blk,hk,rfl,by rw[e4];exact q1,q3⟩)
     ·rw[p3 b hbf] at hb';exact .inl ⟨hlt,hbf,hb'⟩
    ·rw[qLP (by omega),qLC,qMy] at hb';refine .inr (.inr ⟨hge,?_⟩);rw[hh2l] at hb';cases hq:r0.2[fp.length+(b-X1.h.length)]? with
     | none=>rw[hq] at hb';cases hb'
     | some k0=>
      rw[hq] at hb';simp only[qM6,qLq] at hb';exact⟨k0,by rw[e4];exact hq,hb'.symm⟩
   have hσlt:∀b,b<X1.h.length->X'.σ b=X1.σ b:=fun b hb=>by show (if b<X1.h.length then _ else _)=_;rw[if_pos hb]
   have hσge:∀b,X1.h.length<=b->X'.σ b=X0'.σ (fp.length+(b-X1.h.length)):=fun b hb=>by show (if b<X1.h.length then _ else _)=_;rw[if_neg (by omega)]
   have hnotin:∀b n,b∉fp->X1.own b n->∀(k b':Nat),fp[k]?=some b'->¬X1.own b' n:=by intro b n hb ho k b' hk ho';exact hb (hs1.inj b b' n ho ho'▸qMJ hk)
   have hMnot:∀n,X1.M n->∀(k b':Nat),fp[k]?=some b'->¬X1.own b' n:=fun n hn k b' _ ho=>hs1.notM b' n ho hn;have hsz:=e5.size;have hback:Move0 X0' X' (qot fp X1.h.length):=by
    refine⟨fun _ h=>h,fun _ _=>rfl,fun k b hk hf=>?_,e6.symm⟩;simp only[qot] at hf;by_cases hlt:k<fp.length
    ·rw[if_pos hlt] at hf;have hbl:=hfpl b (qMJ hf);have hnv:∀sh m,¬X'.isVec b sh m:=by
      intro sh m ⟨e,l,q1,_⟩;rcases q1 with q1|q1<;>rcases hget' b _ q1 with⟨_,h3,_⟩|⟨_,_,_,_,h3,_,h3p⟩|⟨h3,_⟩ <;>
       first|omega|exact absurd (qMJ hf) h3|(subst h3;cases h3p)
     exact⟨by show b<List.length (_++_);simp;omega,by rw[hσlt b hbl,hσ0' k b hf],fun sh m hv=>absurd hv (hnv sh m),fun sh m hv=>absurd hv (hnv sh m)⟩
    ·rw[if_neg hlt] at hf;cases hf;have hk2:k<r0.2.length:=by rw[<-e4];exact hk
     have hidx:fp.length+(X1.h.length+(k-fp.length)-X1.h.length)=k:=by omega
     refine⟨?_,?_,fun sh m ⟨e,l,q1,q2⟩=>?_,fun sh m _ n hn c T fr hc=>⟨c,T,fr,hc,rfl⟩⟩
     ·show _<List.length (_++_);simp;omega
     ·rw[hσge _ (by omega),hidx]
     ·rcases q1 with q1|q1<;>rcases hget' _ _ q1 with⟨h3,_⟩|⟨h3,_⟩|⟨_,k0,h3,h4⟩<;>first|omega|skip
      ·rw[hidx] at h3;rcases qmZ (.inl h4) with rfl|rfl
       ·exact⟨e,l,.inl h3,q2⟩
       ·exact⟨e,l,.inr h3,q2⟩
      ·rw[hidx] at h3;rcases qmZ (.inr h4) with rfl|rfl
       ·exact⟨e,l,.inl h3,q2⟩
       ·exact⟨e,l,.inr h3,q2⟩
   have hext:Ext X1 X':=by
    refine Move.of hM01 (fun ad had=>qMu (hkeep _ (hs1.ltM _ had) (hMnot _ had))) (fun b b' hb hf=>?_);cases hf;have hvec:∀sh m,X'.isVec b sh m->b∉fp/\X1.isVec b sh m:=by
     intro sh m ⟨e,l,q1,q2⟩;rcases q1 with q1|q1<;>rcases hget' b _ q1 with⟨_,h3,h4⟩|⟨_,_,_,_,h3,_,h3p⟩|⟨h3,_⟩<;>first|omega|(subst h3;cases h3p;done)|skip
     ·exact⟨h3,e,l,.inl h4,q2⟩
     ·exact⟨h3,e,l,.inr h4,q2⟩
    refine⟨by show _<List.length (_++_);simp;omega,hσlt b hb,fun sh m hv=>(hvec sh m hv).2,fun sh m hv n hn c T fr hc=>⟨c,T,fr,?_,rfl⟩⟩;obtain⟨h3,e,l,h4,_⟩:=hvec sh m hv;refine(hkeep n (qLw.1 hc).1 ?_).trans hc;rcases h4 with h4|h4
    ·exact hnotin b n h3 ⟨hn,_,h4,rfl⟩
    ·rcases hs1.blk b _ h4 with⟨h5,_⟩|⟨n',c',h5,_,_,h6⟩
     ·rw[hn] at h5;cases h5
     ·rw[hn] at h5;cases h5;exact hMnot n h6
   have hown':∀(b n:Nat),X'.own b n->(b<X1.h.length/\X1.own b n)\/(X1.h.length<=b/\X0'.own (fp.length+(b-X1.h.length)) n):=by
    intro b n ⟨q1,blk,q2,q3⟩;rcases hget' b blk q2 with⟨h3,_,h4⟩|⟨h3,k,cs,h4,h5,_,_⟩|⟨h3,k0,h4,h5⟩
    ·exact .inl ⟨h3,by rw[<-hσlt b h3];exact q1,blk,h4,q3⟩
    ·obtain⟨cs',n',w1,_,_,w4,w5⟩:=hcell k b h4;rw[hσlt b h3,w4] at q1;cases q1;exact .inl ⟨h3,w5⟩
    ·subst h5;exact .inr ⟨h3,by rw[<-hσge b h3];exact q1,k0,h4,by rwa [Blk.mut_ren] at q3⟩
   have hnewge:∀k n,fp.length<=k->X0'.own k n->X1.w.heap.size<=n:=fun k n hk ho=>e5.fresh k n ho (by rw[hB0];exact hk);have hs':HSim B X':=by
    constructor
    ·intro b blk hb;rcases hget' b blk hb with⟨h3,h4,h5⟩|⟨h3,k,cs,h4,h5,h6,h7⟩|⟨h3,k0,h4,h5⟩
     ·by_cases hd:blk=.dead
      ·subst hd;trivial
      ·refine jJ.ext hext (hσlt b h3) (fun n hn=>hkeep n (hs1.lt h5 hd hn) ?_) (hs1.blk b blk h5);by_cases hm1:blk.mut=true
       ·exact hnotin b n h4 ⟨hn,blk,h5,hm1⟩
       ·cases blk with
        | cells=>exact absurd rfl hm1
        | big=>exact absurd rfl hm1
        | vec=>exact absurd rfl hm1
        | dead=>exact absurd rfl hd
        | frz e sh l=>
         rcases hs1.blk b _ h5 with⟨h6,_⟩|⟨n',c',h6,_,_,h7⟩
         ·rw[hn] at h6;cases h6
         ·rw[hn] at h6;cases h6;exact hMnot n h7
     ·subst h5;exact qsU h7 (e5.blk k _ h6) (by rw[hσlt b h3,<-hσ0' k b h4]) (fun _ _=>rfl) (fun _ h=>h) (fun _ _=>rfl) e6.symm
     ·subst h5;exact jJ.move hback (hσge b h3) (fun _ _=>rfl) (e5.blk _ k0 h4)
    ·intro b b' n h3 h4;rcases hown' b n h3 with⟨w1,w2⟩|⟨w1,w2⟩<;>rcases hown' b' n h4 with⟨w3,w4⟩|⟨w3,w4⟩
     ·exact hs1.inj b b' n w2 w4
     ·have:=hnewge _ n (by omega) w4;have:=Ctx.own.lt hs1 w2;omega
     ·have:=hnewge _ n (by omega) w2;have:=Ctx.own.lt hs1 w4;omega
     ·have:=e5.inj _ _ n w2 w4;omega
    ·intro b n h3 h4;rcases hown' b n h3 with⟨w1,w2⟩|⟨w1,w2⟩
     ·rcases e5.newM n h4 with h5|h5
      ·exact hs1.notM b n w2 h5
      ·have h6:X1.w.heap.size<=n:=h5;have:=Ctx.own.lt hs1 w2;omega
     ·exact e5.notM _ n w2 h4
    ·exact e5.ltM
    ·exact fun n hn=>hM01 n (hs1.M0 n hn)
    ·intro n hn;rcases e5.newM n hn with h5|h5
     ·exact hs1.newM n h5
     ·have h6:X1.w.heap.size<=n:=h5;have:=hs1.size;exact .inr (by omega)
    ·exact e5.os.trans hs1.os
    ·exact e5.tape.trans hs1.tape
    ·exact e5.output.trans hs1.output
    ·have h6:X1.w.heap.size<=X0'.w.heap.size:=hsz;have:=hs1.size;show B.w0.heap.size<=X0'.w.heap.size;omega
    ·intro n hn hni;have h6:=hs1.size;have:X0'.w.heap[n]?=X1.w.heap[n]?:=by
      refine hkeep n (by omega) fun k b hk ho=>?_;rcases qLy b B.imps.length with hlt|hge
      ·have h7:=hs1.imps b hlt;rw[ho.1,qLz hlt] at h7;simp at h7;exact hni (h7▸qMg hlt)
      ·have:=hs1.fresh b n ho hge;omega
     exact this.trans (hs1.frame n hn hni)
    ·intro b hb;have:=hs1.hlen;rw[hσlt b (by omega)];exact hs1.imps b hb
    ·intro b hb;have:=hs1.hlen;obtain⟨cs,h3,h3s⟩:=hs1.impc b hb;by_cases hbf:b∈fp
     ·obtain⟨k,hk⟩:=qNI hbf;obtain⟨cs',q1,q2,q3⟩:=p4 k b hk;exact⟨cs',by show (_++_)[b]?=_;rw[qLB (by omega)];exact q2,(qkq q3).1⟩
     ·exact⟨cs,by show (_++_)[b]?=_;rw[qLB (by omega),p3 b hbf];exact h3,h3s⟩
    ·intro b n h3 h4;rcases hown' b n h3 with⟨w1,w2⟩|⟨w1,w2⟩
     ·exact hs1.fresh b n w2 h4
     ·have:=hnewge _ n (by omega) w2;have:=hs1.size;omega
    ·intro p hp;obtain⟨q1,q2,q3⟩:=hs1.kept p hp;refine⟨(hkeep p.1 (qLw.1 q1).1 fun k b _ ho=>?_).trans q1,q2,q3⟩;obtain⟨c,T,fr,hc⟩:=ho.cells hs1;rw[hc] at q1;exact q2 _ _ _ (qMd q1).symm
   exact⟨v,X',e1,e2,e3.ren hback,(hsim.ext fz.ext hs1).ext hext hs'⟩
end Go.Eng

namespace Go.Eng
variable {E:Env}{t:TypeId}
def uS(h:List Blk):Tree Res->Prop
 | .leaf r=>r.2=(h,none)
 | .br _ t e=>uS h t/\uS h e
 | .fail=>True
theorem uS.run {h:List Blk}{t:Tree Res}{r:Res}(ht:uS h t)(hr:t.run=some r):r.2=(h,none):=by
 induction t with
 | leaf x=>cases hr;exact ht
 | br b t e iht ihe=>cases b<;>simp only[Tree.run] at hr<;>first|exact iht ht.1 hr|exact ihe ht.2 hr
 | fail=>cases hr
theorem qlc (h:List Blk)(k:IntKind)(f:Int->Int->Int)(l:Bool)(x y:Int):uS h (q7p h k f l x y):=by unfold q7p;split<;>rfl
theorem qxm (h:List Blk)(f:Int->Int->Bool)(l:Bool)(x y:Int):uS h (qAA h f l x y):=by unfold qAA;split<;>rfl
theorem qBo (E:Env)(h:List Blk)(t:TypeId)(p:AV):uS h (qgv E h t p):=by
 unfold qgv;dsimp only
 repeat' (first|exact rfl|exact trivial|split)
theorem qxD (E:Env)(h:List Blk)(t:TypeId)(ps:List (Nat×AV)):uS h (qh3 E h t ps):=by
 unfold qh3
 repeat' (first|exact rfl|exact trivial|split)
theorem qyM (E:Env)(h:List Blk)(t:TypeId)(p:AV):uS h (qdG E h t p):=by
 unfold qdG qDj
 repeat' (first|exact qBo _ _ _ _|exact rfl|exact trivial|exact⟨rfl,trivial⟩|split)
theorem qvJ (E:Env)(h:List Blk)(t:TypeId)(ps:List (Nat×AV)):uS h (qcA E h t ps):=by
 unfold qcA
 repeat' (first|exact qxD _ _ _ _|exact rfl|exact trivial|split)
theorem qr6 (E:Env)(h:List Blk)(s:TypeId)(x:AV)(f:Nat):uS h (q39 E h s x f):=by
 unfold q39
 repeat' (first|exact rfl|exact trivial|split)
theorem qni (E:Env)(h:List Blk)(t:TypeId)(cs:List AV)(o:Nat):uS h (qhO E h t cs o):=by
 unfold qhO
 repeat' (first|exact rfl|exact trivial|split)
theorem qyV (E:Env)(h:List Blk)(s:TypeId)(x:AV)(f:Nat):uS h (qi1 E h s x f):=by
 unfold qi1
 repeat' (first|exact rfl|exact trivial|exact qni _ _ _ _ _|split)
theorem ql9(h:List Blk)(i:Int)(f:Nat->AV):∀n,uS h (qht h i f n)
 | 0=>trivial
 | n+1=>⟨rfl,ql9 h i f n⟩
theorem qqm (E:Env)(h:List Blk)(t:TypeId)(x i:AV):uS h (uJ E h t x i):=by
 unfold uJ
 repeat' (first|exact ql9 _ _ _ _|exact rfl|exact trivial|exact⟨rfl,trivial⟩|split)
theorem qoO (E:Env)(h:List Blk)(t:TypeId)(x i:AV):uS h (q1i E h t x i):=by
 unfold q1i
 repeat' (first|exact qqm _ _ _ _ _|exact rfl|exact trivial|exact⟨rfl,trivial⟩|split)
theorem qte(E:Env)(h:List Blk)(e:TypeId)(cs:List AV)(es:Nat)(i:Int):∀m j,uS h (qon E h e cs es i j m)
 | 0,_=>trivial
 | m+1,j=>⟨qni _ _ _ _ _,qte E h e cs es i m (j+1)⟩
theorem qxw (E:Env)(h:List Blk)(t:TypeId)(x i:AV):uS h (qhe E h t x i):=by
 unfold qhe
 repeat' (first|exact rfl|exact trivial|exact⟨rfl,trivial⟩|exact qni _ _ _ _ _|exact qte _ _ _ _ _ _ _ _|split)
theorem qBO (d:TD)(h:List Blk)(op:BinOp)(x y:AV):uS h (qvT d h op x y):=by
 unfold qvT
 repeat' (first|exact rfl|exact trivial|exact qlc _ _ _ _ _ _|exact qxm _ _ _ _ _|exact⟨rfl,trivial⟩|exact⟨qlc _ _ _ _ _ _,trivial⟩|split)
theorem qyd (E:Env)(h:List Blk)(op:BinOp)(t:TypeId)(x y:AV):uS h (qk6 E h op t x y):=by
 unfold qk6;split
 ·unfold qqX
  repeat' (first|exact rfl|exact trivial|split)
 ·exact qBO _ _ _ _ _
theorem qGr (h:List Blk)(op:UnOp)(x:AV):uS h (qI0 h op x):=by
 unfold qI0
 repeat' (first|exact rfl|exact trivial|split)
theorem qAL (E:Env)(h:List Blk)(s d:TypeId)(x:AV):uS h (qoj E h s d x):=by
 unfold qoj
 repeat' (first|exact rfl|exact trivial|split)
theorem qy7 (E:Env)(h:List Blk)(s d:TypeId)(x:AV):uS h (qhA E h s d x):=by
 unfold qhA;split
 ·split
  ·unfold qrw
   repeat' (first|exact rfl|exact trivial|split)
  ·trivial
 ·exact qAL _ _ _ _ _
theorem qCJ (E:Env)(h:List Blk)(ts:List TypeId)(azz:List AV):uS h (qqf E h ts azz):=by
 unfold qqf;split
 ·unfold qCz
  repeat' (first|exact rfl|exact trivial|split)
 ·trivial
theorem qzq (f:Int->Int->Int)(h:List Blk)(azz:List AV):uS h (qva f h azz):=by
 unfold qva
 repeat' (first|exact rfl|exact trivial|split)
theorem qyk (ht:(E.ty t).d=.str)(h:List Blk)(x:AV)(lo hi mx:Option AV):uS h (qd7 E h t x lo hi mx):=by
 unfold qd7;rw[ht];cases mx with
 | some _=>trivial
 | none=>
  cases x<;>first|trivial|skip
  simp only;split
  ·exact⟨⟨rfl,trivial⟩,trivial⟩
  ·trivial
theorem qwD (ht:(E.ty t).d=.str)(h:List Blk)(x:AV)(lo hi mx:Option AV):uS h (uO E h t x lo hi mx):=by unfold uO;rw[ht];exact qyk ht _ _ _ _ _
theorem qwa {n:Nat}{e:TypeId}{es:Nat}(ht:(E.ty t).d=.array n e es)(h:List Blk)(x:AV)(lo hi mx:Option AV):uS h (uO E h t x lo hi mx):=by
 unfold uO;rw[ht];simp only;unfold qF4 qwH
 repeat' (first|exact rfl|exact trivial|exact⟨⟨rfl,trivial⟩,trivial⟩|exact⟨⟨⟨rfl,trivial⟩,trivial⟩,trivial⟩|split)
theorem qvu {e:TypeId}{es:Nat}(ht:(E.ty t).d=.slice e es)(h:List Blk)(x:AV)(lo hi:Option AV){mx:Option AV}(hm:mx.isSome=true):uS h (uO E h t x lo hi mx):=by
 unfold uO;rw[ht];simp only;unfold qd7;cases mx with
 | none=>cases hm
 | some m=>
  simp only;rw[ht]
  repeat' (first|exact rfl|exact trivial|exact⟨⟨⟨rfl,trivial⟩,trivial⟩,trivial⟩|split)
theorem qsT {h:List Blk}{ev:Operand->AV}{op:Op}(hs:qdd E op=true){r:Res}(hr:(qpl E h ev op).run=some r):r.2=(h,none):=by
 have key:uS h (qpl E h ev op):=by
  unfold qpl;cases op<;>simp only[qdd] at hs<;>try (cases hs)
  case move=>rfl
  case assign=>rfl
  case pick=>simp only;split<;>first|rfl|exact⟨rfl,rfl⟩|trivial
  case build=>exact qvJ _ _ _ _
  case load=>exact qyM _ _ _ _
  case nilCheck=>simp only;repeat' (first|exact rfl|exact⟨rfl,trivial⟩|exact trivial|split)
  case binOp=>exact qyd _ _ _ _ _ _
  case unOp=>exact qGr _ _ _
  case convert=>exact qy7 _ _ _ _ _
  case makeFunc fn _ _=>cases fn<;>first|rfl|trivial
  case slice t x lo hi mx=>
   split at hs
   ·rename_i ht;exact qwD ht _ _ _ _ _
   ·rename_i ht;exact qwa ht _ _ _ _ _
   ·rename_i ht;exact qvu ht _ _ _ _ (by simpa using hs)
   ·cases hs
  case fieldAddr=>exact qr6 _ _ _ _ _
  case field=>exact qyV _ _ _ _ _
  case indexAddr=>exact qoO _ _ _ _ _
  case index=>exact qxw _ _ _ _ _
  case extract=>simp only;repeat' (first|exact rfl|exact trivial|split)
  case call c=>
   obtain⟨callee,args,tys⟩:=c;cases callee with
   | builtin b=>
    cases b<;>simp only at hs<;>try (cases hs)
    ·exact qCJ _ _ _ _
    ·exact qzq _ _ _
    ·exact qzq _ _ _
   | value x=>simp only at hs;cases hs
   | invoke x n=>simp only at hs;cases hs
 exact key.run hr
end Go.Eng

namespace Go.Eng
variable {E:Env}
theorem qve {callS:q7w}{h:List Blk}{f g:Operand->AV}{op:Op}(hfg:∀x∈op.operands.toList,f x=g x):qdy E callS h f op=qdy E callS h g op:=by
 have hmap:∀(l:List Operand),(∀x∈l,x∈op.operands.toList)->l.map f=l.map g:=fun l hl=>qMV fun x hx=>hfg x (hl x hx);have hop:qdd E op=true->qpl E h f op=qpl E h g op:=by
  intro hst;unfold qpl;cases op<;>simp only[qdd] at hst<;>try (cases hst)
  case move x=>simp only;rw[hfg x (by simp[Op.operands])]
  case assign x=>simp only;rw[hfg x (by simp[Op.operands])]
  case pick c a b=>simp only;rw[hfg c (by simp[Op.operands]),hfg a (by simp[Op.operands]),hfg b (by simp[Op.operands])]
  case build t ps=>
   simp only;have:(ps.toList.map fun p=>(p.1,f p.2))=ps.toList.map fun p=>(p.1,g p.2):=qMV fun p hp=>by rw[hfg p.2 (by simp only[Op.operands];exact List.mem_map_of_mem hp)]
   rw[this]
  case load t a=>simp only;rw[hfg a (by simp[Op.operands])]
  case nilCheck a=>simp only;rw[hfg a (by simp[Op.operands])]
  case binOp o t x y ty=>simp only;rw[hfg x (by simp[Op.operands]),hfg y (by simp[Op.operands])]
  case unOp o t x=>simp only;rw[hfg x (by simp[Op.operands])]
  case convert s d x=>simp only;rw[hfg x (by simp[Op.operands])]
  case makeFunc fn a b=>cases fn<;>simp only;rw[hmap a.toList (fun x hx=>by simp only[Op.operands,qNz];exact qMq _ hx),hmap b.toList (fun x hx=>by simp only[Op.operands,qNz];exact qMf _ hx)]
  case slice t x lo hi mx=>
   simp only;have hlo:∀y,lo=some y->f y=g y:=fun y hy=>hfg y (by subst hy;simp[Op.operands]);have hhi:∀y,hi=some y->f y=g y:=fun y hy=>hfg y (by subst hy;simp[Op.operands]);have hmx:∀y,mx=some y->f y=g y:=fun y hy=>hfg y (by subst hy;simp[Op.operands]);have e1:lo.map f=lo.map g:=by
    cases lo with
    | none=>rfl
    | some y=>exact congrArg some (hlo y rfl)
   have e2:hi.map f=hi.map g:=by
    cases hi with
    | none=>rfl
    | some y=>exact congrArg some (hhi y rfl)
   have e3:mx.map f=mx.map g:=by
    cases mx with
    | none=>rfl
    | some y=>exact congrArg some (hmx y rfl)
   rw[e1,e2,e3,hfg x (by simp[Op.operands])]
  case fieldAddr s x i=>simp only;rw[hfg x (by simp[Op.operands])]
  case field s x i=>simp only;rw[hfg x (by simp[Op.operands])]
  case indexAddr t x i=>simp only;rw[hfg x (by simp[Op.operands]),hfg i (by simp[Op.operands])]
  case index t x i=>simp only;rw[hfg x (by simp[Op.operands]),hfg i (by simp[Op.operands])]
  case extract x i=>simp only;rw[hfg x (by simp[Op.operands])]
  case call c=>
   obtain⟨callee,args,tys⟩:=c;cases callee with
   | builtin b=>
    simp only;rw[hmap args.toList (fun x hx=>by simpa[Op.operands,Call.operands] using hx)]
   | value x=>simp only at hst;cases hst
   | invoke x n=>simp only at hst;cases hst
 unfold qdy;split
 ·rename_i x args tys;rw[hfg x (by simp[Op.operands,Call.operands]),hmap args.toList (fun y hy=>by simp only[Op.operands,Call.operands,qNz];exact qMf _ hy)]
 ·split
  ·rename_i hst;rw[hop hst]
  ·rfl
def qkr(E:Env)(P:Program)(callS:List Blk->q7w):Prop:=
 ∀(f:FuncId) (args:List AV) (st:St) (v:AV) (B:Base) (X:Ctx) (a:Act) (vargs:List Value),Sim E B X st a->RepL X args vargs->(callS st.h f args).run=some v ->
  (∀w,(callFunc f vargs.toArray).run P w=.ok (.enter f vargs.toArray) w) /\
  Calls P f vargs.toArray X.w fun e w'=>∃u X',e=.returned u/\X'.w=w'/\Rep X' v u/\Sim E B X' st a
def q6s(E:Env)(callS:List Blk->q7w):Prop:=∀(h h':List Blk) (f:FuncId) (args:List AV),(qh1 E f).isSome=true->(∀b,b∈AV.menL args->h'[b]?=h[b]?)->callS h' f args=callS h f args
def qnt(P:Program)(f:FuncId)(e:TypeId):Prop:=(∀args w,(callFunc f args).run P w=.ok (.enter f args) w) /\
 ∀(w:World) (n len cap i j:Nat) (c:Array Value) (T:TypeId),w.heap[n]?=some (.cells c T (0,0))->c.size=cap*P.cellsOf e->(∀k v,k<len*P.cellsOf e->c[k]?=some v->v.oneCell'=true)->0<P.cellsOf e ->
  len<=cap->cap<=9223372036854775807->i<=j->j<=len ->
  Calls P f #[.slice (some ⟨n,0,none⟩) len cap,.int .i64 i,.int .i64 j] w fun x w'=>x=.returned (.slice (some ⟨n,0,none⟩) (len-(j-i)) cap) /\
   ∃c',w'.heap[n]?=some (.cells c' T (0,0))/\c'.size=c.size/\(∀k,k<(len-(j-i))*P.cellsOf e->c'[k]?=if k<i*P.cellsOf e then c[k]? else c[k+(j-i)*P.cellsOf e]?) /\
    (∀m,m≠n->w'.heap[m]?=w.heap[m]?)/\w'.heap.size=w.heap.size/\w'.os=w.os/\w'.tape=w.tape/\w'.output=w.output
structure Env.specs (E:Env) (P:Program):Prop where
 sp:∀x,x∈E.spec->qQ P E.glob x.1 x.2
 dl:∀x,x∈E.dels->qnt P x.1 x.2
theorem qja:∀(l:List Nat) (h:List Blk),l.all (qkf h)=true->qS h l=h
 | [],_,_=>rfl
 | b::l,h,hl=>by
  simp only[qNv,qLN] at hl;have:zU h b=h:=by
   unfold zU;have:=hl.1;unfold qkf at this;split at this
   ·rename_i hb;rw[hb]
   ·cases this
  simp only[qS,this];exact qja l h hl.2
theorem qvh {P:Program}(hS:E.specs P):qkr E P (qav E):=by
 intro f args st v B X a vargs hsim hargs h;unfold qav at h;cases hf:E.spec.find? fun x=>x.1==f with
 | none=>rw[hf] at h;cases h
 | some G=>
  rw[hf] at h;have hG:=hS.sp G (qMm hf);have hfe:G.1=f:=by simpa using qMM hf
  simp only at h;split at h
  ·rename_i hc;obtain⟨r,h1,h2⟩:=bind_some h;have hr2:r.2=[]/\(r.1.men)=[]/\v=r.1:=by
    split at h2
    ·rename_i he;split at h2
     ·rename_i hm;cases h2;exact⟨he,by simpa using hm,rfl⟩
     ·cases h2
    ·cases h2
   obtain⟨q1,q2,rfl⟩:=hr2;have hfz:qS st.h (args.flatMap w9)=st.h:=qja _ _ hc.1;have hmen:AV.menL (AV.lendL st.h args)=[]:=by simpa using hc.2
   have hcs:(q1z G.2 args st).run=some (r.1,st):=by
    unfold q1z;have hpr:vQ st.h args=st.h:=by unfold vQ;simp only[hfz,hmen,q8d,qS,qcn]
    simp only[hpr,hmen,qkg,q6f];rw[AV.renL_of_men _ _ hmen,Tree.run_bind,h1];simp only[qLW,q1O,q1,qMA,List.drop_nil,List.map_nil,qMC];rw[AV.ren_of_men _ _ q2];rfl
   rw[hfe] at hG;refine⟨hG.1 _,?_⟩;exact q8n hG hsim hargs hcs
  ·cases h
theorem qv2 {P:Program}(hE:E.tok P){callS:List Blk->q7w}(hc:qkr E P callS){B:Base}{X:Ctx}{st:St}{a:Act}(hs:Sim E B X st a){o:Oper}{av:AV}(h:(qdy E (callS st.h) st.h (E.opd st.t) o.op).run=some av) {next:Act->World->Prop} {Q:Exit->Act->World->Prop}(hq:∀X' v,Sim E B X' st a->Rep X' av v->next (a.put o.dst v) X'.w):o.wp P a X.w next Q:=by
 unfold qdy at h;split at h
 ·rename_i x args tys hop;cases hx:E.opd st.t x with
  | fn f first caps=>
   rw[hx] at h;have hv:=q9g hs x;rw[hx] at hv;generalize hev:a.eval x=vx at hv;cases hv with
   | fn _ _ _ vf vc q1 q2=>
    have hargs:=q4J hs args.toList;have hall:RepL X (first++args.toList.map (E.opd st.t)++caps) (vf++args.toList.map a.eval++vc):=(q1.append hargs).append q2;obtain⟨g1,g2⟩:=hc f _ st av B X a _ hs hall h;unfold Oper.wp;have hrun:(execOp a.eval o).run P X.w=.ok (.enter f (vf++args.toList.map a.eval++vc).toArray) X.w:=by
     simp only[execOp,hop,resolve,hev,Deferred.ofValue,qLv,qM1,qLA,invoke];have:vf.toArray++args.map a.eval++vc.toArray=(vf++args.toList.map a.eval++vc).toArray:=by apply qMN;simp
     rw[this];exact g1 X.w
    rw[hrun];refine g2.mono fun e w' ⟨v,X',e1,e2,e3,e4⟩=>?_;subst e1 e2;exact hq X' _ e4 e3
  | _=>rw[hx] at h;cases h
 ·split at h
  ·rename_i hst;obtain⟨r,h1,h2⟩:=bind_some h;cases h2;have hr2:=qsT hst h1;obtain⟨nx,v,X',g1,g2,g3,g4,g5⟩:=qm2 hE hs h1;have hrn:r.2.2=none:=by rw[hr2]
   rw[hrn] at g5;have hXh:X'.h=st.h:=by rw[g5.1,hr2]
   have hs':Sim E B X' st a:=by have:=hs.ext g5.2 g4;rw[hXh] at this;exact this
   unfold Oper.wp;rw[g1];rcases g2 with rfl|⟨rfl,rfl⟩
   ·exact hq X' _ hs' g3
   ·exact hq X' _ hs' g3
  ·cases h
theorem Sim.drawn {B:Base}{X:Ctx}{st:St}{a:Act}(hs:Sim E B X st a)(n:Nat):Sim E B { X with w:={ X.w with drawn:=n } } st a:=by
 have hx:Ext X { X with w:={ X.w with drawn:=n } }:=
  Move.of (fun _ h=>h) (fun _ _=>rfl) (fun b b' hb h=>by cases h;exact⟨hb,rfl,fun _ _ h=>h,fun _ _ _ _ _ c T fr h=>⟨c,T,fr,h,rfl⟩⟩)
 have h0:=hs.hs;have hs':HSim B { X with w:={ X.w with drawn:=n } }:=
  ⟨fun b k hk=>jJ.ext hx rfl (fun _ _=>rfl) (h0.blk b k hk),h0.inj,h0.notM,h0.ltM,h0.M0,h0.newM,h0.os,h0.tape,h0.output,h0.size,h0.frame,h0.imps,h0.impc,h0.fresh,h0.kept⟩
 have:=hs.ext hx hs';have e:({ st with h:=X.h }:St)=st:=by rw[hs.h]
 exact e▸this
end Go.Eng

namespace Go.Eng
def qy8(all:Array Oper)(k:Nat)(v:AV):AV:=if qyN all k then (match v with|.bool b=>.blit b|v=>v) else v
theorem qqk{X:Ctx}{all:Array Oper}{k:Nat}{v:AV}{u:Value}(h:Rep X v u):Rep X (qy8 all k v) u:=by
 unfold qy8;split
 ·cases h with
  | bool b=>exact .blit b
  | undef=>exact .undef _
  | skip=>exact .skip
  | yld=>exact .yld
  | blit b=>exact .blit b
  | ilit k n=>exact .ilit k n
  | int k n=>exact .int k n
  | str s=>exact .str s
  | nilp=>exact .nilp
  | ptr b off n h1 h2=>exact .ptr b off n h1 h2
  | eptr sh l i off a h1 h2 h3 h4=>exact .eptr sh l i off a h1 h2 h3 h4
  | mnil sh l i off=>exact .mnil sh l i off
  | mptr sh l i off a h1 h2 h3 h4=>exact .mptr sh l i off a h1 h2 h3 h4
  | vptr b i off n k h1 h2 h3=>exact .vptr b i off n k h1 h2 h3
  | vsub b i n k m c h1 h2 h3=>exact .vsub b i n k m c h1 h2 h3
  | aptr b o i n h1 h2 h3=>exact .aptr b o i n h1 h2 h3
  | asub b o N i m n k c h1 h2 h3 h4 h5 h6=>exact .asub b o N i m n k c h1 h2 h3 h4 h5 h6
  | nils=>exact .nils
  | imm sh l _ h=>exact .imm sh l _ h
  | full sh l p n h=>exact .full sh l p n h
  | vec b p n c h1 h2=>exact .vec b p n c h1 h2
  | nilf=>exact .nilf
  | fn f a b c d h1 h2=>exact .fn f a b c d h1 h2
  | agg cs vs h=>exact .agg cs vs h
  | tuple cs vs h=>exact .tuple cs vs h
  | bagg cs k n l vs h hl=>exact .bagg cs k n l vs h hl
 ·exact h
theorem qEf{all:Array Oper}{k:Nat}{o:Oper}{st st':St}{v:AV}(h:(qrV all k o { st with t:=qjp st.t o.dst v }).run=some st') :st'={ st with t:=qjp st.t o.dst (qy8 all k v) }:=by
 unfold qrV at h;unfold qy8;by_cases hg:qyN all k=true
 ·rw[if_pos hg] at h ⊢;cases hd:o.dst with
  | none=>rw[hd] at h;cases h;rfl
  | some d=>
   rw[hd] at h;simp only[qjp] at h ⊢;rcases qLy d st.t.length with hlt|hge
   ·rw[qLL hlt] at h;cases v<;>simp only at h<;>try (cases h;rfl)
    rename_i b;cases b<;>(cases h;simp[List.set_set])
   ·rw[List.set_eq_of_length_le hge] at h;rw[qLS hge] at h;cases h;rw[List.set_eq_of_length_le hge]
 ·rw[if_neg hg] at h ⊢;cases h;rfl
def qe6(V:Nat->AV):Nat->List Oper->List AV->List AV
 | _,[],t=>t
 | k,o::rest,t=>qe6 V (k+1) rest (qjp t o.dst (V k))
theorem qqA{V W:Nat->AV}:∀(l:List Oper) (k:Nat) (t:List AV),(∀j,k<=j->V j=W j)->qe6 V k l t=qe6 W k l t
 | [],_,_,_=>rfl
 | o::l,k,t,h=>by
  simp only[qe6];rw[h k (qLs _)];exact qqA l (k+1) _ fun j hj=>h j (by omega)
section
variable (dst:Nat->Option Tmp) (V:Nat->AV) (T0:List AV)
def TLp(L:Nat->Bool):Nat->List AV
 | 0=>T0
 | m+1=>if L m then qjp (TLp L m) (dst m) (V m) else TLp L m
variable {dst V T0}
theorem qxu(t:List AV)(d:Option Tmp)(v:AV):(qjp t d v).length=t.length:=by cases d<;>simp[qjp]
theorem qdV(L:Nat->Bool):∀m,(TLp dst V T0 L m).length=T0.length
 | 0=>rfl
 | m+1=>by simp only[TLp];split<;>simp[qxu,qdV L m]
theorem qa2{L:Nat->Bool}{t:Tmp}:∀m,(∀j,j<m->L j=true->dst j≠some t)->(TLp dst V T0 L m)[t]?=T0[t]?
 | 0,_=>rfl
 | m+1,h=>by
  simp only[TLp];split
  ·rename_i hl;have:=h m (qNk m) hl;cases hd:dst m with
   | none=>exact qa2 m fun j hj=>h j (by omega)
   | some d=>
    rw[hd] at this;simp only[qjp];rw[qLt (fun e=>this (by rw[e]))];exact qa2 m fun j hj=>h j (by omega)
  ·exact qa2 m fun j hj=>h j (by omega)
theorem qiM{L:Nat->Bool}{t:Tmp}{j:Nat}(hj:L j=true)(hd:dst j=some t):∀m,j<m->(∀k,k<m->k≠j->dst k≠some t) ->
  (TLp dst V T0 L m)[t]?=if t<T0.length then some (V j) else none
 | 0,h,_=>by omega
 | m+1,h,hu=>by
  by_cases hm:j=m
  ·subst hm;simp only[TLp,hj,if_true,hd,qjp];rw[List.getElem?_set];simp[qdV]
  ·simp only[TLp];split
   ·have:=hu m (qNk m) (fun e=>hm e.symm);cases hdm:dst m with
    | none=>exact qiM hj hd m (by omega) fun k hk=>hu k (by omega)
    | some d=>
     rw[hdm] at this;simp only[qjp];rw[qLt (fun e=>this (by rw[e]))];exact qiM hj hd m (by omega) fun k hk=>hu k (by omega)
   ·exact qiM hj hd m (by omega) fun k hk=>hu k (by omega)
theorem qHK{L:Nat->Bool}{i n:Nat}(hi:i<n)(hL:L i=false)(hu:∀k,k<n->k≠i->∀t,dst i=some t->dst k≠some t) :TLp dst V T0 (fun j=>if j=i then true else L j) n=qjp (TLp dst V T0 L n) (dst i) (V i):=by
 apply qMo;intro t;cases hd:dst i with
 | none=>
  simp only[qjp];by_cases hex:∃j,j<n/\L j=true/\dst j=some t
  ·
   clear hex;have:∀m,m<=n->TLp dst V T0 (fun j=>if j=i then true else L j) m=TLp dst V T0 L m:=by
    intro m;induction m with
    | zero=>intro _;rfl
    | succ m ih=>
     intro hm;simp only[TLp];by_cases hmi:m=i
     ·subst hmi;rw[ih (by omega)];simp[hL,hd,qjp]
     ·rw[ih (by omega)];simp[hmi]
   rw[this n (qLs _)]
  ·have h1:∀j,j<n->L j=true->dst j≠some t:=fun j hj hl he=>hex ⟨j,hj,hl,he⟩;rw[qa2 n h1];refine qa2 n fun j hj hl he=>?_;by_cases hji:j=i
   ·subst hji;rw[hd] at he;cases he
   ·simp[hji] at hl;exact h1 j hj hl he
 | some d=>
  simp only[qjp];by_cases htd:t=d
  ·subst htd;rw[qiM (j:=i) (by simp) hd n hi (fun k hk hki=>hu k hk hki t hd),List.getElem?_set];simp[qdV]
  ·rw[qLt (fun e=>htd e.symm)];have:∀m,m<=n->(TLp dst V T0 (fun j=>if j=i then true else L j) m)[t]?=(TLp dst V T0 L m)[t]?:=by
    intro m;induction m with
    | zero=>intro _;rfl
    | succ m ih=>
     intro hm;simp only[TLp];by_cases hmi:m=i
     ·subst hmi;simp only[if_true,hL,qLQ,if_false,hd,qjp];rw[qLt (fun e=>htd e.symm)];exact ih (by omega)
     ·simp only[hmi,if_false];split
      ·cases hdm:dst m with
       | none=>exact ih (by omega)
       | some d'=>
        simp only[qjp,List.getElem?_set];rw[qdV,qdV,ih (by omega)]
      ·exact ih (by omega)
   exact this n (qLs _)
end
theorem qER{V:Nat->AV}{l:List Oper}{T0:List AV}:∀j,j<=l.length->TLp (fun i=>(l[i]?).bind (·.dst)) V T0 (fun _=>true) j=qe6 V 0 (l.take j) T0:=by
 have app:∀(l:List Oper) (o:Oper) (k:Nat) (t:List AV),qe6 V k (l++[o]) t=qjp (qe6 V k l t) o.dst (V (k+l.length)):=by
  intro l;induction l with
  | nil=>intro o k t;simp[qe6]
  | cons a l ih=>intro o k t;simp only[qMr,qe6,ih];congr 2;simp;omega
 intro j;induction j with
 | zero=>intro _;simp[TLp,qe6]
 | succ j ih=>
  intro hj;have hlt:j<l.length:=by omega
  have ht:l.take (j+1)=l.take j++[l[j]]:=by rw[List.take_succ_eq_append_getElem hlt]
  rw[ht,app,<-ih (by omega)];simp only[TLp,if_true];rw[qLz hlt];simp only[qLW];congr 2;simp;omega
end Go.Eng

namespace Go.Eng
variable {all:Array Oper}
def qy9(acc:List Nat)(o:Oper):Nat:=o.after.toList.foldl (fun s e=>if Region.binds .any e then s ||| 2^e.on ||| acc.getD e.on 0 else s) 0
theorem qqp(acc:List Nat)(x:Nat):∀(es:List Edge) (s:Nat),(es.foldl (fun s e=>if Region.binds .any e then s ||| 2^e.on ||| acc.getD e.on 0 else s) s).testBit x=true ->
  s.testBit x=true\/∃e,e∈es/\Region.binds .any e=true/\(x=e.on\/(acc.getD e.on 0).testBit x=true)
 | [],s,h=>.inl h
 | e::es,s,h=>by
  simp only[qNl] at h;rcases qqp acc x es _ h with h1|⟨e',h1,h2,h3⟩
  ·split at h1
   ·rename_i hb;rw[Nat.testBit_or,Nat.testBit_or,qMW,qMW] at h1;rcases h1 with (h1|h1)|h1
    ·exact .inl h1
    ·rw[Nat.testBit_two_pow] at h1;have h2:e.on=x:=by simpa using h1
     exact .inr ⟨e,qLE,hb,.inl h2.symm⟩
    ·exact .inr ⟨e,qLE,hb,.inr h1⟩
   ·exact .inl h1
  ·exact .inr ⟨e',qLO _ h1,h2,h3⟩
def qIc(ops:List Oper)(acc:List Nat):Prop:=∀i x,(acc.getD i 0).testBit x=true->∃o e,ops[i]?=some o/\e∈o.after.toList/\Region.binds .any e=true/\(x=e.on\/(acc.getD e.on 0).testBit x=true)
theorem qt5:∀(rest done:List Oper) (acc:List Nat),acc.length=done.length->qIc done acc->qIc (done++rest) (rest.foldl (fun acc o=>acc++[qy9 acc o]) acc)
 | [],done,acc,_,h=>by simpa using h
 | o::rest,done,acc,hl,h=>by
  simp only[qNl];have:=qt5 rest (done++[o]) (acc++[qy9 acc o]) (by simp[hl]) ?_
  ·simpa using this
  ·intro i x hb;have grow:∀(j x:Nat),(acc.getD j 0).testBit x=true->((acc++[qy9 acc o]).getD j 0).testBit x=true:=by
    intro j x hj;rcases qLy j acc.length with hlt|hge
    ·rw[qLr,qLB hlt,<-qLr];exact hj
    ·rw[qLr,qLS hge] at hj;simp at hj
   rcases qLy i acc.length with hlt|hge
   ·rw[qLr,qLB hlt,<-qLr] at hb;obtain⟨o',e,h1,h2,h3,h4⟩:=h i x hb;refine⟨o',e,by rw[qLB (by omega)];exact h1,h2,h3,?_⟩;exact h4.elim .inl fun q=>.inr (grow _ _ q)
   ·rcases qN4 hge with he|hgt
    ·rw[qLr,<-he,qLP (qLs _)] at hb;simp only[qMb,qMO,qMv] at hb;rcases qqp acc x _ _ hb with h1|⟨e,h1,h2,h3⟩
     ·simp at h1
     ·exact⟨o,e,by rw[<-he,qLP (by omega)];simp[hl],h1,h2,h3.elim .inl fun q=>.inr (grow _ _ q)⟩
    ·rw[qLr,qLS (by simp;omega)] at hb;simp at hb
theorem qv6 (ops:List Oper):qIc ops (qgO ops):=by have:=qt5 ops [] [] rfl (fun i x h=>by simp at h);exact this
structure DrawOk (all:Array Oper):Prop where
 edge:∀i o,all[i]?=some o->∀e,e∈o.after.toList->Region.binds .any e=true->e.on<i
 dst:∀i j oi oj,all[i]?=some oi->all[j]?=some oj->j≠i->∀t,oj.dst=some t->oi.dst≠some t /\
  (t∈qBv all oi->((qgO all.toList).getD i 0).testBit j=true\/((qgO all.toList).getD j 0).testBit i=true)
theorem qG3 (h:qCx all=true):DrawOk all:=by
 unfold qCx at h;simp only[qLZ,qMK] at h;have main:∀i oi,all[i]?=some oi->(∀e,e∈oi.after.toList->Region.binds .any e=true->e.on<i) /\
   ∀j oj,all[j]?=some oj->j≠i->∀t,oj.dst=some t->oi.dst≠some t/\(t∈qBv all oi->((qgO all.toList).getD i 0).testBit j=true\/((qgO all.toList).getD j 0).testBit i=true):=by
  intro i oi hi;have hi':all.toList[i]?=some oi:=by simpa using hi
  have:=h i (qv hi');rw[hi'] at this;simp only[qLN,qLZ,qMK,qMW,beq_iff_eq] at this;obtain⟨h1,h2⟩:=this;refine⟨fun e he hb=>?_,fun j oj hj hne t ht=>?_⟩
  ·have:=h1 e he;rw[hb] at this;simpa using this
  ·have hj':all.toList[j]?=some oj:=by simpa using hj
   have:=(h2 j (qv hj')).resolve_left hne;rw[hj'] at this;simp only[ht,qLN,bne_iff_ne,ne_eq,qMW,qN9,List.contains_eq_mem,decide_eq_false_iff_not] at this;refine⟨this.1,fun hm=>?_⟩;rcases this.2 with (h3|h3)|h3
   ·exact absurd hm h3
   ·exact .inl h3
   ·exact .inr h3
 exact⟨fun i o hi=>(main i o hi).1,fun i j oi oj hi hj hne=>(main i oi hi).2 j oj hj hne⟩
theorem qH7 (hd:DrawOk all):∀(i x:Nat),((qgO all.toList).getD i 0).testBit x=true->x<i:=by
 intro i;induction i using Nat.strongRecOn with
 | _ i ih=>
  intro x hx;obtain⟨o,e,h1,h2,h3,h4⟩:=qv6 all.toList i x hx;have he:=hd.edge i o (by simpa using h1) e h2 h3;rcases h4 with rfl|h4
  ·exact he
  ·have:=ih e.on he x h4;omega
def qob(all:Array Oper)(L:Nat->Bool):Prop:=∀i o,all[i]?=some o->L i=true->∀e,e∈o.after.toList->Region.binds .any e=true->L e.on=true
theorem qtm (hd:DrawOk all){L:Nat->Bool}(hc:qob all L):∀(i x:Nat),L i=true->((qgO all.toList).getD i 0).testBit x=true->L x=true:=by
 intro i;induction i using Nat.strongRecOn with
 | _ i ih=>
  intro x hi hx;obtain⟨o,e,h1,h2,h3,h4⟩:=qv6 all.toList i x hx;have ho:all[i]?=some o:=by simpa using h1
  have he:=hc i o ho hi e h2 h3;rcases h4 with rfl|h4
  ·exact he
  ·exact ih e.on (hd.edge i o ho e h2 h3) x he h4
section
variable {E:Env} {callS:q7w} {h:List Blk} {all:Array Oper} {V:Nat->AV} {T0:List AV}
def uw(all:Array Oper):Nat->Option Tmp:=fun i=>(all[i]?).bind (·.dst)
theorem qHh (hd:DrawOk all){L:Nat->Bool}(hc:qob all L){n i:Nat}{o:Oper}(hi:all[i]?=some o)(hin:i<=n)(hL:L i=false)(hedge:∀e,e∈o.after.toList->Region.binds .any e=true->L e.on=true) {t:Tmp} (ht:t∈qBv all o) :(TLp (uw all) V T0 L n)[t]?=(TLp (uw all) V T0 (fun _=>true) i)[t]?:=by
 by_cases hex:∃j oj,all[j]?=some oj/\j≠i/\oj.dst=some t
 ·obtain⟨j,oj,hj,hne,hjt⟩:=hex;have hdj:uw all j=some t:=by simp[uw,hj,hjt]
  have huniq:∀m k,k<m->k≠j->uw all k≠some t:=by
   intro m k _ hkj he;unfold uw at he;cases hk:all[k]? with
   | none=>rw[hk] at he;cases he
   | some ok=>
    rw[hk] at he;simp only[qLW] at he;exact(hd.dst j k oj ok hj hk hkj t he).1 hjt
  rcases (hd.dst i j o oj hi hj hne t hjt).2 ht with ha|ha
  ·
   have hji:=qH7 hd i j ha;have hLj:L j=true:=by
    obtain⟨o',e,h1,h2,h3,h4⟩:=qv6 all.toList i j ha;have:o'=o:=by
     have h1':all[i]?=some o':=by simpa using h1
     rw[hi] at h1';exact(qMd h1').symm
    subst this;have he:=hedge e h2 h3;rcases h4 with rfl|h4
    ·exact he
    ·exact qtm hd hc _ _ he h4
   rw[qiM hLj hdj n (by omega) (huniq n),qiM rfl hdj i hji (huniq i)]
  ·
   have hij:=qH7 hd j i ha;have hLj:L j=false:=by
    cases hLj:L j with
    | false=>rfl
    | true=>have:=qtm hd hc _ _ hLj ha;rw[hL] at this;cases this
   have e1:(TLp (uw all) V T0 L n)[t]?=T0[t]?:=qa2 n fun k hk hLk he=>by
    by_cases hkj:k=j
    ·subst hkj;rw[hLj] at hLk;cases hLk
    ·exact huniq n k hk hkj he
   have e2:(TLp (uw all) V T0 (fun _=>true) i)[t]?=T0[t]?:=qa2 i fun k hk _ he=>by
    by_cases hkj:k=j
    ·omega
    ·exact huniq i k hk hkj he
   rw[e1,e2]
 ·have hno:∀k,k≠i->uw all k≠some t:=by
   intro k hki he;unfold uw at he;cases hk:all[k]? with
   | none=>rw[hk] at he;cases he
   | some ok=>
    rw[hk] at he;exact hex ⟨k,ok,hk,hki,he⟩
  have e1:(TLp (uw all) V T0 L n)[t]?=T0[t]?:=qa2 n fun k hk hLk=>hno k (fun e=>by subst e;rw[hL] at hLk;cases hLk);have e2:(TLp (uw all) V T0 (fun _=>true) i)[t]?=T0[t]?:=qa2 i fun k hk _=>hno k (by omega);rw[e1,e2]
end
def unl(listed:Array Bool):Nat->Nat
 | 0=>0
 | m+1=>unl listed m+if listed.getD m false then 0 else 1
theorem qv3{listed:Array Bool}:∀{m:Nat},unl listed m=0->∀i,i<m->listed.getD i false=true
 | 0,_,i,hi=>by omega
 | m+1,h,i,hi=>by
  simp only[unl] at h;by_cases him:i=m
  ·subst him;cases hl:listed.getD i false with
   | true=>rfl
   | false=>rw[hl] at h;simp at h
  ·exact qv3 (Nat.add_eq_zero_iff.1 h).1 i (by omega)
theorem q1w {listed:Array Bool}{i j:Nat}(hi:i<listed.size):(listed.setIfInBounds i true).getD j false=if j=i then true else listed.getD j false:=by
 by_cases h:j=i
 ·subst h;simp[hi]
 ·simp[h,Array.getElem?_setIfInBounds_ne (qLX h)]
theorem qyE{listed:Array Bool}{i:Nat}(hi:i<listed.size)(hl:listed.getD i false=false):∀m,(m<=i->unl (listed.setIfInBounds i true) m=unl listed m)/\(i<m->unl (listed.setIfInBounds i true) m+1=unl listed m)
 | 0=>⟨fun _=>rfl,fun h=>by omega⟩
 | m+1=>by
  obtain⟨h1,h2⟩:=qyE hi hl m;refine⟨fun h=>?_,fun h=>?_⟩
  ·simp only[unl];rw[h1 (by omega),q1w hi,if_neg (show ¬m=i by omega)]
  ·simp only[unl];rw[q1w hi];by_cases him:m=i
   ·subst him;rw[h1 (qLs _),if_pos rfl,hl];simp
   ·rw[if_neg him];have:=h2 (by omega);omega
end Go.Eng

namespace Go.Eng
variable {E:Env}{op:Op}{t:TypeId}
def q0n(h':List Blk):Tree Res->Tree Res->Prop
 | .leaf r,t'=>t'=.leaf (r.1,h',none)
 | .br b t e,.br b' t' e'=>b=b'/\q0n h' t t'/\q0n h' e e'
 | .fail,_=>True
 | .br _ _ _,_=>False
theorem q0n.run{h':List Blk}:∀{t t':Tree Res} {r:Res},q0n h' t t'->t.run=some r->t'.run=some (r.1,h',none)
 | .leaf _,t',_,hm,hr=>by cases hr;simp only[q0n] at hm;subst hm;rfl
 | .fail,_,_,_,hr=>by cases hr
 | .br b t e,.br b' t' e',r,hm,hr=>by
  simp only[q0n] at hm;obtain⟨rfl,h1,h2⟩:=hm;cases b<;>simp only[Tree.run] at hr ⊢
  ·exact q0n.run h2 hr
  ·exact q0n.run h1 hr
 | .br _ _ _,.leaf _,_,hm,_=>by cases hm
 | .br _ _ _,.fail,_,hm,_=>by cases hm
section
variable {h h':List Blk}
def Agr(h h':List Blk)(p:AV):Prop:=∀b,b∈p.men->h'[b]?=h[b]?
theorem we (v:AV):q0n h' (okv h v) (okv h' v):=rfl
theorem yK {b:Bool}{t t' e e':Tree Res}(h1:q0n h' t t')(h2:q0n h' e e'):q0n h' (.br b t e) (.br b t' e'):=⟨rfl,h1,h2⟩
theorem zE {c:Prop}[Decidable c]{t t' e e':Tree Res}(h1:q0n h' t t')(h2:q0n h' e e'):q0n h' (if c then t else e) (if c then t' else e'):=by split<;>assumption
theorem qbb (kk:IntKind)(f:Int->Int->Int)(l:Bool)(x y:Int):q0n h' (q7p h kk f l x y) (q7p h' kk f l x y):=by unfold q7p;cases l<;>rfl
theorem qCv (f:Int->Int->Bool)(l:Bool)(x y:Int):q0n h' (qAA h f l x y) (qAA h' f l x y):=by unfold qAA;cases l<;>rfl
theorem qiA {v:AV}(H:Agr h h' v):vX h' v=vX h v:=by
 cases v<;>first|rfl|skip
 rename_i b;simp only[vX];rw[H b (by simp[AV.men])]
theorem qww (E:Env)(t:TypeId)(p:AV)(H:Agr h h' p):q0n h' (qgv E h t p) (qgv E h' t p):=by
 unfold qgv;dsimp only;refine zE trivial ?_;cases p with
 | ptr b off=>
  simp only;rw[H b (by simp[AV.men])];cases hb:h[b]? with
  | none=>trivial
  | some x=>
   cases x with
   | cells cs=>
    simp only;refine zE (zE (we _) trivial) ?_;cases cs[off]?<;>first|trivial|rfl
   | _=>trivial
 | eptr sh l i off=>
  simp only;refine zE ?_ ?_
  ·cases qbI sh l i off (E.ty t).size<;>first|trivial|rfl
  ·cases qgH sh l i off<;>first|trivial|rfl
 | vptr b i off=>
  simp only;rw[qiA (v:=.vec b) H];cases hb:vX h (.vec b) with
  | none=>trivial
  | some x=>
   obtain⟨sh,l⟩:=x;simp only;refine zE ?_ ?_
   ·cases qbI sh l i off (E.ty t).size<;>first|trivial|rfl
   ·cases qgH sh l i off<;>first|trivial|rfl
 | _=>trivial
theorem qB6 (E:Env)(t:TypeId)(p:AV)(H:Agr h h' p):q0n h' (qdG E h t p) (qdG E h' t p):=by
 cases p with
 | ptr b off=>
  have hm:=qww E t (.ptr b off) H;unfold qdG;simp only;rw[H b (by simp[AV.men])];cases hb:h[b]? with
  | none=>
   have:qgv E h t (.ptr b off)=.fail:=by unfold qgv;simp only[hb];split<;>rfl
   simp only[this];trivial
  | some x=>
   cases x with
   | big cs kk n l=>
    simp only;unfold qDj;refine zE trivial (zE (zE (we _) trivial) ?_);cases cs[off]? with
    | none=>exact zE (we _) trivial
    | some v=>exact we _
   | _=>exact hm
 | aptr b o i=>
  unfold qdG;simp only;rw[H b (by simp[AV.men])];cases hb:h[b]? with
  | none=>trivial
  | some x=>
   cases x with
   | big cs kk n l=>exact zE (yK (we _) trivial) trivial
   | _=>trivial
 | _=>unfold qdG;exact qww _ _ _ H
theorem qBF (E:Env)(t:TypeId)(ps:List (Nat×AV)):q0n h' (qh3 E h t ps) (qh3 E h' t ps):=by
 unfold qh3;refine zE trivial ?_;cases (E.ty t).d with
 | struct fs=>
  simp only;refine zE ?_ trivial;cases qeA (fun i=>(fs[i]?).map fun f=>(f.1,f.2.2)) ((E.ty t).zero.map jI) ps<;>first|trivial|rfl
 | array n e es=>
  simp only;refine zE trivial ?_;cases qeA (fun i=>some (i*es,es)) ((E.ty t).zero.map jI) ps<;>first|trivial|rfl
 | _=>trivial
theorem qyp (E:Env)(t:TypeId)(ps:List (Nat×AV)):q0n h' (qcA E h t ps) (qcA E h' t ps):=by
 unfold qcA;cases qAn E t with
 | none=>exact qBF _ _ _
 | some q=>
  obtain⟨o,kk,n⟩:=q;simp only;cases (E.ty t).d with
  | struct fs=>
   simp only;refine zE ?_ trivial;cases qeA (fun i=>(fs[i]?).map fun f=>(f.1,f.2.2)) (((E.ty t).zero.take o).map jI) ps<;>first|trivial|rfl
  | _=>trivial
theorem qsG (E:Env)(s:TypeId)(x:AV)(f:Nat):q0n h' (q39 E h s x f) (q39 E h' s x f):=by
 unfold q39;cases (E.ty s).d with
 | struct fs=>
  simp only;cases fs[f]? with
  | none=>trivial
  | some o=>
   obtain⟨o,tt,sz⟩:=o;simp only;refine zE trivial ?_;cases x<;>first|rfl|trivial
 | _=>trivial
theorem qqo (E:Env)(t:TypeId)(cs:List AV)(o:Nat):q0n h' (qhO E h t cs o) (qhO E h' t cs o):=by unfold qhO;cases qg5 E t cs o<;>first|rfl|trivial
theorem qBy (E:Env)(s:TypeId)(x:AV)(f:Nat):q0n h' (qi1 E h s x f) (qi1 E h' s x f):=by
 unfold qi1;cases (E.ty s).d with
 | struct fs=>
  cases x with
  | agg cs=>
   simp only;cases fs[f]? with
   | none=>trivial
   | some o=>exact qqo _ _ _ _
  | _=>trivial
 | _=>trivial
theorem qhQ(i:Int)(f:Nat->AV):∀n,q0n h' (qht h i f n) (qht h' i f n)
 | 0=>trivial
 | n+1=>⟨rfl,rfl,qhQ i f n⟩
theorem qsi (E:Env)(t:TypeId)(x i:AV)(H:Agr h h' x):q0n h' (uJ E h t x i) (uJ E h' t x i):=by
 unfold uJ;cases (E.ty t).d with
 | slice e es=>
  cases x with
  | imm sh l=>
   cases asI i with
   | none=>trivial
   | some y=>exact zE (yK (we _) trivial) trivial
  | vec b=>
   cases asI i with
   | none=>trivial
   | some y=>
    simp only;rw[qiA (v:=.vec b) H];cases hb:vX h (.vec b) with
    | none=>trivial
    | some z=>exact zE (yK (we _) trivial) trivial
  | _=>trivial
 | array n e es=>
  cases x with
  | ptr b off=>
   simp only;cases i with
   | ilit kk j=>exact zE (we _) trivial
   | int kk j=>exact zE (qhQ _ _ _) trivial
   | _=>trivial
  | eptr sh l i0 off=>
   simp only;cases i with
   | ilit kk j=>exact zE (we _) trivial
   | int kk j=>exact zE (qhQ _ _ _) trivial
   | _=>trivial
  | _=>trivial
 | _=>trivial
theorem qrr (E:Env)(t:TypeId)(x i:AV)(H:Agr h h' x):q0n h' (q1i E h t x i) (q1i E h' t x i):=by
 have hm:=qsi E t x i H;unfold q1i;split
 ·split
  ·split
   ·split
    ·exact zE (yK (we _) trivial) trivial
    ·exact hm
   ·exact hm
  ·exact hm
 ·exact hm
theorem qwh(E:Env)(e:TypeId)(cs:List AV)(es:Nat)(i:Int):∀m j,q0n h' (qon E h e cs es i j m) (qon E h' e cs es i j m)
 | 0,_=>trivial
 | m+1,j=>yK (qqo _ _ _ _) (qwh E e cs es i m (j+1))
theorem qBt (E:Env)(t:TypeId)(x i:AV):q0n h' (qhe E h t x i) (qhe E h' t x i):=by
 unfold qhe;cases (E.ty t).d with
 | array n e es=>
  cases x with
  | agg cs=>
   cases hi:asI i with
   | none=>trivial
   | some y=>
    cases i with
    | ilit kk j=>exact zE (qqo _ _ _ _) trivial
    | int kk j=>
     simp only;cases (E.ty e).d with
     | int k2=>
      simp only;refine zE ?_ trivial;cases ql1 k2 cs with
      | none=>trivial
      | some l=>exact yK (we _) trivial
     | slice e2 es2=>
      simp only;refine zE ?_ trivial;split
      ·exact qwh _ _ _ _ _ _ _
      ·trivial
     | _=>trivial
    | _=>cases hi
  | _=>trivial
 | str=>
  cases x with
  | str s=>
   cases asI i with
   | none=>trivial
   | some y=>exact yK (we _) trivial
  | _=>trivial
 | _=>trivial
theorem qzM (d:TD)(op:BinOp)(x y:AV)(H:Agr h h' x):q0n h' (qvT d h op x y) (qvT d h' op x y):=by
 unfold qvT;cases hx:asI x with
 | some p=>
  obtain⟨kk,a⟩:=p;cases hy:asI y with
  | some q=>
   obtain⟨kk',b⟩:=q;simp only;refine zE ?_ trivial;cases op<;>simp only<;>first
    | exact qbb _ _ _ _ _
    | exact qCv _ _ _ _
    | trivial
    | skip
   ·cases y<;>simp only<;>first|exact zE trivial (qbb _ _ _ _ _)|exact yK (qbb _ _ _ _ _) trivial
   ·cases y<;>simp only<;>first|exact zE trivial (qbb _ _ _ _ _)|exact yK (qbb _ _ _ _ _) trivial
  | none=>cases x<;>first|cases hx;done|(cases y<;>first|(cases hy;done)|trivial)
 | none=>
  simp only;cases hbx:asB x with
  | some a=>
   cases hby:asB y with
   | some b=>simp only;cases d<;>simp only<;>first|trivial|(cases op<;>first|rfl|trivial)
   | none=>cases x<;>first|(cases hbx;done)|(cases y<;>first|(cases hby;done)|trivial)
  | none=>
   simp only;cases x with
   | str a=>
    cases y with
    | str b=>cases op<;>first|rfl|trivial|exact yK (we _) trivial
    | _=>trivial
   | nilp=>
    cases y with
    | nilp=>cases d<;>first|trivial|(cases op<;>first|rfl|trivial)
    | _=>trivial
   | ptr b off=>
    cases y with
    | nilp=>
     cases d<;>first|trivial|skip
     simp only;rw[H b (by simp[AV.men])];cases hb:h[b]? with
     | none=>trivial
     | some z=>cases z<;>first|trivial|(cases op<;>first|rfl|trivial)
    | _=>trivial
   | eptr sh l i o=>
    cases y with
    | nilp=>cases d<;>first|trivial|(cases op<;>first|rfl|trivial)
    | _=>trivial
   | imm sh l=>
    cases y with
    | nils=>cases d<;>first|trivial|(cases op<;>first|trivial|exact yK (we _) trivial)
    | _=>trivial
   | mptr c sh l i o=>
    cases y with
    | nilp=>cases d<;>first|trivial|(cases op<;>first|rfl|trivial)
    | _=>trivial
   | _=>trivial
theorem qAE (E:Env)(op:BinOp)(t:TypeId)(x y:AV)(H:Agr h h' x):q0n h' (qk6 E h op t x y) (qk6 E h' op t x y):=by
 unfold qk6;cases x with
 | agg xs=>
  cases y with
  | agg ys=>
   simp only;unfold qqX;cases eqT E 32 t (.agg xs) (.agg ys) with
   | none=>trivial
   | some r=>cases op<;>first|rfl|trivial
  | _=>exact qzM _ _ _ _ H
 | _=>exact qzM _ _ _ _ H
theorem qHL (op:UnOp)(x:AV):q0n h' (qI0 h op x) (qI0 h' op x):=by cases op<;>cases x<;>first|rfl|trivial
theorem qBU (E:Env)(s d:TypeId)(x:AV):q0n h' (qoj E h s d x) (qoj E h' s d x):=by unfold qoj;cases (E.ty s).d<;>cases (E.ty d).d<;>cases x<;>first|rfl|trivial
theorem qAq (E:Env)(s d:TypeId)(x:AV)(H:Agr h h' x):q0n h' (qhA E h s d x) (qhA E h' s d x):=by
 unfold qhA;cases (E.ty s).d with
 | slice e es=>
  simp only;cases (E.ty d).d with
  | str=>
   simp only;unfold qrw;cases (E.ty e).d with
   | int kk=>
    cases kk<;>first|trivial|skip
    simp only;rw[qiA H];cases hr:vX h x with
    | none=>trivial
    | some q=>
     obtain⟨sh,l⟩:=q;simp only;split
     ·rfl
     ·trivial
   | _=>trivial
  | _=>trivial
 | _=>exact qBU _ _ _ _
theorem qFc (E:Env)(ts:List TypeId)(azz:List AV)(H:∀x,x∈azz->Agr h h' x):q0n h' (qqf E h ts azz) (qqf E h' ts azz):=by
 unfold qqf;cases ts with
 | nil=>trivial
 | cons t ts=>
  cases azz with
  | nil=>trivial
  | cons x azz=>
   cases azz with
   | cons _ _=>trivial
   | nil=>
    simp only;unfold qCz;cases (E.ty t).d with
    | str=>cases x<;>first|rfl|trivial
    | array n e es=>rfl
    | slice e es=>
     cases x with
     | nils=>rfl
     | vec b=>
      simp only;rw[qiA (v:=.vec b) (H _ qLE)];cases hb:vX h (.vec b) with
      | none=>trivial
      | some z=>rfl
     | imm sh l=>rfl
     | _=>trivial
    | _=>cases x<;>trivial
theorem qHf (f:Int->Int->Int)(azz:List AV):q0n h' (qva f h azz) (qva f h' azz):=by
 unfold qva;cases azz with
 | nil=>trivial
 | cons x l=>
  simp only;cases asI x with
  | none=>trivial
  | some p=>
   obtain⟨kk,n⟩:=p;simp only;cases qxH f kk n l with
   | none=>trivial
   | some m=>exact zE (we _) (we _)
theorem qB0 (ht:(E.ty t).d=.str)(x:AV)(lo hi mx:Option AV):q0n h' (qd7 E h t x lo hi mx) (qd7 E h' t x lo hi mx):=by
 unfold qd7;rw[ht];cases mx with
 | some _=>trivial
 | none=>
  cases x<;>first|trivial|skip
  rename_i s;simp only;cases qeJ lo 0 with
  | none=>trivial
  | some l=>
   cases qeJ hi (qw s) with
   | none=>trivial
   | some r=>exact yK (yK (we _) trivial) trivial
theorem qxk (ht:(E.ty t).d=.str)(x:AV)(lo hi mx:Option AV):q0n h' (uO E h t x lo hi mx) (uO E h' t x lo hi mx):=by unfold uO;rw[ht];exact qB0 ht _ _ _ _
theorem qyY {n:Nat}{e:TypeId}{es:Nat}(ht:(E.ty t).d=.array n e es)(x:AV)(lo hi mx:Option AV):q0n h' (uO E h t x lo hi mx) (uO E h' t x lo hi mx):=by
 unfold uO;rw[ht];simp only;cases x<;>first|trivial|skip
 ·cases mx with
  | some _=>trivial
  | none=>
   simp only;refine zE ?_ trivial;unfold qF4;split
   ·exact yK (yK (we _) trivial) trivial
   ·trivial
 ·refine zE ?_ trivial;split
  ·unfold qwH;split
   ·split
    ·exact yK (yK (we _) trivial) trivial
    ·trivial
   ·split
    ·exact yK (yK (yK (we _) trivial) trivial) trivial
    ·trivial
  ·trivial
theorem qxr {e:TypeId}{es:Nat}(ht:(E.ty t).d=.slice e es)(x:AV)(lo hi:Option AV){mx:Option AV}(hm:mx.isSome=true):q0n h' (uO E h t x lo hi mx) (uO E h' t x lo hi mx):=by
 unfold uO;rw[ht];simp only;unfold qd7;cases mx with
 | none=>cases hm
 | some m=>
  simp only;rw[ht];split
  ·split
   ·exact zE (yK (yK (yK (we _) trivial) trivial) trivial) trivial
   ·trivial
  ·trivial
theorem qDU {ev:Operand->AV}(hs:qdd E op=true)(H:qDJ op=true->∀x,x∈op.operands.toList->Agr h h' (ev x)):q0n h' (qpl E h ev op) (qpl E h' ev op):=by
 unfold qpl;cases op<;>simp only[qdd] at hs<;>try (cases hs)
 case move=>exact we _
 case assign=>exact we _
 case pick c a b=>simp only;cases ev c<;>first|exact we _|exact yK (we _) (we _)|trivial
 case build=>exact qyp _ _ _
 case load x=>exact qB6 _ _ _ (H rfl x (by simp[Op.operands]))
 case nilCheck x=>
  have H:=H rfl x (by simp[Op.operands]);simp only;cases hx:ev x with
  | ptr b o=>
   rw[hx] at H;simp only;rw[H b (by simp[AV.men])];cases hb:h[b]? with
   | none=>trivial
   | some z=>cases z<;>first|rfl|trivial
  | eptr sh l i o=>rfl
  | mptr c sh l i o=>exact yK (we _) trivial
  | _=>trivial
 case binOp op t x y r=>exact qAE _ _ _ _ _ (H rfl x (by simp[Op.operands]))
 case unOp=>exact qHL _ _
 case convert s d x=>exact qAq _ _ _ _ (H rfl x (by simp[Op.operands]))
 case makeFunc fn _ _=>cases fn<;>first|rfl|trivial
 case slice t x lo hi mx=>
  split at hs
  ·rename_i ht;exact qxk ht _ _ _ _
  ·rename_i ht;exact qyY ht _ _ _ _
  ·rename_i ht;exact qxr ht _ _ _ (by simpa using hs)
  ·cases hs
 case fieldAddr=>exact qsG _ _ _ _
 case field=>exact qBy _ _ _ _
 case indexAddr t x i=>exact qrr _ _ _ _ (H rfl x (by simp[Op.operands]))
 case index=>exact qBt _ _ _ _
 case extract x i=>
  simp only;cases ev x with
  | tuple vs=>simp only;cases vs[i]?<;>first|rfl|trivial
  | _=>trivial
 case call c=>
  obtain⟨callee,args,tys⟩:=c;cases callee with
  | builtin b=>
   cases b<;>first|exact qFc _ _ _ (fun x hx=>by obtain⟨y,hy,rfl⟩:=qMi.1 hx;exact H rfl y (by simpa[Op.operands,Call.operands] using hy))|exact qHf _ _|(cases hs;done)
  | value x=>simp only at hs;cases hs
  | invoke x n=>simp only at hs;cases hs
end
mutual
theorem qCp{h h':List Blk}:∀(a:AV),Agr h h' a->a.lend h'=a.lend h
 | .vec b,H=>by simp only[AV.lend];rw[H b (by simp[AV.men])]
 | .agg cs,H=>by simp only[AV.lend];rw[q2a cs H]
 | .tuple cs,H=>by simp only[AV.lend];rw[q2a cs H]
 | .undef,_|.yld,_|.skip,_|.blit _,_|.bool _,_|.ilit _ _,_|.int _ _,_|.str _,_|.nilp,_|.ptr _ _,_|.eptr _ _ _ _,_|.mptr _ _ _ _ _,_|.vptr _ _ _,_|.vsub _ _,_|.aptr _ _ _,_|.asub _ _ _ _ _,_|.bagg _ _ _ _,_|.nils,_|.imm _ _,_|.full _ _,_|.nilf,_|.fn _ _ _,_=>rfl
theorem q2a{h h':List Blk}:∀(l:List AV),(∀b,b∈AV.menL l->h'[b]?=h[b]?)->AV.lendL h' l=AV.lendL h l
 | [],_=>rfl
 | a::l,H=>by
  simp only[AV.lendL];rw[qCp a fun b hb=>H b (by simp only[AV.menL];exact qMq _ hb),q2a l fun b hb=>H b (by simp only[AV.menL];exact qMf _ hb)]
end
theorem qtB:∀(a:AV) (b:Nat),b∈w9 a->b∈a.men:=by
 intro a b hb;cases a<;>simp only[w9] at hb<;>first|(cases hb;done)|skip
 case vec c=>simpa[AV.men] using hb
 case agg cs=>
  simp only[AV.men];induction cs with
  | nil=>cases hb
  | cons c cs ih=>
   simp only[AV.menL];simp only[List.filterMap_cons] at hb;cases c<;>simp only at hb<;>first|exact qMf _ (ih hb)|skip
   rcases qLx.1 hb with rfl|hb
   ·exact qMq _ (by simp[AV.men])
   ·exact qMf _ (ih hb)
theorem qpx {l:List AV}{a:AV}{b:Nat}(ha:a∈l)(hb:b∈a.men):b∈AV.menL l:=by
 induction l with
 | nil=>cases ha
 | cons c l ih=>
  simp only[AV.menL];rcases qLx.1 ha with rfl|ha
  ·exact qMq _ hb
  ·exact qMf _ (ih ha)
theorem qpD {h h':List Blk}{f:FuncId}{args:List AV}(H:∀b,b∈AV.menL args->h'[b]?=h[b]?):qav E h' f args=qav E h f args:=by
 unfold qav;cases hf:E.spec.find? fun x=>x.1==f with
 | none=>rfl
 | some G=>
  simp only;have e1:(args.flatMap w9).all (qkf h')=(args.flatMap w9).all (qkf h):=by
   have:∀b,b∈args.flatMap w9->qkf h' b=qkf h b:=by intro b hb;obtain⟨a,ha,hb⟩:=qNA.1 hb;unfold qkf;rw[H b (qpx ha (qtB a b hb))]
   generalize args.flatMap w9=l at this;induction l with
   | nil=>rfl
   | cons b l ih=>simp only[qNv];rw[this b qLE,ih fun b hb=>this b (qLO _ hb)]
  rw[e1,q2a args H]
theorem q82 (E:Env):q6s E (q8N E):=by
 intro h h' f args hs H;unfold q8N;unfold qh1 at hs;cases hf:E.spec.find? fun x=>x.1==f with
 | none=>rw[hf] at hs;cases hs
 | some G=>simp only;exact qpD H
theorem qvW (E:Env):q6s E qvo:=fun _ _ _ _ _ _=>rfl
theorem qvN {callS:List Blk->q7w}(hm:q6s E callS){h h':List Blk}{ev:Operand->AV}{v:AV}{R:List Nat}(hR:qII E ev op=some R)(H:∀b,b∈R->h'[b]?=h[b]?)(hr:(qdy E (callS h) h ev op).run=some v):(qdy E (callS h') h' ev op).run=some v:=by
 unfold qdy at hr ⊢;split at hr
 ·rename_i x args tys;cases hx:ev x with
  | fn f first caps=>
   rw[hx] at hr;unfold qII at hR;simp only[qin,jP,hx] at hR;cases hf:qh1 E f with
   | none=>rw[hf] at hR;cases hR
   | some G=>
    rw[hf] at hR;simp only[qLq] at hR;subst hR;simp only;rw[hm h h' f _ (by rw[hf];rfl) H];exact hr
  | _=>rw[hx] at hr;cases hr
 ·rename_i hno;split at hr
  ·rename_i hst;rw[if_pos hst];obtain⟨r,h1,h2⟩:=bind_some hr;cases h2;have hR':qDJ op=true->R=AV.menL (op.operands.toList.map ev):=by
    intro hlk;unfold qII at hR;have:qin op=false:=by
     unfold qin;split
     ·rename_i x args tys;exact absurd rfl (hno x args tys)
     ·rfl
    rw[this,hlk] at hR;simpa using hR.symm
   rw[Tree.run_bind,q0n.run (qDU (h':=h') hst fun hlk x hx b hb=>H b (by rw[hR' hlk];exact qpx (List.mem_map_of_mem hx) hb)) h1];rfl
  ·cases hr
section
variable {h:List Blk}
theorem qhp:∀(cs:List AV),cs.all qCl=true->qb9 h cs=h
 | [],_=>rfl
 | c::cs,hc=>by
  simp only[qNv,qLN] at hc;cases c<;>first|(simp only[qb9];exact qhp cs hc.2)|(cases hc.1)
theorem qEt {ev:Operand->AV}{v:AV}{z:Blk}(hr:(qjy E h ev op).run=some (v,z)):(qpl E h ev op).run=some (v,h++[z],none):=by
 unfold qjy at hr;cases op<;>simp only at hr<;>first|(cases hr;done)|skip
 case buildSlice t len parts=>
  unfold qpl;simp only;unfold q8O;cases hd:(E.ty t).d<;>rw[hd] at hr<;>simp only at hr ⊢<;>first|(cases hr;done)|skip
  rename_i e es;split at hr
  ·rename_i hc;rw[if_pos hc];cases hf:qeA (fun i=>some (i*es,es)) ((List.replicate len ((E.ty e).zero.map jI)).flatten) (parts.toList.map fun p=>(p.1,ev p.2)) with
   | none=>rw[hf] at hr;cases hr
   | some cs=>
    cases hs:E.shape 16 e with
    | none=>rw[hf,hs] at hr;cases hr
    | some sh=>
     rw[hf,hs] at hr;simp only at hr ⊢;split at hr
     ·rename_i hl;rw[if_pos hl.1];cases hch:qj7 h sh len cs with
      | none=>rw[hch] at hr;cases hr
      | some l=>
       rw[hch] at hr;cases hr;simp only[qhp cs hl.2];rfl
     ·cases hr
  ·cases hr
theorem qx6 {f g:Operand->AV}(hfg:∀x∈op.operands.toList,f x=g x):qjy E h f op=qjy E h g op:=by
 unfold qjy;cases op<;>simp only
 case buildSlice t len ps=>
  have:(ps.toList.map fun p=>(p.1,f p.2))=ps.toList.map fun p=>(p.1,g p.2):=qMV fun p hp=>by rw[hfg p.2 (by simp only[Op.operands];exact List.mem_map_of_mem hp)]
  rw[this]
end
end Go.Eng

namespace Go.Eng
variable {B:Base}{E:Env}{X:Ctx}{s:Nat}
mutual
theorem AV.ren_void{s:Nat}:∀av:AV,s∉av.men->av.ren (qdm s)=av
 | .undef,_|.skip,_|.yld,_|.blit _,_|.bool _,_|.ilit _ _,_|.int _ _,_|.str _,_|.nilp,_|.eptr _ _ _ _,_|.mptr _ _ _ _ _,_|.nils,_|.imm _ _,_|.full _ _,_|.nilf,_=>rfl
 | .ptr b _,h=>by simp only[AV.men,qLY] at h;simp[AV.ren,qdm,qLX h]
 | .vptr b _ _,h=>by simp only[AV.men,qLY] at h;simp[AV.ren,qdm,qLX h]
 | .vsub b _,h=>by simp only[AV.men,qLY] at h;simp[AV.ren,qdm,qLX h]
 | .aptr b _ _,h=>by simp only[AV.men,qLY] at h;simp[AV.ren,qdm,qLX h]
 | .asub b _ _ _ _,h=>by simp only[AV.men,qLY] at h;simp[AV.ren,qdm,qLX h]
 | .vec b,h=>by simp only[AV.men,qLY] at h;simp[AV.ren,qdm,qLX h]
 | .fn g first caps,h=>by
  simp only[AV.men,qLV,not_or] at h;simp[AV.ren,AV.renL_void first h.1,AV.renL_void caps h.2]
 | .agg cs,h=>by simp only[AV.men] at h;simp[AV.ren,AV.renL_void cs h]
 | .tuple cs,h=>by simp only[AV.men] at h;simp[AV.ren,AV.renL_void cs h]
 | .bagg cs k n l,h=>by simp only[AV.men] at h;simp[AV.ren,AV.renL_void cs h]
theorem AV.renL_void{s:Nat}:∀l:List AV,s∉AV.menL l->AV.renL (qdm s) l=l
 | [],_=>rfl
 | a::l,h=>by
  simp only[AV.menL,qLV,not_or] at h;simp[AV.renL,AV.ren_void a h.1,AV.renL_void l h.2]
end
theorem Blk.ren_void (k:Blk)(h:s∉k.menB):k.ren (qdm s)=k:=by cases k<;>simp only[Blk.menB,Blk.ren] at h ⊢<;>rw[AV.renL_void _ h]
theorem qnQ{s:Nat}:∀l:List (List AV),s∉qmF l->l.map (AV.renL (qdm s))=l
 | [],_=>rfl
 | a::l,h=>by
  simp only[qmF,qLV,not_or] at h;simp only[qMn,AV.renL_void a h.1,qnQ l h.2]
theorem qpr {s b:Nat}{k:Blk}:∀{h:List Blk},s∉qdb h->h[b]?=some k->s∉k.menB:=by
 intro h;induction h generalizing b with
 | nil=>intro _ hb;simp at hb
 | cons a h ih=>
  intro hs hb;simp only[qdb,qLV,not_or] at hs;cases b with
  | zero=>simp only[qMO,qLq] at hb;subst hb;exact hs.1
  | succ b=>exact ih hs.2 (by simpa using hb)
def Ctx.slot(X:Ctx)(s:Nat)(z:Blk)(o:Obj):Ctx:={ σ:=fun b=>if b=s then some X.w.heap.size else X.σ b,h:=X.h.set s z,w:=X.w.alloc o,M:=X.M,kept:=X.kept,y:=X.y }
theorem qqS (hs:HSim B X){z:Blk}{o:Obj}:Move X (X.slot s z o) (qdm s):=by
 refine Move.of (fun _ h=>h) (fun a ha=>qMu (wd _ _ (hs.ltM _ ha))) (fun b b' hb h=>?_);unfold qdm at h;split at h
 ·cases h
 ·rename_i hne;cases h;refine⟨by simpa[Ctx.slot] using hb,by simp[Ctx.slot,hne],fun sh m ⟨e,l,h1,h2⟩=>⟨e,l,?_,h2⟩,fun _ _ _ n hn c T fr hc=>⟨c,T,fr,?_,rfl⟩⟩
  ·have e1:(X.slot s z o).h[b]?=X.h[b]?:=qLt (fun e=>hne e.symm);rw[e1] at h1;exact h1
  ·exact(wd _ _ (qLw.1 hc).1).trans hc
theorem qwb (hs:HSim B X){z:Blk}{o:Obj}(hd:X.h[s]?=some .dead)(hmen:s∉qdb X.h)(hz:jJ (X.slot s z o) s z):HSim B (X.slot s z o):=by
 have hm:=qqS hs (s:=s) (z:=z) (o:=o);have hsl:=qv hd;have himp:B.imps.length<=s:=by
  rcases qLy s B.imps.length with h|h
  ·obtain⟨k,h1,h2⟩:=hs.impc s h;rw[hd] at h1;cases h1;cases h2
  ·exact h
 have hget:∀b k',(X.slot s z o).h[b]?=some k'->b≠s/\X.h[b]?=some k'\/b=s/\k'=z:=by
  intro b k' h;by_cases hb:b=s
  ·subst hb;have:(X.h.set b z)[b]?=some k':=h;rw[qLL hsl] at this;exact .inr ⟨rfl,(qMd this).symm⟩
  ·have:(X.h.set s z)[b]?=some k':=h;rw[qLt (fun e=>hb e.symm)] at this;exact .inl ⟨hb,this⟩
 have hσ:∀b,b≠s->(X.slot s z o).σ b=X.σ b:=fun b hb=>by simp[Ctx.slot,hb]
 have hσn:(X.slot s z o).σ s=some X.w.heap.size:=by simp[Ctx.slot]
 have hold:∀n,n<X.w.heap.size->(X.slot s z o).w.heap[n]?=X.w.heap[n]?:=fun n hn=>wd _ _ hn;have hsize:X.w.heap.size<=(X.slot s z o).w.heap.size:=by show _<=(X.w.alloc o).heap.size;simp
 have hown:∀b n,(X.slot s z o).own b n->X.own b n\/b=s/\n=X.w.heap.size:=by
  intro b n ⟨h1,k',h2,h3⟩;rcases hget b k' h2 with⟨hb,h4⟩|⟨rfl,rfl⟩
  ·exact .inl ⟨by rw[<-hσ b hb];exact h1,k',h4,h3⟩
  ·rw[hσn] at h1;exact .inr ⟨rfl,(qMd h1).symm⟩
 constructor
 ·intro b k' h;rcases hget b k' h with⟨hb,h4⟩|⟨rfl,rfl⟩
  ·by_cases hdd:k'=.dead
   ·subst hdd;trivial
   ·have:=jJ.move hm.toMove0 (b':=b) (hσ b hb) (fun n hn=>hold n (hs.lt h4 hdd hn)) (hs.blk b k' h4)
    rwa [Blk.ren_void k' (qpr hmen h4)] at this
  ·exact hz
 ·intro b b' n h h';rcases hown b n h with h1|⟨g1,g2⟩
  ·rcases hown b' n h' with h2|⟨g3,g4⟩
   ·exact hs.inj b b' n h1 h2
   ·exact absurd (Ctx.own.lt hs h1) (by omega)
  ·rcases hown b' _ h' with h2|⟨g3,_⟩
   ·exact absurd (Ctx.own.lt hs h2) (by omega)
   ·rw[g1,g3]
 ·intro b n h hM;rcases hown b n h with h1|⟨g1,g2⟩
  ·exact hs.notM b n h1 hM
  ·exact absurd (hs.ltM _ hM) (by omega)
 ·intro n h;have:=hs.ltM n h;omega
 ·exact hs.M0
 ·exact hs.newM
 ·exact hs.os
 ·exact hs.tape
 ·exact hs.output
 ·have:=hs.size;omega
 ·intro n hn hni;have:=hs.size;rw[hold _ (by omega)];exact hs.frame n hn hni
 ·intro b hb;rw[hσ b (by omega)];exact hs.imps b hb
 ·intro b hb;obtain⟨cs,h,hc⟩:=hs.impc b hb;exact⟨cs,by show (X.h.set s z)[b]?=_;rw[qLt (by omega)];exact h,hc⟩
 ·intro b n h hb;rcases hown b n h with h1|⟨g1,g2⟩
  ·exact hs.fresh b n h1 hb
  ·have:=hs.size;omega
 ·intro p hp;obtain⟨q1,q2,q3⟩:=hs.kept p hp;exact⟨(hold _ (qLw.1 q1).1).trans q1,q2,q3⟩
theorem qAF {P:Program}(hE:E.tok P)(hs:HSim B X){t:TypeId}{z:Blk}(hz:qfq E t=some z)(hd:X.h[s]?=some .dead)(hmen:s∉qdb X.h) :∃o:Obj,((do pure (.value (<-Instr.alloc t true (.tuple #[]))):Sem Next)).run P X.w=.ok (.value (.pointer (some ⟨X.w.heap.size,0,none⟩))) (X.w.alloc o)/\HSim B (X.slot s z o)/\Move X (X.slot s z o) (qdm s) /\Rep (X.slot s z o) (.ptr s 0) (.pointer (some ⟨X.w.heap.size,0,none⟩)):=by
 have hsl:=qv hd;have hptr:∀o,Rep (X.slot s z o) (.ptr s 0) (.pointer (some ⟨X.w.heap.size,0,none⟩)):=fun o=>.ptr _ _ _ (by simpa[Ctx.slot] using hsl) (by simp[Ctx.slot]);unfold qfq at hz;split at hz
 ·rename_i o k n hb;split at hz
  ·cases hz;obtain⟨b1,b2,b3,b4,_⟩:=qiR hb;obtain⟨v,h1,h2,_⟩:=qfT hE (t:=t) (by omega) X.w;refine⟨.cells v.cells t,by simp[Instr.alloc,h1,qau],qwb hs hd hmen ?_,qqS hs,hptr _⟩;exact⟨X.w.heap.size,v.cells,t,(E.ty t).zero.take o,by simp[Ctx.slot],wj _ _,yh _ _,by rw[h2];exact qnI hb,qrt _ _⟩
  ·cases hz
 ·split at hz
  ·rename_i hc;cases hz;obtain⟨v,h1,h2,_⟩:=qfT hE (t:=t) (by simpa using hc.2) X.w;refine⟨.cells v.cells t,by simp[Instr.alloc,h1,qau],qwb hs hd hmen ?_,qqS hs,hptr _⟩;exact⟨X.w.heap.size,v.cells,t,by simp[Ctx.slot],wj _ _,by rw[h2];exact yh _ _⟩
  ·cases hz
theorem qv5 {P:Program}(hE:E.tok P){st:St}{a:Act}(hs:Sim E B X st a){o:Oper}{t:TypeId}(hop:o.op=.alloc t){z:Blk}(hz:qfq E t=some z)(hd:st.h[s]?=some .dead)(hmen:s∉qdb st.h) (ht:s∉AV.menL st.t) (hf:s∉qmF st.fs) {next:Act->World->Prop} {Q:Exit->Act->World->Prop}(hq:∀X' v,Sim E B X' { st with h:=st.h.set s z } a->Rep X' (.ptr s 0) v->next (a.put o.dst v) X'.w):o.wp P a X.w next Q:=by
 rw[<-hs.h] at hd hmen;obtain⟨ob,h1,h2,h3,h4⟩:=qAF hE hs.hs hz hd hmen;unfold Oper.wp;have hrun:(execOp a.eval o).run P X.w=.ok (.value (.pointer (some ⟨X.w.heap.size,0,none⟩))) (X.w.alloc ob):=by rw[<-h1];simp only[execOp,hop]
 rw[hrun];refine hq (X.slot s z ob) _ ⟨h2,?_,?_,?_,fun x hx=>?_,h3.kept▸hs.df,hs.ni,h3.y.trans hs.y,fun p hp=>h3.kept▸hs.pin p hp⟩ h4
 ·show X.h.set s z=st.h.set s z;rw[hs.h]
 ·have:=hs.t.ren h3.toMove0
  rwa [AV.renL_void _ ht] at this
 ·have:=hs.fs.ren h3.toMove0
  rwa [qnQ _ hf] at this
 ·obtain⟨⟨sh,l,i,off,he⟩,hr⟩:=hs.glob x hx;refine⟨⟨sh,l,i,off,he⟩,hr.move h3.M h3.w ?_⟩;have:=hr.1.ren h3.toMove0;rw[he] at this ⊢;exact this
theorem Sim.pad {st:St}{a:Act}(hs:Sim E B X st a):∃X',X'.w=X.w/\Sim E B X' { st with h:=st.h++[.dead] } a:=by
 have hw:=PushW.same X;have hs1:=HSim.push hs.hs (k:=.dead) hw trivial;have:=hs.ext (Ctx.push_ext hs.hs .dead hw) hs1;refine⟨X.pushW .dead none X.w,rfl,?_⟩;have e:(X.pushW .dead none X.w).h=st.h++[.dead]:=by rw[<-hs.h];rfl
 rw[e] at this;exact this
theorem Sim.padN{E:Env}{B:Base}{a:Act}:∀(n:Nat) {X:Ctx} {st:St},Sim E B X st a->∃X',X'.w=X.w/\Sim E B X' { st with h:=st.h++List.replicate n .dead } a
 | 0,X,st,hs=>⟨X,rfl,by simpa using hs⟩
 | n+1,X,st,hs=>by
  obtain⟨X1,h1,h2⟩:=hs.pad;obtain⟨X2,h3,h4⟩:=Sim.padN n h2;refine⟨X2,h3.trans h1,?_⟩;have e:st.h++[.dead]++List.replicate n .dead=st.h++List.replicate (n+1) .dead:=by simp[qMU]
  simp only at h4;rw[e] at h4;exact h4
end Go.Eng

namespace Go.Eng
variable {E:Env}{args:List AV}{b:Nat}{h:List Blk}{op:Op}
theorem stL{all:Array Oper}{V:Nat->AV}{T0:List AV}{L L':Nat->Bool}:∀n,(∀j,j<n->L j=L' j)->TLp (uw all) V T0 L n=TLp (uw all) V T0 L' n
 | 0,_=>rfl
 | n+1,h=>by
  simp only[TLp];rw[h n (qNk n),stL n fun j hj=>h j (by omega)]
theorem qwL {all:Array Oper}(hd:DrawOk all){listed:Array Bool}(hsz:listed.size=all.size)(h:Region.ready .any all listed=[]):∀i,i<all.size->listed.getD i false=true:=by
 intro i;induction i using Nat.strongRecOn with
 | _ i ih=>
  intro hi;cases hl:listed.getD i false with
  | true=>rfl
  | false=>
   have ho:all[i]?=some all[i]:=qNf hi;have:i∈Region.ready .any all listed:=by
    rw[mem_ready];refine⟨?_,all[i],ho,fun e he hb=>?_⟩
    ·have hi':i<listed.size:=by omega
     simpa[qMR,hi'] using hl
    ·have hlt:=hd.edge i _ ho e (by simpa using he) hb;exact ih e.on hlt (by omega)
   rw[h] at this;cases this
theorem qnO {all:Array Oper}{listed:Array Bool}{i:Nat}{o:Oper}(hsz:listed.size=all.size)(ho:all[i]?=some o)(hc:qob all fun j=>listed.getD j false)(hedge:∀e,e∈o.after.toList->Region.binds .any e=true->listed.getD e.on false=true):qob all fun j=>(listed.setIfInBounds i true).getD j false:=by
 have hi:i<listed.size:=by rw[hsz];exact(qLw.1 ho).1
 intro j oj hj hL e he hb;show (listed.setIfInBounds i true).getD e.on false=true;rw[q1w hi];split
 ·rfl
 ·by_cases hji:j=i
  ·subst hji;rw[ho] at hj;cases hj;exact hedge e he hb
  ·have hL':(listed.setIfInBounds i true).getD j false=true:=hL;rw[q1w hi,if_neg hji] at hL';exact hc j oj hj hL' e he hb
theorem qay {b c:Nat}(hb:b≠c):(zU h c)[b]?=h[b]?:=by
 unfold zU;split
 ·rw[qLt (fun e=>hb e.symm)]
 ·rfl
theorem qf4{b:Nat}:∀(l:List Nat) (h:List Blk),b∉l->(qS h l)[b]?=h[b]?
 | [],_,_=>rfl
 | c::l,h,hb=>by
  simp only[qLx,not_or] at hb;simp only[qS];rw[qf4 l _ hb.2,qay hb.1]
theorem qn1{b:Nat}:∀(l:List Nat) (h:List Blk),b∉l->(qcn h l)[b]?=h[b]?
 | [],_,_=>rfl
 | c::l,h,hb=>by
  simp only[qLx,not_or] at hb;simp only[qcn];split
  ·rw[qn1 l _ hb.2,qLt (fun e=>hb.1 e.symm)]
  ·exact qn1 l _ hb.2
theorem qrz{b:Nat}:∀(l:List Nat) (h:List Blk) (ks:List Blk) (h':List Blk),q1O h l ks=some h'->b∉l->h'[b]?=h[b]?
 | [],h,ks,h',hp,_=>by cases ks<;>(simp only[q1O,qLq] at hp;rw[hp])
 | c::l,h,[],h',hp,_=>by simp[q1O] at hp
 | c::l,h,k::ks,h',hp,hb=>by
  simp only[qLx,not_or] at hb;simp only[q1O] at hp;split at hp
  ·cases hq:q1O h l ks with
   | none=>rw[hq] at hp;cases hp
   | some h2=>
    rw[hq] at hp;simp only[qM6,qLq] at hp;rw[<-hp,qLt (fun e=>hb.1 e.symm)];exact qrz l h ks h2 hq hb.2
  ·cases hp
theorem qiO{b:Nat}:∀(l:List Nat),b∈qkg l->b∈l
 | [],h=>h
 | a::l,h=>by
  simp only[qkg] at h;split at h
  ·exact qLO _ (qiO l h)
  ·rcases qLx.1 h with rfl|h
   ·exact qLE
   ·exact qLO _ (qiO l h)
mutual
theorem qG9:∀(a:AV) (h h':List Blk),(a.lend h).men=(a.lend h').men
 | .vec b,h,h'=>by
  have:∀h,((AV.vec b).lend h).men=[]:=fun h=>by simp only[AV.lend];split<;>rfl
  rw[this,this]
 | .agg cs,h,h'=>by simp only[AV.lend,AV.men];exact qll cs h h'
 | .tuple cs,h,h'=>by simp only[AV.lend,AV.men];exact qll cs h h'
 | .undef,_,_|.yld,_,_|.skip,_,_|.blit _,_,_|.bool _,_,_|.ilit _ _,_,_|.int _ _,_,_|.str _,_,_|.nilp,_,_|.ptr _ _,_,_|.eptr _ _ _ _,_,_|.mptr _ _ _ _ _,_,_|.vptr _ _ _,_,_|.vsub _ _,_,_|.aptr _ _ _,_,_|.asub _ _ _ _ _,_,_|.bagg _ _ _ _,_,_|.nils,_,_|.imm _ _,_,_|.full _ _,_,_|.nilf,_,_|.fn _ _ _,_,_=>rfl
theorem qll:∀(l:List AV) (h h':List Blk),AV.menL (AV.lendL h l)=AV.menL (AV.lendL h' l)
 | [],_,_=>rfl
 | a::l,h,h'=>by simp only[AV.lendL,AV.menL];rw[qG9 a h h',qll l h h']
end
theorem qsE {G:zw}{st:St}{r:AV×St}(h:(q1z G args st).run=some r)(hb:b<st.h.length)(hw:b∉qop st.h args):r.2.h[b]?=st.h[b]?:=by
 unfold q1z at h;unfold qop at hw;simp only[qLV,not_or] at hw;obtain⟨⟨w1,w2⟩,w3⟩:=hw;have hpre:(vQ st.h args)[b]?=st.h[b]?:=by unfold vQ;simp only;rw[qn1 _ _ w3,qf4 _ _ w2,qf4 _ _ w1]
 simp only at h;split at h
 ·cases h
 ·obtain⟨r0,h1,h2⟩:=bind_some h;split at h2
  ·cases h2
  ·rename_i hput;cases h2;have hfp:b∉qkg (AV.menL (AV.lendL (vQ st.h args) args)):=by intro hm;have hm:=qiO _ hm;rw[qll args (vQ st.h args) (qS st.h (args.flatMap w9))] at hm;exact w3 hm
   have:=qrz _ _ _ _ hput hfp;rw[hpre] at this;have hl:st.h[b]?=some st.h[b]:=qLz hb;rw[hl] at this;rw[qLB (qv this),this,hl]
theorem qvg {ev:Operand->AV}{q:FuncId×List AV}(h:jP ev op=some q):qin op=true/\∃x args tys first caps,op=.call { callee:=.value x,args:=args,argTypes:=tys }/\ev x=.fn q.1 first caps/\q.2=first++args.toList.map ev++caps:=by
 unfold jP at h;split at h
 ·rename_i x args tys;split at h
  ·rename_i f first caps hx
   cases h;exact⟨rfl,x,args,tys,first,caps,rfl,hx,rfl⟩
  ·cases h
 ·cases h
theorem brR {α:Type}{b:Bool}{t:Tree α}{r:α}(h:(Tree.br b t .fail).run=some r):b=true/\t.run=some r:=by
 cases b
 ·cases h
 ·exact⟨rfl,h⟩
theorem yS:∀(l:List Nat) (h:List Blk),(qS h l).length=h.length
 | [],_=>rfl
 | c::l,h=>by
  simp only[qS];rw[yS l];unfold zU;split<;>simp
theorem qul (hb:b∈args.flatMap w9):b∈AV.menL args:=by obtain⟨a,ha,hb⟩:=qNA.1 hb;exact qpx ha (qtB a b hb)
theorem qDC {h h':List Blk}{s:Sh}{a:AV}(hv:qCl a=true):toU h s a=toU h' s a:=by cases a<;>first|(cases hv;done)|(cases s<;>rfl)
theorem qo7{h h':List Blk}:∀(sh:List Sh) (azz:List AV),azz.all qCl=true->qpq h sh azz=qpq h' sh azz
 | [],[],_=>rfl
 | [],_::_,_=>rfl
 | _::_,[],_=>rfl
 | s::sh,a::azz,hv=>by
  simp only[qNv,qLN] at hv;simp only[qpq];rw[qDC (h':=h') hv.1,qo7 (h':=h') sh azz hv.2]
theorem qFK {p:AV->Bool}{l:List AV}(h:l.all p=true)(n:Nat):(l.take n).all p=true:=by rw[qLZ] at h ⊢;exact fun x hx=>h x (qND hx)
theorem qEU {p:AV->Bool}{l:List AV}(h:l.all p=true)(n:Nat):(l.drop n).all p=true:=by rw[qLZ] at h ⊢;exact fun x hx=>h x (qNE hx)
theorem qqZ{h h':List Blk}{sh:List Sh}:∀(n:Nat) (cs:List AV),cs.all qCl=true->qj7 h sh n cs=qj7 h' sh n cs
 | 0,[],_=>rfl
 | 0,_::_,_=>rfl
 | n+1,cs,hv=>by
  simp only[qj7];rw[qo7 (h':=h') _ _ (qFK hv _),qqZ (h':=h') n _ (qEU hv _)]
theorem qw6 {t:TypeId}{p v:AV}{r:Res}(hr:(q0t E h t p v).run=some r) :∃b x,p.men=[b]/\r=(.skip,h.set b x,none)/\∀h',h'[b]?=h[b]?->(q0t E h' t p v).run=some (.skip,h'.set b x,none):=by
 have plain:∀{p:AV} {r:Res},(qfw E h t p v).run=some r->∃b x,p.men=[b]/\r=(.skip,h.set b x,none)/\∀h',h'[b]?=h[b]?->(qfw E h' t p v).run=some (.skip,h'.set b x,none):=by
  intro p r hr;unfold qfw at hr;simp only at hr;split at hr
  case isFalse=>cases hr
  rename_i hc;cases p<;>simp only at hr<;>first|(cases hr;done)|skip
  case ptr b off=>
   split at hr
   case h_2=>cases hr
   split at hr
   case isFalse=>cases hr
   rename_i cs hb hc2;cases hr;refine⟨b,_,rfl,rfl,fun h' e=>?_⟩;unfold qfw;simp only;rw[if_pos hc,e,hb];simp only;rw[if_pos hc2];rfl
  case vptr b i off=>
   split at hr
   case h_2=>cases hr
   split at hr
   case isFalse=>cases hr
   split at hr
   case h_2=>cases hr
   rename_i e0 sh l hb hm _ us hu;cases hr;refine⟨b,_,rfl,rfl,fun h' e=>?_⟩;unfold qfw;simp only;have hu':qpq h' ((sh.drop off).take v.cells.length) v.cells=some us:=by
    rw[<-hu];refine qo7 _ _ (qLZ.2 fun x hx=>?_);cases x<;>first|rfl|skip
    rename_i b';exact absurd (qpx hx (b:=b') (by simp[AV.men])) (by rw[List.isEmpty_iff.1 hm];simp)
   rw[if_pos hc,e,hb];simp only;rw[if_pos hm,hu'];rfl
 unfold q0t at hr;split at hr
 ·rename_i b off;split at hr
  ·rename_i cs k n l hb;unfold qtN at hr;split at hr
   ·split at hr
    case isFalse=>cases hr
    rename_i hc;cases hr;refine⟨b,_,rfl,rfl,fun h' e=>?_⟩;unfold q0t;simp only[e,hb];unfold qtN;simp only;rw[if_pos hc];rfl
   ·rename_i hno;split at hr
    case isFalse=>cases hr
    rename_i hc;have fin:∀(x:Blk),(qtN E h t b off cs k n l v).run=some (.skip,h.set b x,none)->(∀h':List Blk,(qtN E h' t b off cs k n l v).run=some (.skip,h'.set b x,none))->∃b_1 x_1,(AV.ptr b off).men=[b_1]/\((AV.skip,h.set b x,none):Res)=(.skip,h.set b_1 x_1,none)/\∀h',h'[b_1]?=h[b_1]?->(q0t E h' t (.ptr b off) v).run=some (.skip,h'.set b_1 x_1,none):=by intro x _ h2;refine⟨b,x,rfl,rfl,fun h' e=>?_⟩;unfold q0t;simp only[e,hb];exact h2 h'
    split at hr
    ·rename_i hle;cases hr;refine⟨b,_,rfl,rfl,fun h' e=>?_⟩;unfold q0t;simp only[e,hb];unfold qtN;cases v<;>first|exact absurd rfl (hno _ _ _ _)|(simp only;rw[if_pos hc,hle];rfl)
    ·rename_i hle;split at hr
     case h_2=>cases hr
     split at hr
     case isFalse=>cases hr
     rename_i k' x hx hc2;cases hr;refine⟨b,_,rfl,rfl,fun h' e=>?_⟩;unfold q0t;simp only[e,hb];unfold qtN;cases v<;>first|exact absurd rfl (hno _ _ _ _)|(simp only;rw[if_pos hc,hle];simp only[hx];rw[if_pos hc2];rfl)
  ·rename_i hno;obtain⟨b',x,h1,h2,h3⟩:=plain hr;refine⟨b',x,h1,h2,fun h' e=>?_⟩;simp only[AV.men,qMX,and_true] at h1;subst h1;unfold q0t;simp only;rw[e];split
   ·rename_i cs k n l hb;exact absurd hb (hno _ _ _ _)
   ·exact h3 h' e
 ·rename_i b o i;split at hr
  case h_2=>cases hr
  split at hr
  case h_2=>cases hr
  split at hr
  case isFalse=>cases hr
  rename_i cs k n l hb _ k' x hx hc;obtain⟨g1,g2⟩:=brR hr;cases g2;refine⟨b,_,rfl,rfl,fun h' e=>?_⟩;unfold q0t;simp only[e,hb,hx];rw[if_pos hc];simp only[Tree.run,g1]
 ·rename_i hn1 hn2;obtain⟨b',x,h1,h2,h3⟩:=plain hr;refine⟨b',x,h1,h2,fun h' e=>?_⟩;unfold q0t;split
  ·rename_i b off;exact absurd rfl (hn1 _ _)
  ·rename_i b o i;exact absurd rfl (hn2 _ _ _)
  ·exact h3 h' e
theorem qr4 {h h':List Blk}{ev:Operand->AV}{v:AV}(hr:(qnC E h ev op).run=some (v,h'))(hb:b<h.length)(hw:b∉qyU h ev op):h'[b]?=h[b]?:=by
 unfold qnC at hr;unfold qyU at hw;cases hc:jP ev op with
 | some q=>
  obtain⟨f,args⟩:=q;rw[hc] at hr hw;simp only at hr hw;cases hs:qh1 E f with
  | none=>rw[hs] at hr;cases hr
  | some G=>
   rw[hs] at hr;obtain⟨r,h1,h2⟩:=bind_some hr;cases h2;exact qsE (st:={ t:=[],fs:=[],h:=h,pend:=none }) h1 hb hw
 | none=>
  rw[hc] at hr hw;simp only at hr hw;cases hst:qnx op with
  | true=>
   rw[hst] at hr;obtain⟨r,h1,h2⟩:=bind_some hr;cases op<;>first|(cases hst;done)|skip
   rename_i t x y;simp only at hw;obtain⟨b',z,q1,rfl,_⟩:=qw6 (show (q0t E h t (ev x) (ev y)).run=some r from h1);cases h2;rw[q1] at hw;exact qLt (fun e=>hw (by simp[e]))
  | false=>rw[hst] at hr;cases hr
theorem qsp {f g:Operand->AV}(hfg:∀x∈op.operands.toList,f x=g x):jP f op=jP g op:=by
 unfold jP;split
 ·rename_i x args tys;rw[hfg x (by simp[Op.operands,Call.operands])];have:args.toList.map f=args.toList.map g:=qMV fun y hy=>hfg y (by simp only[Op.operands,Call.operands,qNz];exact qMf _ hy);rw[this]
 ·rfl
theorem qqP {f g:Operand->AV}(hfg:∀x∈op.operands.toList,f x=g x):qmy E h f op=qmy E h g op/\qnC E h f op=qnC E h g op:=by
 have hc:=qsp hfg;constructor
 ·unfold qmy;rw[hc]
 ·unfold qnC;rw[hc];cases jP g op with
  | some q=>rfl
  | none=>
   simp only;cases hs:qnx op with
   | true=>
    cases op<;>first|(cases hs;done)|skip
    rename_i t x y;have e:qpl E h f (.store t x y)=qpl E h g (.store t x y):=by unfold qpl;simp only;rw[hfg x (by simp[Op.operands]),hfg y (by simp[Op.operands])]
    simp only[e]
   | false=>rfl
theorem qxl {P:Program}(hE:E.tok P)(hS:E.specs P){B:Base}{X:Ctx}{st:St}{a:Act}(hs:Sim E B X st a){o:Oper}{av:AV}{h':List Blk}(h:(qnC E st.h (E.opd st.t) o.op).run=some (av,h')) {next:Act->World->Prop} {Q:Exit->Act->World->Prop}(hq:∀X' v,Sim E B X' { st with h:=h' } a->Rep X' av v->next (a.put o.dst v) X'.w):o.wp P a X.w next Q/\∀c,o.op≠.defer c:=by
 unfold qnC at h;cases hcl:jP (E.opd st.t) o.op with
 | some q=>
  obtain⟨f,aargs⟩:=q;rw[hcl] at h;simp only at h;obtain⟨_,x,args,tys,first,caps,hop,hx,ha⟩:=qvg hcl;simp only at hx ha;refine⟨?_,fun c hc=>by rw[hop] at hc;cases hc⟩;cases hsp:qh1 E f with
  | none=>rw[hsp] at h;cases h
  | some G=>
   rw[hsp] at h;obtain⟨r,h1,h2⟩:=bind_some h;simp only[Tree.run,qLq,qM2] at h2;obtain⟨rfl,rfl⟩:=h2;unfold qh1 at hsp;cases hf:E.spec.find? fun x=>x.1==f with
   | none=>rw[hf] at hsp;cases hsp
   | some G'=>
    rw[hf] at hsp;simp only[qM6,qLq] at hsp;subst hsp;have hG:=hS.sp G' (qMm hf);have hfe:G'.1=f:=by simpa using qMM hf
    rw[hfe] at hG;have hv:=q9g hs x;rw[hx] at hv;generalize hev:a.eval x=vx at hv;cases hv with
    | fn _ _ _ vf vc q1 q2=>
     have hargs:=q4J hs args.toList;have hall:RepL X aargs (vf++args.toList.map a.eval++vc):=by rw[ha];exact(q1.append hargs).append q2
     have hcs:(q1z G'.2 aargs st).run=some (r.1,{ st with h:=r.2.h }):=by
      unfold q1z at h1 ⊢;simp only at h1 ⊢;split at h1
      ·cases h1
      ·obtain⟨r0,k1,k2⟩:=bind_some h1;rw[Tree.run_bind,k1];simp only[qLW];split at k2
       ·cases k2
       ·cases k2;rfl
     have g2:=q8n hG hs hall hcs;have g1:=hG.1 (vf++args.toList.map a.eval++vc).toArray;unfold Oper.wp;have hrun:(execOp a.eval o).run P X.w=.ok (.enter f (vf++args.toList.map a.eval++vc).toArray) X.w:=by
      simp only[execOp,hop,resolve,hev,Deferred.ofValue,qLv,qM1,qLA,invoke];have:vf.toArray++args.map a.eval++vc.toArray=(vf++args.toList.map a.eval++vc).toArray:=by apply qMN;simp
      rw[this];exact g1 X.w
     rw[hrun];refine g2.mono fun e w' ⟨v,X',e1,e2,e3,e4⟩=>?_;subst e1 e2;exact hq X' _ e4 e3
 | none=>
  rw[hcl] at h;simp only at h;have hop:(qpl E st.h (E.opd st.t) o.op).run=some (av,h',none)/\∀c,o.op≠.defer c:=by
   cases hst:qnx o.op with
   | true=>
    rw[hst] at h;obtain⟨r,h1,h3⟩:=bind_some h;refine⟨?_,fun c hc=>by rw[hc] at hst;cases hst⟩;split at h3
    ·rename_i hn;simp only[Tree.run,qLq,qM2] at h3;rw[h1];obtain⟨r1,r2,r3⟩:=r;simp only at hn h3;rw[hn,h3.1,h3.2]
    ·cases h3
   | false=>rw[hst] at h;cases h
  refine⟨?_,hop.2⟩;obtain⟨nx,v,X',g1,g2,g3,g4,g5⟩:=qm2 hE hs hop.1;have hs2:Sim E B X' { st with h:=h' } a:=by have:=hs.ext g5.2 g4;rw[g5.1] at this;exact this
  unfold Oper.wp;rw[g1];rcases g2 with rfl|⟨rfl,rfl⟩
  ·exact hq X' _ hs2 g3
  ·exact hq X' _ hs2 g3
mutual
theorem qG8:∀(a:AV) (h:List Blk) (b:Nat),b∈(a.lend h).men->b∈a.men
 | .vec c,h,b,hb=>by
  simp only[AV.lend] at hb;split at hb<;>cases hb
 | .agg cs,h,b,hb=>by simp only[AV.lend,AV.men] at hb ⊢;exact qe3 cs h b hb
 | .tuple cs,h,b,hb=>by simp only[AV.lend,AV.men] at hb ⊢;exact qe3 cs h b hb
 | .undef,_,_,hb|.yld,_,_,hb|.skip,_,_,hb|.blit _,_,_,hb|.bool _,_,_,hb|.ilit _ _,_,_,hb|.int _ _,_,_,hb|.str _,_,_,hb|.nilp,_,_,hb|.ptr _ _,_,_,hb|.eptr _ _ _ _,_,_,hb|.mptr _ _ _ _ _,_,_,hb|.vptr _ _ _,_,_,hb|.vsub _ _,_,_,hb|.aptr _ _ _,_,_,hb|.asub _ _ _ _ _,_,_,hb|.bagg _ _ _ _,_,_,hb|.nils,_,_,hb|.imm _ _,_,_,hb|.nilf,_,_,hb|.fn _ _ _,_,_,hb=>hb
theorem qe3:∀(l:List AV) (h:List Blk) (b:Nat),b∈AV.menL (AV.lendL h l)->b∈AV.menL l
 | [],_,_,hb=>hb
 | a::l,h,b,hb=>by
  simp only[AV.lendL,AV.menL,qLV] at hb ⊢;exact hb.imp (qG8 a h b) (qe3 l h b)
end
theorem qhT {h h':List Blk}{s c:Nat}{k:Blk}(hl:h'.length=h.length)(hc:c≠s->h'[c]?=h[c]?):(h'.set s k)[c]?=(h.set s k)[c]?:=by
 by_cases e:c=s
 ·subst e;simp only[List.getElem?_set,if_true,hl]
 ·rw[qLt (fun e'=>e e'.symm),qLt (fun e'=>e e'.symm)];exact hc e
theorem qAt {h h':List Blk}{b c:Nat}(hl:h'.length=h.length)(hc:h'[c]?=h[c]?):(zU h' b)[c]?=(zU h b)[c]?:=by
 by_cases e:c=b
 ·subst e;unfold zU;rw[hc];split
  ·exact qhT hl fun h=>absurd rfl h
  ·exact hc
 ·rw[qay e,qay e,hc]
theorem qiG{c:Nat}:∀(l:List Nat) (h h':List Blk),h'.length=h.length->h'[c]?=h[c]?->(qS h' l)[c]?=(qS h l)[c]?
 | [],_,_,_,hc=>hc
 | b::l,h,h',hl,hc=>qiG l _ _ (by have:=yS [b] h;have:=yS [b] h';simp only[qS] at *;omega) (qAt hl hc)
theorem qyv{p q:Nat->Bool}:∀{l:List Nat},(∀b,b∈l->p b=q b)->l.all p=l.all q
 | [],_=>rfl
 | a::l,h=>by simp only[qNv];rw[h a qLE,qyv fun b hb=>h b (qLO _ hb)]
theorem qlx{b:Nat}{cs:List AV}:∀(l:List Nat) (h:List Blk),(qS h l)[b]?=some (.cells cs)->h[b]?=some (.cells cs)
 | [],_,hc=>hc
 | a::l,h,hc=>by
  have:=qlx l _ hc;by_cases e:b=a
  ·subst e;unfold zU at this;split at this
   ·rename_i hk;rw[qLL (qv hk)] at this;cases this
   ·exact this
  ·rwa [qay e] at this
theorem qlX{h:List Blk}{b c:Nat}{k:Blk}(hk:h[b]?=some k)(hc:c∈k.menB):∀(l:List Nat),b∈l->c∈qxj h l
 | a::l,hb=>by
  simp only[qxj,qLV];rcases qLx.1 hb with rfl|hb
  ·rw[hk];exact .inl hc
  ·exact .inr (qlX hk hc l hb)
theorem qpO{h h':List Blk}:∀(l:List Nat),(∀b,b∈l->h'[b]?=h[b]?)->q8d h' l=q8d h l
 | [],_=>rfl
 | b::l,H=>by
  simp only[q8d];rw[H b qLE,qpO l fun c hc=>H c (qLO _ hc)]
theorem qpI{h h':List Blk}:∀(l:List Nat),(∀b,b∈l->h'[b]?=h[b]?)->q6f h' l=q6f h l
 | [],_=>rfl
 | b::l,H=>by
  simp only[q6f];rw[H b qLE,qpI l fun c hc=>H c (qLO _ hc)]
theorem qtd{h h':List Blk}(hl:h'.length=h.length):∀(l:List Nat) (ks g:List Blk),q1O h l ks=some g->g.length=h.length/\∃g':List Blk,q1O h' l ks=some g'/\g'.length=h.length/\∀c:Nat,h'[c]?=h[c]?->g'[c]?=g[c]?
 | [],_,g,hg=>by cases hg;exact⟨rfl,h',rfl,hl,fun _ h=>h⟩
 | b::l,[],g,hg=>by cases hg
 | b::l,k::ks,g,hg=>by
  simp only[q1O] at hg ⊢;split at hg
  case isFalse=>cases hg
  rename_i hk;cases hp:q1O h l ks with
  | none=>rw[hp] at hg;cases hg
  | some g0=>
   rw[hp] at hg;simp only[qM6,qLq] at hg;subst hg;obtain⟨q0,g',q1,q2,q3⟩:=qtd hl l ks g0 hp;refine⟨by simp[q0],g'.set b k,by rw[if_pos hk,q1];rfl,by simp[q2],fun c hc=>qhT (by rw[q0,q2]) fun _=>q3 c hc⟩
theorem qiF:∀(l:List Nat) (h:List Blk),(qcn h l).length=h.length
 | [],_=>rfl
 | b::l,h=>by
  simp only[qcn];split
  ·rw[qiF l];simp
  ·rw[qiF l]
theorem qlb{R:List Nat}:∀(l:List Nat) (h h':List Blk),h'.length=h.length->(∀b,b∈R->h'[b]?=h[b]?)->(∀b,b∈l->b∈R/\∀cs,h[b]?=some (.cells cs)->∀c,c∈AV.menL cs->c∈R) ->
  ∀b,b∈R->(qcn h' l)[b]?=(qcn h l)[b]?
 | [],_,_,_,H,_=>H
 | a::l,h,h',hl,H,hR=>by
  obtain⟨ha,hcs⟩:=hR a qLE;have hR':=fun b hb=>hR b (qLO _ hb);simp only[qcn];rw[H a ha];cases hk:h[a]? with
  | none=>exact qlb l h h' hl H hR'
  | some k=>
   cases k<;>simp only<;>first|exact qlb l h h' hl H hR'|skip
   rename_i cs;have hm:=hcs cs hk;rw[q2a cs fun c hc=>H c (hm c hc)];refine qlb l _ _ (by simp[hl]) (fun b hb=>qhT hl fun _=>H b hb) fun b hb=>⟨(hR' b hb).1,fun cs' hcs' c hc=>?_⟩;by_cases e:b=a
   ·subst e;rw[qLL (qv hk)] at hcs';cases hcs';exact hm c (qe3 cs h c hc)
   ·rw[qLt (fun e'=>e e'.symm)] at hcs';exact(hR' b hb).2 cs' hcs' c hc
theorem qxI {G:zw}{h h':List Blk}{R:List Nat}(hl:h'.length=h.length)(H:∀b,b∈R->h'[b]?=h[b]?)(h1:∀b,b∈AV.menL args->b∈R)(h2:∀b,b∈qxj (qS h (args.flatMap w9)) (AV.menL (AV.lendL (qS h (args.flatMap w9)) args))->b∈R) {r:AV×St} (hr:(q1z G args { t:=[],fs:=[],h:=h,pend:=none }).run=some r) :qop h' args=qop h args/\∃g',(q1z G args { t:=[],fs:=[],h:=h',pend:=none }).run=some (r.1,{ t:=[],fs:=[],h:=g',pend:=none })/\g'.length=r.2.h.length/\∀b,b∈R->b<h.length->g'[b]?=r.2.h[b]?:=by
 have l1:(qS h' (args.flatMap w9)).length=(qS h (args.flatMap w9)).length:=by rw[yS,yS,hl]
 have H1:∀b,b∈R->(qS h' (args.flatMap w9))[b]?=(qS h (args.flatMap w9))[b]?:=fun b hb=>qiG _ _ _ hl (H b hb);have e1:AV.lendL (qS h' (args.flatMap w9)) args=AV.lendL (qS h (args.flatMap w9)) args:=q2a args fun b hb=>H1 b (h1 b hb);have hfp:∀b,b∈AV.menL (AV.lendL (qS h (args.flatMap w9)) args)->b∈R:=fun b hb=>h1 b (qe3 args _ b hb);have e2:=qpO (h:=qS h (args.flatMap w9)) (h':=qS h' (args.flatMap w9)) _ fun b hb=>H1 b (hfp b hb);have hw:qop h' args=qop h args:=by unfold qop;simp only[e1,e2]
 have Hp:∀b,b∈R->(vQ h' args)[b]?=(vQ h args)[b]?:=by unfold vQ;simp only[e1,e2];refine qlb _ _ _ (by simp only[yS,hl]) (fun b hb=>qiG _ _ _ l1 (H1 b hb)) fun b hb=>⟨hfp b hb,fun cs hcs c hc=>?_⟩;refine h2 c (qlX (k:=.cells cs) (b:=b) ?_ hc _ hb);exact qlx _ _ hcs
 have lp:(vQ h' args).length=(vQ h args).length:=by unfold vQ;simp only[qiF,yS,hl]
 refine⟨hw,?_⟩;unfold q1z at hr ⊢;simp only at hr ⊢;have e3:AV.lendL (vQ h' args) args=AV.lendL (vQ h args) args:=q2a args fun b hb=>Hp b (h1 b hb);have hfp2:∀b,b∈qkg (AV.menL (AV.lendL (vQ h args) args))->b∈R:=fun b hb=>h1 b (qe3 args _ b (qiO _ hb));rw[e3,qpI _ fun b hb=>Hp b (hfp2 b hb),lp];split at hr
 ·cases hr
 ·obtain⟨r0,k1,k2⟩:=bind_some hr;split at k2
  ·cases k2
  ·rename_i g hput;cases k2;obtain⟨q0,g',q1,q2,q3⟩:=qtd lp _ _ _ hput;refine⟨g'++(r0.2.drop (qkg (AV.menL (AV.lendL (vQ h args) args))).length).map (Blk.ren (qot (qkg (AV.menL (AV.lendL (vQ h args) args))) (vQ h args).length)),?_,?_,fun b hb hbl=>?_⟩
   ·rw[Tree.run_bind,k1];simp only[qLW,q1];rfl
   ·simp[q2,q0]
   ·have hbg:b<g.length:=by rw[q0];unfold vQ;simp only[qiF,yS];exact hbl
    rw[qLB (by rw[q2,<-q0];exact hbg),qLB hbg];exact q3 b (Hp b hb)
theorem qyT {h h' g:List Blk}{ev:Operand->AV}{v:AV}(hr:(qnC E h ev op).run=some (v,g))(hl:h'.length=h.length)(H:∀b,b∈qDM h ev op++qyU h ev op->h'[b]?=h[b]?)(hg:g.length=h.length) :∃g',(qnC E h' ev op).run=some (v,g')/\g'.length=h'.length/\(∀b,b∈qyU h ev op->g'[b]?=g[b]?)/\∀b,b∉qyU h ev op->g'[b]?=h'[b]?:=by
 have out:∀{h g:List Blk},(qnC E h ev op).run=some (v,g)->g.length=h.length->∀b,b∉qyU h ev op->g[b]?=h[b]?:=by
  intro h g hr hg b hb;rcases qLy b h.length with hlt|hge
  ·exact qr4 hr hlt hb
  ·rw[qLS hge,qLS (by omega)]
 suffices hs:qyU h' ev op=qyU h ev op/\∃g',(qnC E h' ev op).run=some (v,g')/\g'.length=g.length/\∀b,b∈qyU h ev op->g'[b]?=g[b]? by obtain⟨e,g',q1,q2,q3⟩:=hs;refine⟨g',q1,by omega,q3,fun b hb=>out q1 (by omega) b (by rw[e];exact hb)⟩
 unfold qnC at hr ⊢;unfold qDM qyU at H;unfold qyU;cases hc:jP ev op with
 | some q=>
  obtain⟨f,args⟩:=q;rw[hc] at hr H;simp only at hr H ⊢;cases hsp:qh1 E f with
  | none=>rw[hsp] at hr;cases hr
  | some G=>
   rw[hsp] at hr;simp only at hr ⊢;obtain⟨r,k1,k2⟩:=bind_some hr;simp only[Tree.run,qLq,qM2] at k2;obtain⟨rfl,rfl⟩:=k2;obtain⟨e,g',q1,q2,q3⟩:=qxI hl H (fun b hb=>qMq _ (qMq _ hb)) (fun b hb=>qMq _ (qMf _ hb)) k1;refine⟨e,g',by rw[Tree.run_bind,q1];rfl,q2,fun b hb=>?_⟩;rcases qLy b h.length with hlt|hge
   ·exact q3 b (qMf _ hb) hlt
   ·rw[qLS (by omega),qLS (by omega)]
 | none=>
  rw[hc] at hr H;simp only at hr H ⊢;cases hst:qnx op with
  | false=>rw[hst] at hr;cases hr
  | true=>
   rw[hst] at hr;simp only at hr ⊢;obtain⟨r,k1,k2⟩:=bind_some hr;cases op<;>first|(cases hst;done)|skip
   rename_i t x y;obtain⟨b',z,q1,rfl,q3⟩:=qw6 (show (q0t E h t (ev x) (ev y)).run=some r from k1);simp only[Tree.run,qLq,qM2] at k2;obtain⟨rfl,rfl⟩:=k2;refine⟨trivial,h'.set b' z,?_,by simp[hl],fun b hb=>qhT hl fun _=>H b (qMf _ hb)⟩;rw[Tree.run_bind];have:=q3 h' (H b' (qMf _ (by simp only;rw[q1];exact List.mem_singleton_self _)));unfold qpl;simp only;rw[this];rfl
theorem qFj {h h':List Blk}{ev:Operand->AV}(he:qmy E h ev op=true)(H:∀b,b∈qDM h ev op++qyU h ev op->h'[b]?=h[b]?):qmy E h' ev op=true:=by
 unfold qmy at *;unfold qDM at H;cases hv:qin op with
 | false=>rw[hv] at he;exact he
 | true=>
  rw[hv] at he;simp only at he ⊢;cases hc:jP ev op with
  | none=>rw[hc] at he;cases he
  | some q=>
   obtain⟨f,args⟩:=q;rw[hc] at he H;simp only at he H ⊢;have hm:∀b,b∈AV.menL args->h'[b]?=h[b]?:=fun b hb=>H b (qMq _ (qMq _ hb));rw[q2a args hm];have:(args.flatMap w9).all (qkf h')=(args.flatMap w9).all (qkf h):=qyv fun b hb=>by unfold qkf;rw[hm b (qul hb)]
   rw[this];exact he
end Go.Eng

namespace Go.Eng
theorem qxb{s:Nat}:∀(l:List AV) (i:Nat) (v:AV),s∉AV.menL l->s∉v.men->s∉AV.menL (l.set i v)
 | [],_,_,h,_=>by simpa using h
 | a::l,0,v,h,hv=>by
  simp only[AV.menL,qLV,not_or] at h;simp only[qLI,AV.menL,qLV,not_or];exact⟨hv,h.2⟩
 | a::l,i+1,v,h,hv=>by
  simp only[AV.menL,qLV,not_or] at h;simp only[qLM,AV.menL,qLV,not_or];exact⟨h.1,qxb l i v h.2 hv⟩
theorem qCc{dst:Nat->Option Tmp}{V:Nat->AV}{T0:List AV}{L:Nat->Bool}{s:Nat}(h0:s∉AV.menL T0):∀n,(∀j,j<n->L j=true->s∉(V j).men)->s∉AV.menL (TLp dst V T0 L n)
 | 0,_=>h0
 | n+1,h=>by
  have ih:=qCc (dst:=dst) (V:=V) (L:=L) h0 n fun j hj=>h j (by omega);simp only[TLp];split
  ·rename_i hl;cases hd:dst n with
   | none=>exact ih
   | some d=>exact qxb _ _ _ ih (h n (qNk n) hl)
  ·exact ih
theorem qDY{all:Array Oper}{k:Nat}{v:AV}{s:Nat}(h:s∉v.men):s∉(qy8 all k v).men:=by
 unfold qy8;split
 ·split
  ·simp[AV.men]
  ·exact h
 ·exact h
theorem qua{n:Nat}(i:Nat):(Array.replicate n false).getD i false=false:=by rcases qLy i n with h|h<;>simp[h]
theorem qH9(listed:Array Bool):∀n,unl listed n<=n
 | 0=>qLs _
 | n+1=>by simp only[unl];have:=qH9 listed n;split<;>omega
theorem qFY(all:Array Oper):kT all<=all.size:=by
 unfold kT;simp only;cases hf:(List.range all.toList.length).find? _ with
 | none=>simp
 | some m=>
  have:=qMm hf;simp at this;simp;omega
theorem qng(all:Array Oper){i j:Nat}(hj:kT all<=j)(hjn:j<all.size)(hij:i<j):((qgO all.toList).getD j 0).testBit i=true:=by
 unfold kT at hj;simp only at hj;cases hf:(List.range all.toList.length).find? (fun m=>(List.range all.toList.length).all fun j=>decide (j<m)||(List.range j).all fun i=>((qgO all.toList).getD j 0).testBit i) with
 | none=>rw[hf] at hj;simp at hj;omega
 | some m=>
  rw[hf] at hj;simp only[qMv] at hj;have h:=qMM hf;rw[qLZ] at h;have h2:=h j (qMK.2 (by simpa using hjn));simp only[qMW,decide_eq_true_eq,qLZ,qMK] at h2;rcases h2 with h2|h2
  ·omega
  ·exact h2 i hij
section
variable {E:Env} {P:Program} {B:Base} {all:Array Oper} {Q:Exit->Act->World->Prop} {callH:q97} {n0:Nat}
theorem qDR(hE:E.tok P)(hcH:CallOK E P callH B)(hd:DrawOk all){st':St}(hq:∀X' a',Sim E B X' st' a'->Q .normal a' X'.w):∀(l:List Oper) (i:Nat),all.toList.drop i=l->kT all<=i ->∀(fuel:Nat) (listed:Array Bool) (X:Ctx) (a:Act) (st:St),listed.size=all.size->(∀j,j<i->j<all.size->listed.getD j false=true)->(∀j,i<=j->listed.getD j false=false)->unl listed all.size<=fuel ->Sim E B X st a->(qkR E callH all i l st).run=some st'->wpAnyIn (q5e B.ro) n0 P .any all Q fuel listed a X.w:=by
 intro l;induction l with
 | nil=>
  intro i hl hm fuel listed X a st hsz hlo hhi hun hs h;simp only[qkR,Tree.run,qLq] at h;subst h;have hi:all.size<=i:=by simpa using List.drop_eq_nil_iff.1 hl
  have hr:Region.ready .any all listed=[]:=by
   apply List.eq_nil_iff_forall_not_mem.2;intro j hj;rw[mem_ready] at hj;obtain⟨q1,o',q2,_⟩:=hj;have hj':=(qLw.1 q2).1;have hjt:=hlo j (by omega) hj';have hj2:j<listed.size:=by omega
   rw[qMR,qNf hj2] at hjt q1;simp only[qMv] at hjt q1;rw[hjt] at q1;cases q1
  cases fuel with
  | zero=>exact⟨hr,hq X a hs⟩
  | succ fuel=>exact⟨fun _=>hq X a hs,fun j hj=>by rw[hr] at hj;cases hj⟩
 | cons o rest ih=>
  intro i hl hm fuel listed X a st hsz hlo hhi hun hs h;have hin:i<all.size:=by
   rcases qLy i all.size with h1|h1
   ·exact h1
   ·rw[qNe (by simpa using h1)] at hl;cases hl
  have ho:all[i]?=some o:=by have:=qMy (xs:=all.toList) (i:=i) (j:=0);rw[hl] at this;simpa using this.symm
  have hrest:all.toList.drop (i+1)=rest:=by rw[<-List.drop_drop,hl];rfl
  have hil:i<listed.size:=by omega
  have hcl:qob all fun j=>listed.getD j false:=by
   intro j oj hj hL e he hb;have hj':=(qLw.1 hj).1;have hji:j<i:=by
    rcases qLy j i with h1|h1
    ·exact h1
    ·have hL':listed.getD j false=true:=hL;rw[hhi j h1] at hL';cases hL'
   have:=hd.edge j oj hj e he hb;exact hlo e.on (by omega) (by omega)
  have hpos:0<unl listed all.size:=by
   rcases qMz (unl listed all.size) with h0|h0
   ·have:=qv3 h0 i hin;rw[hhi i (qLs _)] at this;cases this
   ·exact h0
  obtain⟨fuel,rfl⟩:∃f,fuel=f+1:=⟨fuel-1,by omega⟩;have hLi:=hhi i (qLs _);have hone:∀j,j∈Region.ready .any all listed->j=i:=by
   intro j hj;rw[mem_ready] at hj;obtain⟨q1,oj,q2,gedge⟩:=hj;have hj':=(qLw.1 q2).1;have hj2:j<listed.size:=by omega
   have hLj:listed.getD j false=false:=by simpa[qMR,hj2] using q1
   rcases Nat.lt_trichotomy j i with h1|h1|h1
   ·rw[hlo j h1 hj'] at hLj;cases hLj
   ·exact h1
   ·have hedge':∀e,e∈oj.after.toList->Region.binds .any e=true->listed.getD e.on false=true:=fun e he hb=>gedge e (by simpa using he) hb;have hcl':=qnO hsz q2 hcl hedge';have hb':=qng all (by omega) hj' h1;have:=qtm hd hcl' j i (by show (listed.setIfInBounds j true).getD j false=true;rw[q1w hj2,if_pos rfl]) hb';have h':(listed.setIfInBounds j true).getD i false=true:=this;rw[q1w hj2,if_neg (by omega),hLi] at h';cases h'
  refine⟨fun hr=>?_,fun j hj=>?_⟩
  ·
   exfalso;have:=qwL hd hsz hr i hin;rw[hLi] at this;cases this
  ·obtain rfl:=hone j hj;have hgo:∀(X'':Ctx) (a'':Act) (s'':St),Sim E B X'' s'' a''->(qkR E callH all (j+1) rest s'').run=some st'->wpAnyIn (q5e B.ro) n0 P .any all Q fuel (listed.setIfInBounds j true) a'' X''.w:=by
    intro X'' a'' s'' hs'' h'';refine ih (j+1) hrest (by omega) fuel _ X'' a'' s'' (by simp[hsz]) (fun k hk hk2=>?_) (fun k hk=>?_) ?_ hs'' h''
    ·rw[q1w hil];split
     ·rfl
     ·exact hlo k (by omega) hk2
    ·rw[q1w hil,if_neg (by omega)];exact hhi k (by omega)
    ·have:=(qyE hil hLi all.size).2 hin;omega
   simp only[qkR] at h;unfold wpOpIn;rw[ho];simp only;cases hwa:q6Z all o st.t with
   | none=>rw[hwa] at h;cases h
   | some b=>
    rw[hwa] at h;rw[qa7 hs.t hwa];cases b with
    | true=>
     simp only[if_true];obtain⟨s1,k1,k2⟩:=bind_some h;obtain⟨s2,k3,k4⟩:=bind_some k2;exact qol hE hcH hs k1 fun X'' a'' hs''=>hgo X'' a'' s2 (qpz hs'' k3) k4
    | false=>
     simp only[qLQ,if_false];exact⟨fun _ _=>trivial,hgo X _ (qDE o st) (hs.put (av:=.skip) .skip o.dst) h⟩
end
theorem qzl(h h':List Blk):qdb (h++h')=qdb h++qdb h':=by
 induction h with
 | nil=>rfl
 | cons k h ih=>simp[qdb,ih]
theorem qBs{zs:List Blk}(h:∀z,z∈zs->z.menB=[]){s:Nat}:s∉qdb zs:=by
 induction zs with
 | nil=>intro h;cases h
 | cons z zs ih=>
  simp only[qdb,qLV,not_or];exact⟨by rw[h z qLE];simp,ih fun z hz=>h z (qLO _ hz)⟩
end Go.Eng

namespace Go.Eng
variable {B:Base}{E:Env}{P:Program}{X:Ctx}{a:Act}{args:List AV}{b:Nat}{e:TypeId}{f:FuncId}{h:List Blk}{k:Nat}{o:Oper}{op:Op}{s:Nat}{sh:List Sh}{st:St}
theorem HSim.renum {X X':Ctx}{f:Nat->Option Nat}(hs:HSim B X)(hm:Move X X' f)(hw:X'.w=X.w)(hM:X'.M=X.M)(g:Nat->Nat)(hget:∀b k,X'.h[b]?=some k->k=.dead\/(X.h[g b]?=some k/\X'.σ b=X.σ (g b)/\k.ren f=k))(hinj:∀b b',g b=g b'->b=b'\/X'.h[b]?=some .dead\/X'.h[b']?=some .dead)(hi:∀b,b<B.imps.length->X'.σ b=X.σ b/\X'.h[b]?=X.h[b]?) (hg:∀b,B.imps.length<=b->B.imps.length<=g b):HSim B X':=by
 have hown:∀b n,X'.own b n->X.own (g b) n:=by
  intro b n ⟨h1,k,h2,h3⟩;rcases hget b k h2 with rfl|⟨q1,q2,_⟩
  ·cases h3
  ·exact⟨q2▸h1,k,q1,h3⟩
 constructor
 ·intro b k h;rcases hget b k h with rfl|⟨q1,q2,q3⟩
  ·trivial
  ·by_cases hd:k=.dead
   ·subst hd;trivial
   ·have:=jJ.move hm.toMove0 (b':=b) q2 (fun n _=>by rw[hw]) (hs.blk (g b) k q1)
    rwa [q3] at this
 ·intro b b' n h h';rcases hinj b b' (hs.inj _ _ n (hown b n h) (hown b' n h')) with e|e|e
  ·exact e
  ·obtain⟨_,k,q1,q2⟩:=h;rw[e] at q1;cases q1;cases q2
  ·obtain⟨_,k,q1,q2⟩:=h';rw[e] at q1;cases q1;cases q2
 ·intro b n h;rw[hM];exact hs.notM _ n (hown b n h)
 ·intro n h;rw[hM] at h;rw[hw];exact hs.ltM n h
 ·intro n h;rw[hM];exact hs.M0 n h
 ·intro n h;rw[hM] at h;exact hs.newM n h
 ·rw[hw];exact hs.os
 ·rw[hw];exact hs.tape
 ·rw[hw];exact hs.output
 ·rw[hw];exact hs.size
 ·intro n h1 h2;rw[hw];exact hs.frame n h1 h2
 ·intro b hb;rw[(hi b hb).1];exact hs.imps b hb
 ·intro b hb;rw[(hi b hb).2];exact hs.impc b hb
 ·intro b n h hb;exact hs.fresh _ n (hown b n h) (hg b hb)
 ·intro p hp;rw[hm.kept] at hp;rw[hw];exact hs.kept p hp
theorem not_imp (hs:HSim B X){k:Blk}(h:X.h[b]?=some k)(hk:k.solid=false):B.imps.length<=b:=by
 rcases qLy b B.imps.length with hb|hb
 ·obtain⟨k',h1,h2⟩:=hs.impc b hb;rw[h] at h1;cases h1;rw[hk] at h2;cases h2
 ·exact hb
def Ctx.alias(X:Ctx)(b s:Nat)(k:Blk):Ctx:={ σ:=fun x=>if x=s then X.σ b else X.σ x,h:=(X.h.set b .dead).set s k,w:=X.w,M:=X.M,kept:=X.kept,y:=X.y }
theorem qx8 {b s:Nat}{k:Blk}(hb:b<X.h.length)(hsl:s<X.h.length)(x:Nat):(X.alias b s k).h[x]?=if x=s then some k else if x=b then some .dead else X.h[x]?:=by
 show ((X.h.set b .dead).set s k)[x]?=_;by_cases h1:x=s
 ·subst h1;rw[if_pos rfl,qLL (by simpa using hsl)]
 ·rw[if_neg h1,qLt (fun e=>h1 e.symm)];by_cases h2:x=b
  ·subst h2;rw[if_pos rfl,qLL hb]
  ·rw[if_neg h2,qLt (fun e=>h2 e.symm)]
theorem qsK (hs:HSim B X){b s:Nat}{l:R}(hb:X.h[b]?=some (.vec e sh l))(hd:X.h[s]?=some .dead)(hmen:s∉qdb X.h) :HSim B (X.alias b s (.vec e sh l))/\Move X (X.alias b s (.vec e sh l)) (qdm s)/\∀v,Rep X (.vec b) v->Rep (X.alias b s (.vec e sh l)) (.vec s) v:=by
 have hbl:=qv hb;have hsl:=qv hd;have hbs:b≠s:=fun he=>by rw[he,hd] at hb;cases hb
 have hget:=fun x=>qx8 (X:=X) (k:=.vec e sh l) hbl hsl x;have hlen:(X.alias b s (.vec e sh l)).h.length=X.h.length:=by simp[Ctx.alias]
 have hm:Move X (X.alias b s (.vec e sh l)) (qdm s):=by
  refine Move.of (fun _ h=>h) (fun _ _=>rfl) (fun b1 b2 hb1 h=>?_);have hne:b1≠s:=by intro e;subst e;simp[qdm] at h
  have:b2=b1:=by simp[qdm,hne] at h;exact h.symm
  subst this;refine⟨by rw[hlen];exact hb1,by simp[Ctx.alias,hne],fun sh1 m ⟨e1,l1,h1,h2⟩=>?_,fun _ _ _ n _ c T fr hc=>⟨c,T,fr,hc,rfl⟩⟩;rw[hget,if_neg hne] at h1;by_cases h3:b2=b
  ·rw[if_pos h3] at h1;rcases h1 with h1|h1<;>cases h1
  ·rw[if_neg h3] at h1;exact⟨e1,l1,h1,h2⟩
 refine⟨hs.renum hm rfl rfl (fun x=>if x=s then b else x) (fun x k h=>?_) (fun x x' h=>?_) (fun x hx=>?_) (fun x hx=>?_),hm,fun v hv=>?_⟩
 ·rw[hget] at h;by_cases h1:x=s
  ·rw[if_pos h1] at h;cases h;right;rw[if_pos h1];exact⟨hb,by simp[Ctx.alias,h1],rfl⟩
  ·rw[if_neg h1] at h;by_cases h2:x=b
   ·rw[if_pos h2] at h;cases h;exact .inl rfl
   ·rw[if_neg h2] at h;right;rw[if_neg h1];exact⟨h,by simp[Ctx.alias,h1],Blk.ren_void k (qpr hmen h)⟩
 ·by_cases h1:x=s
  ·by_cases h2:x'=s
   ·exact .inl (h1.trans h2.symm)
   ·rw[if_pos h1,if_neg h2] at h;right;right;rw[hget,if_neg h2,if_pos h.symm]
  ·by_cases h2:x'=s
   ·rw[if_neg h1,if_pos h2] at h;right;left;rw[hget,if_neg h1,if_pos h]
   ·rw[if_neg h1,if_neg h2] at h;exact .inl h
 ·have h1:=not_imp hs hb rfl;have h2:=not_imp hs hd rfl;exact⟨by simp[Ctx.alias,show x≠s by omega],by rw[hget,if_neg (by omega),if_neg (by omega)]⟩
 ·have h1:=not_imp hs hb rfl;split<;>omega
 ·cases hv with
  | vec _ p n c hlt h=>
   refine .vec s p n c (by rw[hlen];exact hsl) fun sh' m ⟨e',l',q1,q2⟩=>?_;rw[hget,if_pos rfl] at q1;have q3:e'=e/\sh'=sh/\l'=l:=by
    rcases q1 with q1|q1
    ·cases q1;exact⟨rfl,rfl,rfl⟩
    ·cases q1
   obtain⟨rfl,rfl,rfl⟩:=q3;have:=h sh' m ⟨e',l',.inl hb,q2⟩;unfold qvs at this ⊢;have hσ:(X.alias b s (.vec e' sh' l')).σ s=X.σ b:=by simp[Ctx.alias]
   rw[hσ];exact this
theorem qAp (hs:HSim B X){h':List Blk}(hX:X.h=h'++[.dead])(hmen:h'.length∉qdb h') :HSim B { X with h:=h' }/\Move X { X with h:=h' } (qdm h'.length):=by
 have hget:∀(x:Nat) (k:Blk),h'[x]?=some k->X.h[x]?=some k:=fun x k h=>by rw[hX,qLB (qv h)];exact h
 have hm:Move X { X with h:=h' } (qdm h'.length):=by
  refine Move.of (fun _ h=>h) (fun _ _=>rfl) (fun b1 b2 hb1 h=>?_);have hne:b1≠h'.length:=by intro e;subst e;simp[qdm] at h
  have:b2=b1:=by simp[qdm,hne] at h;exact h.symm
  subst this;rw[hX] at hb1;simp only[qLR,qM5,qMA] at hb1;refine⟨by show b2<h'.length;omega,rfl,fun sh1 m ⟨e1,l1,h1,h2⟩=>⟨e1,l1,?_,h2⟩,fun _ _ _ n _ c T fr hc=>⟨c,T,fr,hc,rfl⟩⟩;exact h1.elim (fun h=>.inl (hget _ _ h)) (fun h=>.inr (hget _ _ h))
 refine⟨hs.renum hm rfl rfl id (fun x k h=>.inr ⟨hget x k h,rfl,Blk.ren_void k (qpr hmen h)⟩) (fun x x' h=>.inl h) (fun x hx=>⟨rfl,?_⟩) (fun x hx=>hx),hm⟩;obtain⟨k,h1,h2⟩:=hs.impc x hx;have hxl:x<h'.length:=by
  rcases qLy x h'.length with h|h
  ·exact h
  ·rw[hX,qLP h] at h1;rcases qN4 h with h|h
   ·rw[<-h] at h1;simp at h1;subst h1;cases h2
   ·rw[qLS (by simp;omega)] at h1;cases h1
 show h'[x]?=X.h[x]?;rw[hX,qLB hxl]
theorem Sim.moved {X X':Ctx}(hs:Sim E B X st a)(h2:HSim B X')(h3:Move X X' (qdm s))(ht:s∉AV.menL st.t)(hf:s∉qmF st.fs):Sim E B X' { st with h:=X'.h } a:=by
 refine⟨h2,rfl,?_,?_,fun x hx=>?_,h3.kept▸hs.df,hs.ni,h3.y.trans hs.y,fun p hp=>h3.kept▸hs.pin p hp⟩
 ·have:=hs.t.ren h3.toMove0
  rwa [AV.renL_void _ ht] at this
 ·have:=hs.fs.ren h3.toMove0
  rwa [qnQ _ hf] at this
 ·obtain⟨⟨sh,l,i,off,he⟩,hr⟩:=hs.glob x hx;refine⟨⟨sh,l,i,off,he⟩,hr.move h3.M h3.w ?_⟩;have:=hr.1.ren h3.toMove0;rw[he] at this ⊢;exact this
theorem Rep.voided {X X':Ctx}{s b:Nat}{v:Value}(h:Move X X' (qdm s))(hr:Rep X (.vec b) v)(hne:b≠s):Rep X' (.vec b) v:=by have:=hr.ren h.toMove0;simpa[AV.ren,qdm,hne] using this
theorem qlh {s c:Nat}{k:Blk}(hk:k.menB=[])(hc:c∉qdb h):c∉qdb (h.set s k):=by
 induction h generalizing s with
 | nil=>exact hc
 | cons a h ih=>
  simp only[qdb,qLV,not_or] at hc;cases s with
  | zero=>simp only[qLI,qdb,hk,qMD];exact hc.2
  | succ s=>simp only[qLM,qdb,qLV,not_or];exact⟨hc.1,ih hc.2⟩
theorem qos{c:Nat}:∀(l:List Nat) {h:List Blk},h[c]?=some .dead->(qS h l)[c]?=some .dead
 | [],_,hc=>hc
 | a::l,h,hc=>qos l (by
  by_cases e:c=a
  ·subst e;unfold zU;rw[hc];exact hc
  ·rw[qay e,hc])
theorem qik{c:Nat}:∀(l:List Nat) {h:List Blk},c∉qdb h->c∉qdb (qS h l)
 | [],_,hc=>hc
 | a::l,h,hc=>qik l (by
  unfold zU;split
  ·exact qlh rfl hc
  ·exact hc)
theorem qzF {l:R}{v:Value}(hs:Sim E B X { st with h:=h++[.vec e sh l] } a)(hv:Rep X (.vec h.length) v)(hd:h[s]?=some .dead) (h1:s∉qdb h) (h2:s∉AV.menL st.t) (h3:s∉qmF st.fs) (n1:h.length∉qdb h) (n2:h.length∉AV.menL st.t) (n3:h.length∉qmF st.fs) :∃X',X'.w=X.w/\Sim E B X' { st with h:=h.set s (.vec e sh l) } a/\Rep X' (.vec s) v:=by
 have hsl:=qv hd;have hX:X.h=h++[.vec e sh l]:=hs.h;have hb:X.h[h.length]?=some (.vec e sh l):=by rw[hX,qLP (qLs _)];simp
 have hd':X.h[s]?=some .dead:=by rw[hX,qLB hsl];exact hd
 have hm':s∉qdb X.h:=by rw[hX,qzl];simp[qdb,Blk.menB];exact h1
 obtain⟨g1,g2,g3⟩:=qsK hs.hs hb hd' hm';have s1:=hs.moved g1 g2 h2 h3;have hA:(X.alias h.length s (.vec e sh l)).h=h.set s (.vec e sh l)++[.dead]:=by show (X.h.set h.length .dead).set s (.vec e sh l)=_;rw[hX,List.set_append_right (h:=qLs _),qMb,List.set_append_left (h:=hsl)];rfl
 obtain⟨k1,k2⟩:=qAp g1 hA (by simp only[qMS];exact qlh rfl n1);rw[qMS] at k2;have s2:=s1.moved k1 k2 n2 n3;have hne:s≠h.length:=by omega
 exact⟨{ X.alias h.length s (.vec e sh l) with h:=h.set s (.vec e sh l) },rfl,s2,(g3 v hv).voided k2 hne⟩
theorem zK (h:List Blk)(x:AV):(yU h x).length=h.length:=by cases x<;>simp[yU,qdA]
theorem q3q {x:AV}{c:Nat}(hc:c∉x.men):(yU h x)[c]?=h[c]?:=by
 cases x<;>first|rfl|skip
 rename_i b;exact qay (fun e=>hc (by simp[AV.men,e]))
theorem ql6 {x:AV}{c:Nat}(hc:c∉qdb h):c∉qdb (yU h x):=by
 cases x<;>first|exact hc|skip
 rename_i b;show c∉qdb (zU h b);unfold zU;split
 ·rename_i e sh l _;exact qlh (k:=.frz e sh l) rfl hc
 ·exact hc
theorem qiI {r:Res}(h:qW P B X (execOp a.eval o) r){next:Act->World->Prop}{Q:Exit->Act->World->Prop}(hq:∀X' v,HSim B X'->Rep X' r.1 v->(match r.2.2 with|none=>X'.h=r.2.1/\Ext X X'|some b=>X'.h=r.2.1.map (Blk.ren (qdm b))/\Move X X' (qdm b))->next (a.put o.dst v) X'.w):o.wp P a X.w next Q:=by
 obtain⟨nx,v,X',g1,g2,g3,g4,g5⟩:=h;unfold Oper.wp;rw[g1];rcases g2 with rfl|⟨rfl,rfl⟩
 ·exact hq X' _ g4 g3 g5
 ·exact hq X' _ g4 g3 g5
theorem qFJ (hs:s∉qdb h):h.map (Blk.ren (qdm s))=h:=by
 induction h with
 | nil=>rfl
 | cons k h ih=>
  simp only[qdb,qLV,not_or] at hs;simp only[qMn,Blk.ren_void k hs.1,ih hs.2]
theorem qCF {o:Option Blk}(h:qtr o=true):o=some .dead:=by
 unfold qtr at h;split at h
 ·rfl
 ·cases h
theorem Sim.ext' {X X':Ctx}{h':List Blk}(hs:Sim E B X st a)(hx:Ext X X')(h4:HSim B X')(hh:X'.h=h'):Sim E B X' { st with h:=h' } a:=by have:=hs.ext hx h4;rw[hh] at this;exact this
theorem qBj {x:AV}{m:R}(hr:vX h x=some (sh,m))(hn:qzv b x=true):b∉x.men:=by
 cases x<;>simp only[vX] at hr<;>first|(cases hr;done)|simp[AV.men]
 rename_i b';intro e;subst e;simp[qzv] at hn
theorem qwy {h h':List Blk}{x:AV}(H:∀b,b∈x.men->h'[b]?=h[b]?):vX h' x=vX h x:=by cases x<;>simp only[vX];rename_i b;rw[H b (by simp[AV.men])]
mutual
theorem Rep.inB{X:Ctx}:∀{a:AV} {v:Value},Rep X a v->∀b,b∈a.men->b<X.h.length
 | _,_,.undef _,b,h=>by simp[AV.men] at h
 | _,_,.skip,b,h=>by simp[AV.men] at h
 | _,_,.yld,b,h=>by simp[AV.men] at h
 | _,_,.blit _,b,h=>by simp[AV.men] at h
 | _,_,.bool _,b,h=>by simp[AV.men] at h
 | _,_,.ilit _ _,b,h=>by simp[AV.men] at h
 | _,_,.int _ _,b,h=>by simp[AV.men] at h
 | _,_,.str _,b,h=>by simp[AV.men] at h
 | _,_,.nilp,b,h=>by simp[AV.men] at h
 | _,_,.ptr _ _ _ hb _,b,h=>by simp only[AV.men,qLY] at h;rw[h];exact hb
 | _,_,.eptr _ _ _ _ _ _ _ _ _,b,h=>by simp[AV.men] at h
 | _,_,.mnil _ _ _ _,b,h=>by simp[AV.men] at h
 | _,_,.mptr _ _ _ _ _ _ _ _ _,b,h=>by simp[AV.men] at h
 | _,_,.vptr _ _ _ _ _ hb _ _,b,h=>by simp only[AV.men,qLY] at h;rw[h];exact hb
 | _,_,.vsub _ _ _ _ _ _ hb _ _,b,h=>by simp only[AV.men,qLY] at h;rw[h];exact hb
 | _,_,.aptr _ _ _ _ hb _ _,b,h=>by simp only[AV.men,qLY] at h;rw[h];exact hb
 | _,_,.asub _ _ _ _ _ _ _ _ hb _ _ _ _ _,b,h=>by simp only[AV.men,qLY] at h;rw[h];exact hb
 | _,_,.nils,b,h=>by simp[AV.men] at h
 | _,_,.imm _ _ _ _,b,h=>by simp[AV.men] at h
 | _,_,.full _ _ _ _ _,b,h=>by simp[AV.men] at h
 | _,_,.vec _ _ _ _ hb _,b,h=>by simp only[AV.men,qLY] at h;rw[h];exact hb
 | _,_,.nilf,b,h=>by simp[AV.men] at h
 | _,_,.fn _ _ _ _ _ h1 h2,b,h=>by
  simp only[AV.men,qLV] at h;exact h.elim (RepL.inB h1 b) (RepL.inB h2 b)
 | _,_,.agg _ _ h1,b,h=>by simp only[AV.men] at h;exact RepL.inB h1 b h
 | _,_,.tuple _ _ h1,b,h=>by simp only[AV.men] at h;exact RepL.inB h1 b h
 | _,_,.bagg _ _ _ _ _ h1 _,b,h=>by simp only[AV.men] at h;exact RepL.inB h1 b h
theorem RepL.inB{X:Ctx}:∀{l:List AV} {vs:List Value},RepL X l vs->∀b,b∈AV.menL l->b<X.h.length
 | _,_,.nil,b,h=>by simp[AV.menL] at h
 | _,_,.cons h1 h2,b,h=>by
  simp only[AV.menL,qLV] at h;exact h.elim (Rep.inB h1 b) (RepL.inB h2 b)
end
theorem RepLL.inB{X:Ctx}:∀{l:List (List AV)} {vs:List (List Value)},RepLL X l vs->∀b,b∈qmF l->b<X.h.length
 | _,_,.nil,b,h=>by simp[qmF] at h
 | _,_,.cons h1 h2,b,h=>by
  simp only[qmF,qLV] at h;exact h.elim (RepL.inB h1 b) (RepLL.inB h2 b)
theorem qBW{b:Nat}:∀{h:List Blk},b∈qdb h->∃(i:Nat) (k:Blk),h[i]?=some k/\b∈k.menB
 | [],h=>by cases h
 | k::h,hb=>by
  simp only[qdb,qLV] at hb;rcases hb with hb|hb
  ·exact⟨0,k,rfl,hb⟩
  ·obtain⟨i,k',h1,h2⟩:=qBW hb;exact⟨i+1,k',by simpa using h1,h2⟩
theorem HSim.inB (hs:HSim B X):∀b,b∈qdb X.h->b<X.h.length:=by
 intro b hb;obtain⟨i,k,h1,h2⟩:=qBW hb;have:=hs.blk i k h1;cases k with
 | cells cs=>obtain⟨_,_,_,_,_,hr⟩:=this;exact hr.inB b h2
 | big cs _ _ _=>obtain⟨_,_,_,_,_,_,hr,_⟩:=this;exact hr.inB b h2
 | vec _ _ _=>simp[Blk.menB] at h2
 | frz _ _ _=>simp[Blk.menB] at h2
 | dead=>simp[Blk.menB] at h2
theorem qvK (hS:E.specs P)(h:qIG E f=some e):qnt P f e:=by
 unfold qIG at h;cases hf:E.dels.find? fun x=>x.1==f with
 | none=>rw[hf] at h;cases h
 | some x=>
  rw[hf] at h;simp only[qM6,qLq] at h;have h1:x.1=f:=by simpa using qMM hf
  have:=hS.dl x (qMm hf);rw[h1,h] at this;exact this
theorem qwn (_:E.tok P)(_:qnt P f e)(_:HSim B X){vargs:List Value}(_:RepL X args vargs){av:AV}{h':List Blk}(h:(qta E X.h e args k).run=some (av,h')) (_:X.h[k]?=some .dead) (_:k∉qdb X.h) :Calls P f vargs.toArray X.w fun x w'=>∃v X',x=.returned v/\X'.w=w'/\Rep X' av v/\HSim B X'/\X'.h=h'/\Move X X' (qdm k):=by unfold qta at h;cases h
theorem qKV {args:Array Operand}{tys:Array TypeId}(hop:o.op=.call { callee:=.builtin .append,args:=args,argTypes:=tys }) :∃ty cs,execOp a.eval o=builtin .append tys ty cs ((args.toList.map a.eval).toArray):=by
 have hA:args.map a.eval=(args.toList.map a.eval).toArray:=by apply qMN;simp
 refine⟨o.type,args.map fun|.const _=>true|_=>false,?_⟩;unfold execOp;rw[hop,<-hA];rfl
theorem qn3 {xs:List Operand}(h:qo6 op=some (f,xs)):∃args tys,op=.call { callee:=.value (.func f),args:=args,argTypes:=tys }/\xs=args.toList:=by
 unfold qo6 at h;split at h
 ·cases h;exact⟨_,_,rfl,rfl⟩
 ·cases h
theorem qCW {args:Array Operand}{tys:Array TypeId}(hop:o.op=.call { callee:=.value (.func f),args:=args,argTypes:=tys })(he:∀args w,(callFunc f args).run P w=.ok (.enter f args) w) {next:Act->World->Prop} {Q:Exit->Act->World->Prop} {K:Value->World->Prop} (hc:Calls P f (args.toList.map a.eval).toArray X.w fun x w'=>∃v,x=.returned v/\K v w')(hq:∀v w',K v w'->next (a.put o.dst v) w'):o.wp P a X.w next Q:=by
 unfold Oper.wp;have hrun:(execOp a.eval o).run P X.w=.ok (.enter f (args.toList.map a.eval).toArray) X.w:=by
  simp only[execOp,hop,resolve,Act.eval,Deferred.ofValue,qLv,qM1,qLA,invoke];have:(#[]:Array Value)++args.map a.eval++#[]=(args.toList.map a.eval).toArray:=by apply qMN;simp
  have h2:=he (args.toList.map a.eval).toArray X.w;rw[<-this] at h2;rw[<-this];exact h2
 rw[hrun];refine hc.mono fun x w' ⟨v,e1,e2⟩=>?_;subst e1;exact hq v w' e2
theorem quH (hE:E.tok P)(hS:E.specs P){callS:List Blk->q7w}(hs:Sim E B X st a){av:AV}{h':List Blk}(h:(q5g E callS st.h (E.opd st.t) o.op s).run=some (av,h')) (hl:qrT E o.op=true) (h1:s∉qdb st.h) (h2:s∉AV.menL st.t) (h3:s∉qmF st.fs) (n1:st.h.length∉qdb st.h) (n2:st.h.length∉AV.menL st.t) (n3:st.h.length∉qmF st.fs){next:Act->World->Prop} {Q:Exit->Act->World->Prop} (hq:∀X' v,Sim E B X' { st with h:=h' } a->Rep X' av v->next (a.put o.dst v) X'.w):o.wp P a X.w next Q:=by
 unfold q5g at h;rw[hl] at h;simp only at h;cases hdd:qtr st.h[s]? with
 | false=>rw[hdd] at h;cases h
 | true=>
  rw[hdd] at h;have hd:=qCF hdd;simp only at h;split at h
  ·
   rename_i t len parts hop;obtain⟨r,k1,k2⟩:=bind_some h;simp only[Tree.run,qLq,qM2] at k2;obtain⟨rfl,rfl⟩:=k2;obtain⟨v0,z⟩:=r;have hvz:v0=.vec st.h.length/\∃e sh l,z=.vec e sh l:=by
    have k1:=k1;rw[hop] at k1;unfold qjy at k1;simp only at k1;split at k1
    ·split at k1
     ·split at k1
      ·split at k1
       ·split at k1
        ·cases k1;exact⟨rfl,_,_,_,rfl⟩
        ·cases k1
       ·cases k1
      ·cases k1
     ·cases k1
    ·cases k1
   obtain⟨rfl,e,sh,l,rfl⟩:=hvz;refine qiI (qm2 hE hs (qEt k1)) fun X' v g4 g3 g5=>?_;have s1:Sim E B X' { st with h:=st.h++[.vec e sh l] } a:=hs.ext' g5.2 g4 g5.1;obtain⟨X2,e2,s2,r2⟩:=qzF s1 g3 hd h1 h2 h3 n1 n2 n3;rw[<-e2];exact hq X2 v s2 r2
  ·
   rename_i t hop;unfold quq at h;split at h
   case h_2=>cases h
   rename_i z hz;split at h
   case h_2=>cases h
   simp only[Tree.run,qLq,qM2] at h;obtain⟨rfl,rfl⟩:=h;exact qv5 hE hs hop hz hd h1 h2 h3 hq
  ·
   rename_i args tys hop;obtain⟨ty,cs,hrun⟩:=qKV (a:=a) hop;have hargs:=q4J hs args.toList;unfold qys at h;generalize args.toList.map (E.opd st.t)=als at h hargs;generalize args.toList.map a.eval=avs at hrun hargs;split at h
   case h_2=>cases h
   rename_i t t' sa xa htys;by_cases htt:t=t'
   ·subst htt;rw[if_pos rfl] at h;cases hargs with
    | cons hsa hargs=>cases hargs with
     | cons hxa hargs=>
     cases hargs;rename_i vs vx;have hrun':execOp a.eval o=(do pure (.value (<-Builtin.append_ #[t,t] ty #[vs,vx])):Sem Next):=by rw[hrun];obtain⟨tys⟩:=tys;simp only at htys;subst htys;rfl
     unfold qwP at h;cases htd:(E.ty t).d<;>rw[htd] at h<;>simp only at h<;>first|(cases h;done)|skip
     rename_i e es;obtain⟨ht,rfl⟩:=q1r hE htd;split at h
     case h_2=>cases h
     rename_i sh sh' m hsh hro;by_cases hc:(sh.length=P.cellsOf e/\0<P.cellsOf e/\(E.ty e).zero.length=P.cellsOf e)/\Sh.beqL sh sh'=true
     ·rw[if_pos hc] at h;obtain⟨⟨hc1,hc2,hc4⟩,hbq⟩:=hc;obtain rfl:=Sh.beqL_eq _ _ hbq;obtain⟨i,z,he⟩:=qD2 hE hc2 hc4;split at h
      ·
       obtain⟨g1,g2⟩:=brR h;simp only[Tree.run,qLq,qM2] at g2;obtain⟨rfl,rfl⟩:=g2;have hh:(qmv (qs5 (E.ty e).bytes) X.h e sh .nils xa).run=some (.vec X.h.length,yU X.h xa++[.vec e sh m],none):=by unfold qmv;rw[hs.h,hro];simp only;rw[if_pos hbq];simp only[Tree.run,g1]
       have hg:=qf6 (ty:=ty) hs.hs ht hc2 hc1 he hsa hxa hh;rw[<-hrun'] at hg;refine qiI hg fun X' v g4 g3 g5=>?_;have hfl:(yU st.h xa).length=st.h.length:=zK _ _;have s1:Sim E B X' { st with h:=yU st.h xa++[.vec e sh m] } a:=hs.ext' g5.2 g4 (by rw[g5.1,hs.h]);rw[hs.h,<-hfl] at g3;have hxs:s∉xa.men:=fun hm=>by
        cases xa<;>simp only[vX] at hro<;>first|(cases hro;done)|(simp[AV.men] at hm;done)|skip
        simp only[AV.men,qLY] at hm;subst hm;rw[hd] at hro;cases hro
       obtain⟨X2,e2,s2,r2⟩:=qzF s1 g3 (by rw[q3q hxs];exact hd) (ql6 h1) h2 h3 (by rw[hfl];exact ql6 n1) (by rw[hfl];exact n2) (by rw[hfl];exact n3);rw[<-e2];exact hq X2 v s2 r2
      ·
       rename_i b;split at h
       case h_2=>cases h
       rename_i e' sh'' l hbk;by_cases hq2:(Sh.beqL sh sh''=true/\e=e')/\qzv b xa=true
       ·rw[if_pos hq2] at h;obtain⟨⟨hbq2,rfl⟩,hnv⟩:=hq2;obtain rfl:=Sh.beqL_eq _ _ hbq2;obtain⟨g1,g2⟩:=brR h;simp only[Tree.run,qLq,qM2] at g2;obtain⟨rfl,rfl⟩:=g2;have hbx:=qBj hro hnv;have hxs:s∉xa.men:=fun hm=>by
         cases xa<;>simp only[vX] at hro<;>first|(cases hro;done)|(simp[AV.men] at hm;done)|skip
         simp only[AV.men,qLY] at hm;subst hm;rw[hd] at hro;cases hro
        have hbs:b≠s:=fun he=>by rw[he,hd] at hbk;cases hbk
        have hb':X.h[b]?=some (.vec e sh l):=by rw[hs.h];exact hbk
        have hd':X.h[s]?=some .dead:=by rw[hs.h];exact hd
        obtain⟨a1,a2,a3⟩:=qsK hs.hs hb' hd' (by rw[hs.h];exact h1);have hbl:=qv hbk;have hsl:=qv hd;have ag:∀x,(X.alias b s (.vec e sh l)).h[x]?=if x=s then some (.vec e sh l) else if x=b then some .dead else st.h[x]?:=fun x=>by rw[qx8 (by rw[hs.h];exact hbl) (by rw[hs.h];exact hsl),hs.h]
        have hxr:vX (X.alias b s (.vec e sh l)).h xa=some (sh,m):=by rw[qwy (h:=st.h) fun c hc=>by have z1:c≠s:=fun e=>hxs (e▸hc);have z2:c≠b:=fun e=>hbx (e▸hc);rw[ag,if_neg z1,if_neg z2]];exact hro
        have hxrep:Rep (X.alias b s (.vec e sh l)) xa vx:=by
         have:=hxa.ren a2.toMove0
         rwa [AV.ren_void xa hxs] at this
        have hfin:(yU (X.alias b s (.vec e sh l)).h xa).set s (.vec e sh (kN l m))=((yU st.h xa).set b .dead).set s (.vec e sh (kN l m)):=by
         apply qMo;intro x;by_cases x1:x=s
         ·subst x1;rw[qLL (by rw[zK];simp[Ctx.alias,hs.h];exact hsl),qLL (by simp[zK];exact hsl)]
         ·rw[qLt (fun e=>x1 e.symm),qLt (fun e=>x1 e.symm)];by_cases x2:x=b
          ·subst x2;rw[qLL (by rw[zK];exact hbl),q3q hbx,ag,if_neg x1,if_pos rfl]
          ·rw[qLt (fun e=>x2 e.symm)];cases xa<;>first|(show (X.alias b s (.vec e sh l)).h[x]?=st.h[x]?;rw[ag,if_neg x1,if_neg x2];done)|skip
           rename_i b';have y1:b'≠s:=fun e=>hxs (by simp[AV.men,e]);have y2:b'≠b:=fun e=>hbx (by simp[AV.men,e]);have y3:=ag b';rw[if_neg y1,if_neg y2] at y3;unfold yU zU;simp only[y3];cases hk:st.h[b']? with
           | none=>simp only;rw[ag,if_neg x1,if_neg x2]
           | some k=>
            cases k<;>simp only<;>first|(rw[ag,if_neg x1,if_neg x2];done)|skip
            by_cases x3:x=b'
            ·subst x3;rw[qLL (by simp[Ctx.alias,hs.h];exact qv hk),qLL (qv hk)]
            ·rw[qLt (fun e=>x3 e.symm),qLt (fun e=>x3 e.symm),ag,if_neg x1,if_neg x2]
        have hh:(qmv (qs5 (E.ty e).bytes) (X.alias b s (.vec e sh l)).h e sh (.vec s) xa).run=some (.vec s,(yU (X.alias b s (.vec e sh l)).h xa).set s (.vec e sh (kN l m)),some s):=by
         unfold qmv;rw[hxr];simp only;rw[if_pos hbq,ag,if_pos rfl];simp only;rw[if_pos ⟨hbq,trivial⟩];unfold qCt;cases xa<;>simp only[yU]<;>first|(simp only[Tree.run,g1];done)|skip
         rename_i b';rw[if_neg (fun e=>hxs (by simp[AV.men,<-e]))];simp only[Tree.run,g1]
        have hg:=qf6 (ty:=ty) a1 ht hc2 hc1 he (a3 _ hsa) hxrep hh;rw[<-hrun'] at hg;have hg':qW P B (X.alias b s (.vec e sh l)) (execOp a.eval o) (.vec s,(yU (X.alias b s (.vec e sh l)).h xa).set s (.vec e sh (kN l m)),some s):=hg;have s0:=hs.moved a1 a2 h2 h3;have hw:(X.alias b s (.vec e sh l)).w=X.w:=rfl;rw[<-hw];refine qiI hg' fun X' v g4 g3 g5=>?_;obtain⟨g5,g6⟩:=g5;simp only at g5 g6;rw[hfin,qFJ (qlh rfl (qlh rfl (ql6 h1)))] at g5;have s1:=s0.moved g4 g6 h2 h3;have:({ ({ st with h:=(X.alias b s (.vec e sh l)).h }:St) with h:=X'.h }:St)={ st with h:=((yU st.h xa).set b .dead).set s (.vec e sh (kN l m)) }:=by rw[g5]
        rw[this] at s1;exact hq X' v s1 g3
       ·rw[if_neg hq2] at h;cases h
      ·
       rename_i sh'' l;split at h
       case isFalse=>cases h
       rename_i hbq2;obtain⟨g0,h⟩:=brR h;obtain⟨g1,g2⟩:=brR h;simp only[Tree.run,qLq,qM2] at g2;obtain⟨rfl,rfl⟩:=g2;have hh:(qmv (qs5 (E.ty e).bytes) X.h e sh (.full sh'' l) xa).run=some (.vec X.h.length,yU X.h xa++[.vec e sh (kN l m)],none):=by unfold qmv;rw[hs.h,hro];simp only;rw[if_pos hbq,if_pos hbq2];simp only[Tree.run,g0,g1]
       have hg:=qf6 (ty:=ty) hs.hs ht hc2 hc1 he hsa hxa hh;rw[<-hrun'] at hg;refine qiI hg fun X' v g4 g3 g5=>?_;have hfl:(yU st.h xa).length=st.h.length:=zK _ _;have s1:Sim E B X' { st with h:=yU st.h xa++[.vec e sh (kN l m)] } a:=hs.ext' g5.2 g4 (by rw[g5.1,hs.h]);rw[hs.h,<-hfl] at g3;have hxs:s∉xa.men:=fun hm=>by
        cases xa<;>simp only[vX] at hro<;>first|(cases hro;done)|(simp[AV.men] at hm;done)|skip
        simp only[AV.men,qLY] at hm;subst hm;rw[hd] at hro;cases hro
       obtain⟨X2,e2,s2,r2⟩:=qzF s1 g3 (by rw[q3q hxs];exact hd) (ql6 h1) h2 h3 (by rw[hfl];exact ql6 n1) (by rw[hfl];exact n2) (by rw[hfl];exact n3);rw[<-e2];exact hq X2 v s2 r2
      ·cases h
     ·rw[if_neg hc] at h;cases h
   ·rw[if_neg htt] at h;cases h
  ·
   rename_i _ _ hno;clear hno;unfold qu3 at h;split at h
   case h_2=>cases h
   rename_i f xs hcf;obtain⟨args,tys,hop,rfl⟩:=qn3 hcf;have hargs:=q4J hs args.toList;split at h
   ·rename_i e hdf;have hD:=qvK hS hdf;rw[<-hs.h] at h hd h1;refine qCW hop hD.1 (K:=fun v w'=>∃X',X'.w=w'/\Rep X' av v/\HSim B X'/\X'.h=h'/\Move X X' (qdm s)) ((qwn hE hD hs.hs hargs h hd h1).mono fun x w' ⟨v,X',e0,e1,e2,e3,e4,e5⟩=>⟨v,e0,X',e1,e2,e3,e4,e5⟩) fun v w' ⟨X',e1,e2,e3,e4,e5⟩=>?_;subst e1;have:=hs.moved e3 e5 h2 h3;rw[e4] at this;exact hq X' v this e2
   ·unfold qEn at h;split at h
    case h_2=>cases h
    rename_i G hf;split at h
    case h_2=>cases h
    rename_i hme;obtain⟨r,k1,k2⟩:=bind_some h;split at k2
    case h_2=>cases k2
    rename_i e sh l;simp only[Tree.run,qLq,qM2] at k2;obtain⟨rfl,rfl⟩:=k2;have hG:=hS.sp G (qMm hf);have hfe:G.1=f:=by simpa using qMM hf
    rw[hfe] at hG;generalize args.toList.map (E.opd st.t)=azz at *;have hmen:AV.menL (AV.lendL (qS st.h (azz.flatMap w9)) azz)=[]:=by simpa using hme
    have hcs:(q1z G.2 azz st).run=some (.vec (qS st.h (azz.flatMap w9)).length,{ st with h:=qS st.h (azz.flatMap w9)++[.vec e sh l] }):=by
     unfold q1z;have hpr:vQ st.h azz=qS st.h (azz.flatMap w9):=by unfold vQ;simp only[hmen,q8d,qS,qcn]
     simp only[hpr,hmen,qkg,q6f];rw[AV.renL_of_men _ _ hmen,Tree.run_bind,k1];simp only[qLW,q1O,qMA,List.drop_zero,qMn,List.map_nil];rfl
    have hfl:=yS (azz.flatMap w9) st.h;refine qCW hop hG.1 (K:=fun v w'=>∃X',X'.w=w'/\Rep X' (.vec (qS st.h (azz.flatMap w9)).length) v/\Sim E B X' { st with h:=qS st.h (azz.flatMap w9)++[.vec e sh l] } a) ((q8n hG hs hargs hcs).mono fun x w' ⟨v,X',e1,e2,e3,e4⟩=>⟨v,e1,X',e2,e3,e4⟩) fun v w' ⟨X',e1,e2,e3⟩=>?_;subst e1;obtain⟨X2,e4,s2,r2⟩:=qzF e3 e2 (qos _ hd) (qik _ h1) h2 h3 (by rw[hfl];exact qik _ n1) (by rw[hfl];exact n2) (by rw[hfl];exact n3);rw[<-e4];exact hq X2 v s2 r2
def qe0(w:List Nat)(k h:List Blk):List Blk:=h.mapIdx fun b x=>if b∈w then k.getD b .dead else x
theorem qBk (w:List Nat)(k h:List Blk):(qe0 w k h).length=h.length:=by simp[qe0]
theorem qir {w:List Nat}{k h:List Blk}(hb:b∉w):(qe0 w k h)[b]?=h[b]?:=by
 unfold qe0;rw[List.getElem?_mapIdx];cases h[b]? with
 | none=>rfl
 | some x=>simp[hb]
theorem qhk {w:List Nat}{k h:List Blk}(hb:b∈w)(hk:k.length=h.length):(qe0 w k h)[b]?=k[b]?:=by
 unfold qe0;rw[List.getElem?_mapIdx];rcases qLy b h.length with hl|hl
 ·rw[qLz hl,qLz (hk▸hl)];simp[hb,qLz (hk▸hl)]
 ·rw[qLS hl,qLS (by omega)];rfl
theorem q2N {w:List Nat}{k h k':List Blk}(hk:k.length=h.length)(h1:∀b,b∈w->k'[b]?=k[b]?)(h2:∀b,b∉w->k'[b]?=h[b]?):k'=qe0 w k h:=by
 apply qMo;intro b;by_cases hb:b∈w
 ·rw[h1 b hb,qhk hb hk]
 ·rw[h2 b hb,qir hb]
theorem qvd {callS:List Blk->q7w}{f g:Operand->AV}(hfg:∀x∈op.operands.toList,f x=g x):q5g E callS h f op k=q5g E callS h g op k:=by
 unfold q5g;cases hl:qrT E op with
 | false=>simp only;rw[qve hfg,(qqP hfg).1,(qqP hfg).2]
 | true=>
  simp only;cases qtr h[k]? with
  | false=>rfl
  | true=>
   simp only;split
   ·rw[qx6 hfg]
   ·rfl
   ·rename_i args tys;have:args.toList.map f=args.toList.map g:=qMV fun y hy=>hfg y (by simpa[Op.operands,Call.operands] using hy);rw[this]
   ·unfold qu3;cases hc:qo6 op with
    | none=>rfl
    | some q=>
     obtain⟨fn,xs⟩:=q;obtain⟨args,tys,rfl,rfl⟩:=qn3 hc;have:args.toList.map f=args.toList.map g:=qMV fun y hy=>hfg y (by simp[Op.operands,Call.operands];exact .inr (by simpa using hy));simp only[this]
theorem qya {h h':List Blk}{ev:Operand->AV}{t:TypeId}{len:Nat}{ps:Array (Nat×Operand)}(hl:h'.length=h.length):qjy E h' ev (.buildSlice t len ps)=qjy E h ev (.buildSlice t len ps):=by
 unfold qjy;simp only;split
 ·split
  ·split
   ·split
    ·rename_i hc;rw[qqZ (h':=h) _ _ hc.2,hl]
    ·rfl
   ·rfl
  ·rfl
 ·rfl
theorem qBR {h h':List Blk}{x:AV}{c:Nat}(H:∀b,b∈x.men->h'[b]?=h[b]?)(hc:h'[c]?=h[c]?)(hl:h'.length=h.length):(yU h' x)[c]?=(yU h x)[c]?:=by
 cases x<;>first|exact hc|skip
 rename_i b;have hb:=H b (by simp[AV.men]);show (zU h' b)[c]?=(zU h b)[c]?;unfold zU;rw[hb];split
 ·rename_i e sh l hv;by_cases hcb:c=b
  ·subst hcb;rw[qLL (by rw[hl];exact qv hv),qLL (qv hv)]
  ·rw[qLt (fun e=>hcb e.symm),qLt (fun e=>hcb e.symm)];exact hc
 ·exact hc
theorem qwS {h h':List Blk}{t:TypeId}{s x u:AV}{r:List Blk}{R:List Nat}(hR:∀b,(b=k\/b∈s.men\/b∈x.men)->b∈R)(H:∀b,b∈R->h'[b]?=h[b]?)(hl:h'.length=h.length)(hr:(qwP E h t s x k).run=some (u,r)):r.length=h.length/\(∀b,b∉R->r[b]?=h[b]?)/\∃r',(qwP E h' t s x k).run=some (u,r')/\r'.length=h.length/\(∀b,b∉R->r'[b]?=h'[b]?)/\(∀b,b∈R->r'[b]?=r[b]?):=by
 have hk:∀b,b∉R->b≠k:=fun b hb e=>hb (hR b (.inl e));have hx:∀b,b∉R->b∉x.men:=fun b hb e=>hb (hR b (.inr (.inr e)));have hro:vX h' x=vX h x:=qwy fun b hb=>H b (hR b (.inr (.inr hb)));have hfa:∀c,c∈R->(yU h' x)[c]?=(yU h x)[c]?:=fun c hc=>qBR (fun b hb=>H b (hR b (.inr (.inr hb)))) (H c hc) hl;unfold qwP at hr ⊢;cases htd:(E.ty t).d<;>rw[htd] at hr<;>simp only at hr ⊢<;>first|(cases hr;done)|skip
 rename_i e es;rw[hro];split at hr
 case h_2=>cases hr
 rename_i sh sh' m hsh hrw;split at hr
 case isFalse=>cases hr
 rename_i hc;split at hr
 ·
  obtain⟨g1,g2⟩:=brR hr;simp only[Tree.run,qLq,qM2] at g2;obtain⟨rfl,rfl⟩:=g2;refine⟨by simp[zK],fun b hb=>?_,(yU h' x).set k (.vec e sh m),?_,by simp[zK,hl],fun b hb=>?_,fun b hb=>?_⟩
  ·rw[qLt (fun e=>hk b hb e.symm),q3q (hx b hb)]
  ·simp only[if_pos hc,Tree.run,g1]
  ·rw[qLt (fun e=>hk b hb e.symm),q3q (hx b hb)]
  ·exact qhT (by simp[zK,hl]) fun _=>hfa b hb
 ·rename_i b0;split at hr
  case h_2=>cases hr
  rename_i e' sh'' l hbk;split at hr
  case isFalse=>cases hr
  rename_i hq;obtain⟨g1,g2⟩:=brR hr;simp only[Tree.run,qLq,qM2] at g2;obtain⟨rfl,rfl⟩:=g2;have hb0:b0∈R:=hR b0 (.inr (.inl (by simp[AV.men])));have hs:∀b,b∉R->b≠b0:=fun b hb e=>hb (e▸hb0);refine⟨by simp[zK],fun b hb=>?_,((yU h' x).set b0 .dead).set k (.vec e sh (kN l m)),?_,by simp[zK,hl],fun b hb=>?_,fun b hb=>?_⟩
  ·rw[qLt (fun e=>hk b hb e.symm),qLt (fun e=>hs b hb e.symm),q3q (hx b hb)]
  ·simp only[if_pos hc,H b0 hb0,hbk,if_pos hq,Tree.run,g1]
  ·rw[qLt (fun e=>hk b hb e.symm),qLt (fun e=>hs b hb e.symm),q3q (hx b hb)]
  ·exact qhT (by simp[zK,hl]) fun _=>qhT (by simp[zK,hl]) fun _=>hfa b hb
 ·
  rename_i sh'' l;split at hr
  case isFalse=>cases hr
  rename_i hq;obtain⟨g0,hr⟩:=brR hr;obtain⟨g1,g2⟩:=brR hr;simp only[Tree.run,qLq,qM2] at g2;obtain⟨rfl,rfl⟩:=g2;refine⟨by simp[zK],fun b hb=>?_,(yU h' x).set k (.vec e sh (kN l m)),?_,by simp[zK,hl],fun b hb=>?_,fun b hb=>?_⟩
  ·rw[qLt (fun e=>hk b hb e.symm),q3q (hx b hb)]
  ·simp only[if_pos hc,if_pos hq,Tree.run,g0,g1]
  ·rw[qLt (fun e=>hk b hb e.symm),q3q (hx b hb)]
  ·exact qhT (by simp[zK,hl]) fun _=>hfa b hb
 ·cases hr
theorem qqL (l m:List AV):AV.menL (l++m)=AV.menL l++AV.menL m:=by
 induction l with
 | nil=>rfl
 | cons a l ih=>simp only[qMr,AV.menL,ih,qM4]
theorem qw4 {h h':List Blk}{u:AV}{r:List Blk}{R:List Nat}(_:∀b,(b=k\/b∈AV.menL args)->b∈R)(_:∀b,b∈R->h'[b]?=h[b]?)(_:h'.length=h.length)(hr:(qta E h e args k).run=some (u,r)):r.length=h.length/\(∀b,b∉R->r[b]?=h[b]?)/\∃r',(qta E h' e args k).run=some (u,r')/\(∀b,b∉R->r'[b]?=h'[b]?)/\(∀b,b∈R->r'[b]?=r[b]?):=by unfold qta at hr;cases hr
theorem qFh {h h':List Blk}{ev:Operand->AV}{R:List Nat}(hR:qII E ev op=some R)(H:∀b,b∈R->h'[b]?=h[b]?):qmy E h' ev op=qmy E h ev op:=by
 unfold qmy;unfold qII at hR;cases hv:qin op with
 | false=>rfl
 | true=>
  rw[hv] at hR;simp only at hR ⊢;cases hc:jP ev op with
  | none=>rfl
  | some q=>
   obtain⟨f,args⟩:=q;rw[hc] at hR;simp only at hR ⊢;cases hs:qh1 E f with
   | none=>rfl
   | some G=>
    rw[hs] at hR;simp only[qLq] at hR ⊢;subst hR;rw[q2a args H];have:(args.flatMap w9).all (qkf h')=(args.flatMap w9).all (qkf h):=qyv fun b hb=>by unfold qkf;rw[H b (qul hb)]
    rw[this]
theorem qu0 {callS:List Blk->q7w}(hmo:q6s E callS){h h':List Blk}{ev:Operand->AV}{u:AV}{r:List Blk}{R:List Nat}(hR:(j5 E h ev op k u r).r=some R)(H:∀b,b∈R->h'[b]?=h[b]?) (hl:h'.length=h.length) (hr:(q5g E callS h ev op k).run=some (u,r)) :r.length=h.length/\(∀b,b∉(j5 E h ev op k u r).w->r[b]?=h[b]?)/\(q5g E callS h' ev op k).run=some (u,qe0 (j5 E h ev op k u r).w r h'):=by
 unfold q5g j5 at *;cases hloc:qrT E op with
 | false=>
  rw[hloc] at hr hR;simp only at hr hR ⊢;cases heff:qmy E h ev op with
  | true=>
   rw[heff] at hr hR;simp only[qLq] at hr hR ⊢;subst hR;obtain⟨q,k1,k2⟩:=bind_some hr;split at k2
   case h_2=>cases k2
   rename_i hbq;cases k2;have hg:=qMs hbq;obtain⟨g',q1,q2,q3,q4⟩:=qyT k1 hl H hg;have heff':qmy E h' ev op=true:=qFj heff H;refine⟨hg,fun b hb=>?_,?_⟩
   ·rcases qLy b h.length with hlt|hge
    ·exact qr4 k1 hlt hb
    ·rw[qLS hge,qLS (by simp only at hg;omega)]
   ·rw[heff'];simp only;rw[Tree.run_bind,q1];simp only[qLW];rw[show Nat.beq g'.length h'.length=true from by rw[q2];exact Nat.beq_refl _];simp only[Tree.run];rw[<-q2N (k':=g') (by simp only at hg;omega) q3 q4]
  | false=>
   rw[heff] at hr hR;simp only at hr hR ⊢;obtain⟨v,k1,k2⟩:=bind_some hr;simp only[Tree.run,qLq,qM2] at k2;obtain⟨rfl,rfl⟩:=k2;refine⟨rfl,fun _ _=>rfl,?_⟩;rw[qFh hR H,heff];simp only;rw[Tree.run_bind,qvN hmo hR H k1];simp only[qLW,Tree.run];rw[<-q2N (k':=h') hl.symm (fun b hb=>by cases hb) (fun _ _=>rfl)]
 | true=>
  rw[hloc] at hr hR;simp only[qLq] at hr hR ⊢;subst hR;have hk:=H k qLE;cases hdd:qtr h[k]? with
  | false=>rw[hdd] at hr;cases hr
  | true=>
   rw[hdd] at hr;rw[hk,hdd];simp only at hr ⊢;split at hr
   ·rename_i t len parts;obtain⟨q,k1,k2⟩:=bind_some hr;simp only[Tree.run,qLq,qM2] at k2;obtain⟨rfl,rfl⟩:=k2;refine⟨by simp,fun b hb=>?_,?_⟩
    ·simp only[qLx,not_or] at hb;rw[qLt (fun e=>hb.1 e.symm)]
    ·rw[qya hl,Tree.run_bind,k1];simp only[qLW,Tree.run];rw[<-q2N (k':=h'.set k q.2) (by simp[hl]) (fun b hb=>qhT hl fun _=>H b hb) (fun b hb=>by simp only[qLx,not_or] at hb;rw[qLt (fun e=>hb.1 e.symm)])]
   ·rename_i t;unfold quq at hr ⊢;split at hr
    case h_2=>cases hr
    split at hr
    case h_2=>cases hr
    simp only[Tree.run,qLq,qM2] at hr;obtain⟨rfl,rfl⟩:=hr;rename_i _ z hz _ hzm;refine⟨by simp,fun b hb=>?_,?_⟩
    ·simp only[qLx,not_or] at hb;rw[qLt (fun e=>hb.1 e.symm)]
    ·simp only[Tree.run];rw[<-q2N (k':=h'.set k z) (by simp[hl]) (fun b hb=>qhT hl fun _=>H b hb) (fun b hb=>by simp only[qLx,not_or] at hb;rw[qLt (fun e=>hb.1 e.symm)])]
   ·rename_i args tys;have hmen:qsb ev (.call { callee:=.builtin .append,args:=args,argTypes:=tys })=AV.menL (args.toList.map ev):=by unfold qsb jP;simp[Op.operands,Call.operands]
    rw[hmen] at H ⊢;unfold qys at hr ⊢;generalize args.toList.map ev=als at *;split at hr
    case h_2=>cases hr
    rename_i t t' sa xa htys;split at hr
    case isFalse=>cases hr
    rename_i htt;have hR':∀b,(b=k\/b∈sa.men\/b∈xa.men)->b∈k::AV.menL [sa,xa]:=by intro b hb;simp only[AV.menL,qMC,qLx,qLV];exact hb
    obtain⟨q1,q2,r',q3,q4,q5,q6⟩:=qwS hR' H hl hr;refine⟨q1,q2,?_⟩;simp only[if_pos htt];rw[q3,<-q2N (k':=r') (by rw[q1,hl]) q6 q5]
   ·unfold qu3 at hr ⊢;cases hc:qo6 op with
    | none=>rw[hc] at hr;cases hr
    | some q=>
    obtain⟨fn,xs⟩:=q;rw[hc] at hr;obtain⟨args,tys,rfl,rfl⟩:=qn3 hc;have hmen:qsb ev (.call { callee:=.value (.func fn),args:=args,argTypes:=tys })=AV.menL (args.toList.map ev)\/AV.menL (args.toList.map ev) ⊆ qsb ev (.call { callee:=.value (.func fn),args:=args,argTypes:=tys }):=by
     right;unfold qsb;cases hco:jP ev (.call { callee:=.value (.func fn),args:=args,argTypes:=tys }) with
     | none=>
      simp only[Op.operands,Call.operands,qNz,qM0];intro b hb;rw[qqL];exact qMf _ hb
     | some q=>
      obtain⟨g,azz⟩:=q;unfold jP at hco;simp only at hco;split at hco
      ·cases hco;intro b hb;simp only[qqL];exact qMq _ (qMf _ hb)
      ·cases hco
    have hsub:∀b,b∈AV.menL (args.toList.map ev)->b∈k::qsb ev (.call { callee:=.value (.func fn),args:=args,argTypes:=tys }):=by
     intro b hb;rcases hmen with e|e
     ·rw[e];exact qLO _ hb
     ·exact qLO _ (e hb)
    generalize qsb ev (.call { callee:=.value (.func fn),args:=args,argTypes:=tys })=M at *;simp only at hr ⊢;split at hr
    ·rename_i e hde;obtain⟨q1,q2,r',q3,q4,q5⟩:=qw4 (R:=k::M) (fun b hb=>hb.elim (fun e=>e▸qLE) (hsub b)) H hl hr;refine⟨q1,q2,?_⟩;rw[q3,<-q2N (k':=r') (by rw[q1,hl]) q5 q4]
    ·unfold qEn at hr ⊢;split at hr
     case h_2=>cases hr
     split at hr
     case h_2=>cases hr
     rename_i hme;obtain⟨q,k1,k2⟩:=bind_some hr;split at k2
     case h_2=>cases k2
     rename_i e sh l;simp only[Tree.run,qLq,qM2] at k2;obtain⟨rfl,rfl⟩:=k2;have hfr:∀c,c∈k::M->(qS h' ((args.toList.map ev).flatMap w9))[c]?=(qS h ((args.toList.map ev).flatMap w9))[c]?:=fun c hc=>qiG _ _ _ hl (H c hc);have hle:=q2a (args.toList.map ev) fun b hb=>hfr b (hsub b hb);have out:∀(g:List Blk) (c:Nat),c∉k::M->((qS g ((args.toList.map ev).flatMap w9)).set k (.vec e sh l))[c]?=g[c]?:=fun g c hc'=>by rw[qLt (fun e'=>hc' (by rw[<-e'];exact qLE)),qf4 _ _ fun hm=>hc' (hsub c (qul hm))]
     refine⟨by simp[yS],out h,?_⟩;rw[hle,hme];simp only;rw[Tree.run_bind,k1];simp only[qLW,Tree.run];rw[<-q2N (k':=(qS h' ((args.toList.map ev).flatMap w9)).set k (.vec e sh l)) (by simp[yS,hl]) (fun c hc'=>qhT (by simp[yS,hl]) fun _=>hfr c hc') (out h')]
def inR(r:Option (List Nat))(b:Nat):Prop:=∀R,r=some R->b∈R
theorem qx5 {callS:List Blk->q7w}{h g:List Blk}{ev:Operand->AV}{u:AV}(hR:(j5 E h ev op k u g).r=none)(hr:(q5g E callS h ev op k).run=some (u,g)):(j5 E h ev op k u g).w=[]/\g=h:=by
 unfold j5 at *;unfold q5g at hr;cases hl:qrT E op with
 | true=>rw[hl] at hR;cases hR
 | false=>
  rw[hl] at hR hr;simp only at hR hr ⊢;cases he:qmy E h ev op with
  | true=>rw[he] at hR;cases hR
  | false=>
   rw[he] at hr;obtain⟨v,k1,k2⟩:=bind_some hr;cases k2;exact⟨rfl,rfl⟩
theorem qjF {callS:List Blk->q7w}(hmo:q6s E callS){h h':List Blk}{ev:Operand->AV}{u:AV}{r:List Blk}(H:∀b,inR (j5 E h ev op k u r).r b->h'[b]?=h[b]?) (hl:h'.length=h.length) (hr:(q5g E callS h ev op k).run=some (u,r)) :r.length=h.length/\(∀b,b∉(j5 E h ev op k u r).w->r[b]?=h[b]?)/\(q5g E callS h' ev op k).run=some (u,qe0 (j5 E h ev op k u r).w r h'):=by
 cases hR:(j5 E h ev op k u r).r with
 | some R=>exact qu0 hmo hR (fun b hb=>H b fun R' e=>by rw[hR] at e;cases e;exact hb) hl hr
 | none=>
  have e:h'=h:=qMo fun b=>H b fun R e=>by rw[hR] at e;cases e
  subst e;obtain⟨hw,hg⟩:=qx5 hR hr;rw[hw];have:qe0 [] r h'=r:=by rw[hg];exact(q2N (k':=h') rfl (fun _ hb=>by cases hb) fun _ _=>rfl).symm
  rw[this];exact⟨by rw[hg],fun b _=>by rw[hg],hr⟩
theorem qwZ (_:E.tok P)(_:qnt P f e)(_:Sim E B X st a){vargs:List Value}(_:RepL X args vargs){r:AV×St}(h:(qCP E e args st).run=some r):Calls P f vargs.toArray X.w fun x w'=>∃v X',x=.returned v/\X'.w=w'/\Rep X' r.1 v/\Sim E B X' r.2 a:=by unfold qCP at h;cases h
end Go.Eng

namespace Go.Eng
variable {E:Env}{k:Nat}{op:Op}
inductive LocOK (E:Env) (callS:List Blk->q7w) (all:Array Oper) (c:Nat) (i:Nat) (o:Oper) (T:List AV) (v:AV) (h h':List Blk) (d:Option LDesc):Prop
 | out (h1:q6Z all o T=some false) (h2:v=.skip) (h3:h'=h) (h4:d=none)
 | op (u:AV) (h1:q6Z all o T=some true) (h2:(q5g E callS h (E.opd T) o.op c).run=some (u,h')) (h3:v=qy8 all i u) (h4:d=some (j5 E h (E.opd T) o.op c u h'))
   (h5:∀b,b∈(j5 E h (E.opd T) o.op c u h').v->b<h.length)
theorem qC2 {h g:List Blk}{ev:Operand->AV}{u:AV}{b:Nat}(hb:b∈u.men):b∈(j5 E h ev op k u g).v:=by
 unfold j5;split
 ·exact qMq _ hb
 ·split
  ·exact qMq _ hb
  ·exact hb
theorem qCM {h g:List Blk}{ev:Operand->AV}{u:AV}{b c:Nat}{z:Blk}(hb:b∈(j5 E h ev op k u g).w)(hz:g[b]?=some z)(hc:c∈z.menB):c∈(j5 E h ev op k u g).v:=by
 unfold j5 at *;split at hb
 ·exact qMf _ (qlX hz hc _ hb)
 ·split at hb
  ·exact qMf _ (qlX hz hc _ hb)
  ·cases hb
theorem qwG {h g:List Blk}{ev:Operand->AV}{u:AV}(hl:qrT E op=true):(j5 E h ev op k u g).s=some k:=by unfold j5;rw[hl]
theorem qt2{E:Env}{callS:List Blk->q7w}{all:Array Oper}{anc:List Nat}:∀(l:List Oper) (k c:Nat) (ds:List (Nat×LDesc)) (st st':St),
  (qyf E callS all anc k l c ds st).run=some st' ->
  ∃(V:Nat->AV) (H:Nat->List Blk) (D:Nat->Option LDesc) (S:Nat->Nat),(∀j,c<=S (k+j))/\H k=st.h/\st'={ st with t:=qe6 V k l st.t,h:=H (k+l.length) } /\
   (∀j o,l[j]?=some o->LocOK E callS all (S (k+j)) (k+j) o (qe6 V k (l.take j) st.t) (V (k+j)) (H (k+j)) (H (k+j+1)) (D (k+j))) /\
   (∀j d,j<l.length->D (k+j)=some d->∀x,x∈ds->qih anc x (k+j) d=true) /\
   (∀j j' d d',j<j'->j'<l.length->D (k+j)=some d->D (k+j')=some d'->qih anc (k+j,d) (k+j') d'=true)
 | [],k,c,ds,st,st',h=>by
  simp only[qyf,Tree.run,qLq] at h;subst h;exact⟨fun _=>.undef,fun _=>st.h,fun _=>none,fun _=>c,fun _=>qLs _,rfl,rfl,fun j o hj=>by simp at hj,fun j d hj=>by simp at hj,fun j j' _ _ _ hj=>by simp at hj⟩
 | o::rest,k,c,ds,st,st',h=>by
  have fin:∀(v:AV) (h':List Blk) (d:Option LDesc) (c':Nat) (ds':List (Nat×LDesc)),c<=c'->LocOK E callS all c k o st.t v st.h h' d->(∀d0,d=some d0->∀x,x∈ds->qih anc x k d0=true)->(∀x,x∈ds->x∈ds')->(∀d0,d=some d0->(k,d0)∈ds') ->
    (qyf E callS all anc (k+1) rest c' ds' { st with t:=qjp st.t o.dst v,h:=h' }).run=some st' ->
    ∃(V:Nat->AV) (H:Nat->List Blk) (D:Nat->Option LDesc) (S:Nat->Nat),(∀j,c<=S (k+j))/\H k=st.h/\st'={ st with t:=qe6 V k (o::rest) st.t,h:=H (k+(o::rest).length) } /\
   (∀j o',(o::rest)[j]?=some o'->LocOK E callS all (S (k+j)) (k+j) o' (qe6 V k ((o::rest).take j) st.t) (V (k+j)) (H (k+j)) (H (k+j+1)) (D (k+j))) /\
   (∀j d,j<(o::rest).length->D (k+j)=some d->∀x,x∈ds->qih anc x (k+j) d=true) /\
   (∀j j' d d',j<j'->j'<(o::rest).length->D (k+j)=some d->D (k+j')=some d'->qih anc (k+j,d) (k+j') d'=true):=by
   intro v h' d c' ds' hcc hmx hcr hds hd hr;obtain⟨V,H,D,S,e0,e1,e2,e3,e4,e5⟩:=qt2 rest (k+1) c' ds' _ st' hr;have hfold:∀(l:List Oper) (t:List AV),qe6 (fun j=>if j=k then v else V j) (k+1) l t=qe6 V (k+1) l t:=fun l t=>qqA l (k+1) t fun j hj=>if_neg (by omega);refine⟨fun j=>if j=k then v else V j,fun j=>if j=k then st.h else H j,fun j=>if j=k then d else D j,fun j=>if j=k then c else S j,fun j=>?_,by simp,?_,?_,?_,?_⟩
   ·cases j with
    | zero=>simp
    | succ j=>
     have:=e0 j;simp only[show k+(j+1)=k+1+j by omega,show ¬k+1+j=k by omega,if_false];omega
   ·rw[e2];simp only[qe6,if_true,qM5];rw[hfold,if_neg (by omega),show k+(rest.length+1)=k+1+rest.length by omega]
   ·intro j o' hj;cases j with
    | zero=>
     simp only[qMO,qLq] at hj;subst hj;simp only[qM8,if_true,List.take_zero,qe6];rw[if_neg (by omega),e1];exact hmx
    | succ j=>
     have:=e3 j o' (by simpa using hj);simp only[List.take_succ_cons,qe6,if_true];rw[hfold,show k+(j+1)=k+1+j by omega,if_neg (by omega),if_neg (by omega),if_neg (by omega),if_neg (by omega),if_neg (by omega)];exact this
   ·intro j d0 hj hdj x hx;cases j with
    | zero=>simp only[qM8,if_true] at hdj ⊢;exact hcr d0 hdj x hx
    | succ j=>
     simp only at hdj;rw[show k+(j+1)=k+1+j by omega,if_neg (by omega)] at hdj;have:=e4 j d0 (by simpa using hj) hdj x (hds x hx);rw[show k+(j+1)=k+1+j by omega];exact this
   ·intro j j' d0 d0' hjj hj' hdj hdj';obtain⟨j'',rfl⟩:∃x,j'=x+1:=⟨j'-1,by omega⟩;have hl:j''<rest.length:=by simpa using hj'
    simp only at hdj hdj';rw[show k+(j''+1)=k+1+j'' by omega,if_neg (by omega)] at hdj';rw[show k+(j''+1)=k+1+j'' by omega];cases j with
    | zero=>
     simp only[qM8,if_true] at hdj ⊢;exact e4 j'' d0' hl hdj' _ (hd d0 hdj)
    | succ j=>
     rw[show k+(j+1)=k+1+j by omega,if_neg (by omega)] at hdj;rw[show k+(j+1)=k+1+j by omega];exact e5 j j'' d0 d0' (by omega) hl hdj hdj'
  simp only[qyf] at h;cases hw:q6Z all o st.t with
  | none=>rw[hw] at h;cases h
  | some b=>
   rw[hw] at h;cases b with
   | true=>
    simp only at h;obtain⟨r,h1,h2⟩:=bind_some h;split at h2
    ·rename_i hall;simp only[qLN,qLZ] at hall;obtain⟨c2,c3⟩:=hall;obtain⟨s,h3,h4⟩:=bind_some h2;obtain⟨u,h'⟩:=r;obtain rfl:=qEf (st:={ st with h:=h' }) h3;exact fin _ h' (some (j5 E st.h (E.opd st.t) o.op c u h')) _ _ (by split<;>omega) (.op u hw h1 rfl rfl fun b hb=>Nat.blt_eq.mp (c2 b hb)) (fun d0 he x hx=>by cases he;exact c3 x hx) (fun x hx=>qMq _ hx) (fun d0 he=>by cases he;exact qMf _ qLE) h4
    ·cases h2
   | false=>
    simp only at h;exact fin .skip st.h none c ds (qLs _) (.out hw rfl rfl rfl) (fun d0 he=>by cases he) (fun x hx=>hx) (fun d0 he=>by cases he) h
section
variable (W:Nat->List Nat) (H:Nat->List Blk) (h0:List Blk)
def hLp(L:Nat->Bool):Nat->List Blk
 | 0=>h0
 | m+1=>if L m=true then qe0 (W m) (H (m+1)) (hLp L m) else hLp L m
variable {W H h0}
theorem qbF(L:Nat->Bool):∀m,(hLp W H h0 L m).length=h0.length
 | 0=>rfl
 | m+1=>by simp only[hLp];split<;>simp[qBk,qbF L m]
theorem qy1{L:Nat->Bool}{b lo:Nat}:∀m,lo<=m->(∀j,lo<=j->j<m->L j=true->b∉W j)->(hLp W H h0 L m)[b]?=(hLp W H h0 L lo)[b]?
  | 0, h, _ => by have : lo = 0 := by omega
                  rw[this]
  | m+1,h,hj=>by
    rcases qN4 h with rfl|h
    · rfl
    · rw[<-qy1 m (by omega) fun j h1 h2=>hj j h1 (by omega)]
      simp only[hLp];split
      · rename_i hl
        exact qir (hj m (by omega) (by omega) hl)
      · rfl
theorem quT{L L':Nat->Bool}{b:Nat}(hH:∀m,(H m).length=h0.length):∀m,(∀j,j<m->b∈W j->L j=L' j)->(hLp W H h0 L m)[b]?=(hLp W H h0 L' m)[b]?
 | 0,_=>rfl
 | m+1,hj=>by
  have ih:=quT (L:=L) (L':=L') hH m fun j h1=>hj j (by omega);by_cases hb:b∈W m
  ·have:=hj m (by omega) hb;simp only[hLp];rw[this];split
   ·rw[qhk hb (by rw[qbF,hH]),qhk hb (by rw[qbF,hH])]
   ·exact ih
  ·have out:∀L:Nat->Bool,(hLp W H h0 L (m+1))[b]?=(hLp W H h0 L m)[b]?:=fun L=>by
    simp only[hLp];split
    ·exact qir hb
    ·rfl
   rw[out,out,ih]
theorem qrK{L L':Nat->Bool}:∀m,(∀j,j<m->L j=L' j)->hLp W H h0 L m=hLp W H h0 L' m
 | 0,_=>rfl
 | m+1,h=>by
  simp only[hLp];rw[h m (qNk m),qrK m fun j hj=>h j (by omega)]
theorem qBQ(hk:∀i,(H (i+1)).length=(H i).length/\∀b,b∉W i->(H (i+1))[b]?=(H i)[b]?)(h1:H 0=h0):∀m,hLp W H h0 (fun _=>true) m=H m
 | 0=>h1.symm
 | m+1=>by
  simp only[hLp,if_true];rw[qBQ hk h1 m];exact(q2N (hk m).1 (fun _ _=>rfl) (hk m).2).symm
theorem qD9 {L:Nat->Bool}{i m:Nat}(hi:i<m)(hL:L i=false)(hH:∀m,(H m).length=h0.length)(hu:∀j,i<j->j<m->L j=true->∀b,b∈W i->b∉W j) :hLp W H h0 (fun j=>if j=i then true else L j) m=qe0 (W i) (H (i+1)) (hLp W H h0 L m):=by
 refine q2N (by rw[hH,qbF]) (fun b hb=>?_) (fun b hb=>?_)
 ·rw[qy1 (lo:=i+1) m (by omega) fun j h1 h2 h3=>hu j (by omega) h2 (by rwa [if_neg (by omega)] at h3) b hb];simp only[hLp,if_true];exact qhk hb (by rw[qbF,hH])
 ·refine quT hH m fun j _ hbj=>if_neg fun e=>?_;subst e;exact hb hbj
theorem qI5 {h:List Blk}{c:Nat}(hb:∀(b:Nat) (k:Blk),h[b]?=some k->c∉k.menB):c∉qdb h:=by
 induction h with
 | nil=>intro h;cases h
 | cons k h ih=>
  simp only[qdb,qLV,not_or];exact⟨hb 0 k rfl,ih fun b k' hk=>hb (b+1) k' (by simpa using hk)⟩
theorem qBS{L:Nat->Bool}{c:Nat}(hH:∀m,(H m).length=h0.length)(h1:c∉qdb h0):∀m,(∀j,j<m->L j=true->∀b z,b∈W j->(H (j+1))[b]?=some z->c∉z.menB)->c∉qdb (hLp W H h0 L m)
 | 0,_=>h1
 | m+1,h2=>by
  have ih:=qBS (L:=L) hH h1 m fun j hj=>h2 j (by omega);simp only[hLp];split
  ·rename_i hL;refine qI5 fun b k hk=>?_;by_cases hb:b∈W m
   ·rw[qhk hb (by rw[qbF,hH])] at hk;exact h2 m (qNk m) hL b k hb hk
   ·rw[qir hb] at hk;exact qpr ih hk
  ·exact ih
end
theorem qsV {w:List Nat}{r:Option (List Nat)}(h:qG2 w r=true):∀b,b∈w->¬inR r b:=by
 intro b hb hi;cases w with
 | nil=>cases hb
 | cons a w=>
  cases r with
  | none=>cases h
  | some R=>
   simp only[qG2,qLZ,qN9,List.contains_eq_mem,decide_eq_false_iff_not] at h;exact h b hb (hi R rfl)
def wOf(D:Nat->Option LDesc)(j:Nat):List Nat:=match D j with
 | some d=>d.w
 | none=>[]
theorem qzU {v:List Nat}(h:qKt (some k) v=false):k∉v:=by simpa[qKt] using h
theorem qKn {h g:List Blk}{ev:Operand->AV}{u:AV}{R:List Nat}(hR:(j5 E h ev op k u g).r=some R):∀b,b∈(j5 E h ev op k u g).w->b∈R:=by
 unfold j5 at *;split at hR
 ·simp only[qLq] at hR;subst hR;exact fun b hb=>hb
 ·split at hR
  ·simp only[qLq] at hR;subst hR;exact fun b hb=>qMf _ hb
  ·intro b hb;cases hb
section
variable {E:Env} {P:Program} {callS:List Blk->q7w} {B:Base} {all:Array Oper} {V:Nat->AV} {T0:List AV} {H:Nat->List Blk} {D:Nat->Option LDesc} {fs:List (List AV)} {pd:Option Ex} {Q:Exit->Act->World->Prop} {n0 m base:Nat} {S:Nat->Nat}
theorem qDV (hE:E.tok P)(hS:E.specs P)(hc:qkr E P callS)(hmo:q6s E callS)(hd:DrawOk all)(hms:m<=all.size)(hV:∀i o,all[i]?=some o->i<m->LocOK E callS all (S i) i o (TLp (uw all) V T0 (fun _=>true) i) (V i) (H i) (H (i+1)) (D i))(hX:∀i j d d',i<j->j<m->D i=some d->D j=some d'->qih (qgO all.toList) (i,d) j d'=true)(hcon:∀i,m<=i->H i=H m) (_:∀i,m<=i->D i=none)(hlen:base<=(H 0).length) (hSb:∀i,base<=S i) (hT0:∀c,base<=c->c∉AV.menL T0) (hfs:∀c,base<=c->c∉qmF fs) (hH0:∀c,base<=c->c∉qdb (H 0))(hq:all.size<=m->∀X a,Sim E B X { t:=TLp (uw all) V T0 (fun _=>true) all.size,fs:=fs,pend:=pd,h:=H m } a->Q .normal a X.w)(hlast:∀i fuel listed X a,i<all.size->m<=i->listed.size=all.size->i∈Region.ready .any all listed->qob all (fun j=>listed.getD j false)->(∀j,m<=j->j<all.size->listed.getD j false=false)->(∀j,j<m->listed.getD j false=true) ->Sim E B X { t:=TLp (uw all) V T0 (fun j=>listed.getD j false) all.size,fs:=fs,pend:=pd,h:=H m } a ->unl listed all.size<=fuel+1->wpOpIn (q5e B.ro) n0 P all Q i (wpAnyIn (q5e B.ro) n0 P .any all Q fuel (listed.setIfInBounds i true)) a X.w)(hsuf:∀i j,m<=i->i<all.size->j<i->((qgO all.toList).getD i 0).testBit j=true) :∀(fuel:Nat) (listed:Array Bool) (X:Ctx) (a:Act),listed.size=all.size->qob all (fun j=>listed.getD j false)->(∀i,m<=i->i<all.size->listed.getD i false=false) ->unl listed all.size<=fuel->Sim E B X { t:=TLp (uw all) V T0 (fun j=>listed.getD j false) all.size,fs:=fs,pend:=pd,h:=hLp (wOf D) H (H 0) (fun j=>listed.getD j false) m } a->wpAnyIn (q5e B.ro) n0 P .any all Q fuel listed a X.w:=by
 intro fuel;have step:∀i,(H (i+1)).length=(H i).length/\∀b,b∉wOf D i->(H (i+1))[b]?=(H i)[b]?:=by
  intro i;rcases qLy i m with him|him
  ·have hi:i<all.size:=by omega
   cases hV i _ (qNf hi) him with
   | out h1 h2 h3 h4=>rw[h3];exact⟨rfl,fun _ _=>rfl⟩
   | op u h1 h2 h3 h4 h5=>
    obtain⟨q1,q2,_⟩:=qjF (h':=H i) hmo (fun _ _=>rfl) rfl h2;refine⟨q1,?_⟩;unfold wOf;rw[h4];exact q2
  ·rw[hcon i him,hcon (i+1) (by omega)];exact⟨rfl,fun _ _=>rfl⟩
 have hlenA:∀i,(H i).length=(H 0).length:=by
  intro i;induction i with
  | zero=>rfl
  | succ i ih=>rw[(step i).1,ih]
 have hall:∀i,hLp (wOf D) H (H 0) (fun _=>true) i=H i:=qBQ step rfl;have toEnd:∀(listed:Array Bool),(∀j,j<m->listed.getD j false=true)->hLp (wOf D) H (H 0) (fun j=>listed.getD j false) m=H m:=by intro listed h;rw[<-hall m];exact qrK m h
 have fin:∀(listed:Array Bool) (X:Ctx) (a:Act),listed.size=all.size->(∀i,m<=i->i<all.size->listed.getD i false=false)->Region.ready .any all listed=[] ->
   Sim E B X { t:=TLp (uw all) V T0 (fun j=>listed.getD j false) all.size,fs:=fs,pend:=pd,h:=hLp (wOf D) H (H 0) (fun j=>listed.getD j false) m } a->Q .normal a X.w:=by
  intro listed X a hsz hm hr hs;have hal:=qwL hd hsz hr;rcases qLy m all.size with hlt|hge
  ·have:=hm m (qLs _) hlt;rw[hal m hlt] at this;cases this
  ·rw[toEnd listed fun j hj=>hal j (by omega)] at hs;rw[stL (L':=fun _=>true) all.size fun j hj=>hal j hj] at hs;exact hq hge X a hs
 induction fuel with
 | zero=>
  intro listed X a hsz hcl hm hu hs;have hr:Region.ready .any all listed=[]:=by
   apply List.eq_nil_iff_forall_not_mem.2;intro j hj;rw[mem_ready] at hj;obtain⟨h1,o,h2,_⟩:=hj;have hj':=(qLw.1 h2).1;have:=qv3 (listed:=listed) (Nat.le_zero.1 hu) j hj';have hj2:j<listed.size:=by omega
   simp[hj2] at this h1;rw[this] at h1;cases h1
  exact⟨hr,fin listed X a hsz hm hr hs⟩
 | succ fuel ih=>
  intro listed X a hsz hcl hm hu hs;refine⟨fun hr=>fin listed X a hsz hm hr hs,fun i hi=>?_⟩;have hri:=hi;rw[mem_ready] at hi;obtain⟨h1,o,ho,hedge⟩:=hi;have hin:=(qLw.1 ho).1;have hil:i<listed.size:=by omega
  have hLi:listed.getD i false=false:=by simpa[qMR,hil] using h1
  have hedge':∀e,e∈o.after.toList->Region.binds .any e=true->listed.getD e.on false=true:=fun e he hb=>hedge e (by simpa using he) hb;have hcl':=qnO hsz ho hcl hedge';have before:∀k,k≠i->qJY (qgO all.toList) i k=true->listed.getD k false=true:=by
   intro k hki hk;have:=qtm hd hcl' i k (by show (listed.setIfInBounds i true).getD i false=true;rw[q1w hil,if_pos rfl]) hk;have h':(listed.setIfInBounds i true).getD k false=true:=this
   rwa [q1w hil,if_neg hki] at h'
  have behind:∀k,qJY (qgO all.toList) k i=true->listed.getD k false=false:=by
   intro k hk;cases hl:listed.getD k false with
   | false=>rfl
   | true=>
    have:=qtm hd hcl k i hl hk;have h':listed.getD i false=true:=this;rw[hLi] at h';cases h'
  rcases qLy i m with him|him
  ·have hv:=hV i o ho him;have hsame:∀t,t∈qBv all o->(TLp (uw all) V T0 (fun j=>listed.getD j false) all.size)[t]?=(TLp (uw all) V T0 (fun _=>true) i)[t]?:=fun t ht=>
    qHh hd hcl ho (Nat.le_of_lt hin) hLi hedge' ht
   have hopd:∀x,x∈o.op.operands.toList->E.opd (TLp (uw all) V T0 (fun j=>listed.getD j false) all.size) x=E.opd (TLp (uw all) V T0 (fun _=>true) i) x:=fun x hx=>by
    cases x with
    | tmp t=>
     have:=hsame t (qMq _ (List.mem_filterMap.2 ⟨.tmp t,hx,rfl⟩));simp only[Env.opd,qLr];rw[this]
    | const v=>rfl
    | global g=>rfl
    | func f=>rfl
   have hwant:q6Z all o (TLp (uw all) V T0 (fun j=>listed.getD j false) all.size)=q6Z all o (TLp (uw all) V T0 (fun _=>true) i):=by
    unfold q6Z;cases hg:o.guard with
    | none=>rfl
    | some p=>
     obtain⟨j,want⟩:=p;simp only;cases hj:(all[j]?).bind (·.dst) with
     | none=>rfl
     | some d=>
      simp only;rw[hsame d (by simp[qBv,hg,hj])]
   have hun:unl (listed.setIfInBounds i true) all.size<=fuel:=by have:=(qyE hil hLi all.size).2 hin;omega
   have hdi:uw all i=o.dst:=by simp[uw,ho]
   have hnext:∀(X':Ctx) (u:Value),Sim E B X' { t:=TLp (uw all) V T0 (fun j=>listed.getD j false) all.size,fs:=fs,pend:=pd,h:=hLp (wOf D) H (H 0) (fun j=>(listed.setIfInBounds i true).getD j false) m } a->Rep X' (V i) u ->
     wpAnyIn (q5e B.ro) n0 P .any all Q fuel (listed.setIfInBounds i true) (a.put o.dst u) X'.w:=by
    intro X' u hs' hu';refine ih _ X' _ (by simp[hsz]) hcl' ?_ hun ?_
    ·intro k hk1 hk2;rw[q1w hil,if_neg (by omega)];exact hm k hk1 hk2
    ·have hput:=hs'.put hu' o.dst;have hT:TLp (uw all) V T0 (fun j=>(listed.setIfInBounds i true).getD j false) all.size=qjp (TLp (uw all) V T0 (fun j=>listed.getD j false) all.size) o.dst (V i):=by
      rw[<-hdi,<-qHK hin hLi]
      ·exact stL all.size fun j _=>q1w hil
      ·intro k hk hki t ht he;cases hk':all[k]? with
       | none=>simp[uw,hk'] at he
       | some ok=>
        simp only[uw,hk',qLW] at he;rw[hdi] at ht;exact(hd.dst i k o ok ho hk' hki t he).1 ht
     rw[hT];exact hput
   have hLset:hLp (wOf D) H (H 0) (fun j=>(listed.setIfInBounds i true).getD j false) m=hLp (wOf D) H (H 0) (fun j=>if j=i then true else listed.getD j false) m:=qrK m fun j _=>q1w hil;unfold wpOpIn;rw[ho];simp only;cases hv with
   | out w1 w2 w3 w4=>
    rw[qa7 hs.t (hwant.trans w1)];simp only[qLQ,if_false];refine⟨fun _ _=>trivial,hnext X _ ?_ (by rw[w2];exact .skip)⟩;rw[hLset,qD9 him hLi hlenA (fun j _ _ _ b hb=>by unfold wOf at hb;rw[w4] at hb;cases hb)];have:wOf D i=[]:=by unfold wOf;rw[w4]
    rw[this,<-q2N (k':=hLp (wOf D) H (H 0) (fun j=>listed.getD j false) m) (by rw[hlenA,qbF]) (fun b hb=>by cases hb) (fun _ _=>rfl)];exact hs
   | op u w1 w2 w3 w4 w5=>
    rw[qa7 hs.t (hwant.trans w1)];simp only[if_true];have hwi:wOf D i=(j5 E (H i) (E.opd (TLp (uw all) V T0 (fun _=>true) i)) o.op (S i) u (H (i+1))).w:=by unfold wOf;rw[w4]
    obtain⟨d0,hd0⟩:∃d0,d0=(j5 E (H i) (E.opd (TLp (uw all) V T0 (fun _=>true) i)) o.op (S i) u (H (i+1))):=⟨_,rfl⟩;have wr:∀j b,inR d0.r b->b∈wOf D j->j<m->j≠i->(j<i->qJY (qgO all.toList) i j=true)/\(i<j->qJY (qgO all.toList) j i=true):=by
     intro j b hb hbj hjm hji;cases hDj:D j with
     | none=>unfold wOf at hbj;rw[hDj] at hbj;cases hbj
     | some dj=>
      have hbj':b∈dj.w:=by unfold wOf at hbj;rw[hDj] at hbj;exact hbj
      refine⟨fun hlt=>?_,fun hlt=>?_⟩
      ·have:=hX j i dj _ hlt him hDj w4;unfold qih at this;simp only[qLN,qMW] at this;rcases this.2 with h3|h3
       ·exact h3
       ·rw[<-hd0] at h3;exact absurd hb (qsV h3.2.1 b hbj')
      ·have:=hX i j _ dj hlt hjm w4 hDj;unfold qih at this;simp only[qLN,qMW] at this;rcases this.2 with h3|h3
       ·exact h3
       ·rw[<-hd0] at h3;exact absurd hb (qsV h3.2.2 b hbj')
    have hat:∀b,inR d0.r b->(hLp (wOf D) H (H 0) (fun j=>listed.getD j false) m)[b]?=(H i)[b]?:=by
     intro b hb;rw[<-hall i,qy1 (lo:=i) m (by omega) fun j h3 h4 h5 h6=>?_]
     ·refine quT hlenA i fun j h3 h4=>?_;exact before j (by omega) ((wr j b hb h4 (by omega) (by omega)).1 h3)
     ·have hji:j≠i:=fun e=>by rw[e,hLi] at h5;cases h5
      have:=behind j ((wr j b hb h6 h4 hji).2 (by omega));rw[this] at h5;cases h5
    have hln:(hLp (wOf D) H (H 0) (fun j=>listed.getD j false) m).length=(H i).length:=by rw[qbF];exact(hlenA i).symm
    obtain⟨_,_,hrun⟩:=qjF hmo (hd0▸hat) hln w2;have hnew:hLp (wOf D) H (H 0) (fun j=>(listed.setIfInBounds i true).getD j false) m=qe0 (wOf D i) (H (i+1)) (hLp (wOf D) H (H 0) (fun j=>listed.getD j false) m):=by rw[hLset,qD9 him hLi hlenA fun j h3 h4 h5 b hb hbj=>?_];have:=behind j ((wr j b (fun R hR=>qKn (hd0▸hR) b (hwi▸hb)) hbj h4 (by omega)).2 h3);rw[this] at h5;cases h5
    rw[<-hwi,<-hnew,<-qvd hopd] at hrun;have ups:∀j,j<all.size->listed.getD j false=true->j<m/\j≠i:=fun j hj hLj=>by
     refine⟨?_,fun e=>by rw[e,hLi] at hLj;cases hLj⟩;rcases qLy j m with h|h
     ·exact h
     ·rw[hm j h hj] at hLj;cases hLj
    have free:∀c,base<=c->(∀j d,j<m->listed.getD j false=true->D j=some d->c∉d.v)->c∉AV.menL (TLp (uw all) V T0 (fun j=>listed.getD j false) all.size)/\c∉qdb (hLp (wOf D) H (H 0) (fun j=>listed.getD j false) m):=by
     intro c hbc hno;refine⟨qCc (hT0 _ hbc) _ fun j hj hLj=>?_,qBS hlenA (hH0 _ hbc) m fun j hj hLj b z hb hz=>?_⟩
     ·have hjm:=(ups j hj hLj).1;cases hV j _ (qNf hj) hjm with
      | out _ q2 _ _=>rw[q2];simp[AV.men]
      | op uj _ _ q3 q4 _=>
       rw[q3];exact qDY fun hmm=>hno j _ hjm hLj q4 (qC2 hmm)
     ·cases hV j _ (qNf (by omega)) hj with
      | out _ _ _ q4=>unfold wOf at hb;rw[q4] at hb;cases hb
      | op uj _ _ _ q4 _=>
       unfold wOf at hb;rw[q4] at hb;exact fun hmm=>hno j _ hj hLj q4 (qCM hb hz hmm)
    cases hloc:qrT E o.op with
    | true=>
     obtain⟨f1,f2⟩:=free (S i) (hSb i) fun j d hj hLj q4 hmm=>by
      obtain⟨_,hji⟩:=ups j (by omega) hLj;rcases qLy j i with h3|h3
      ·have:=hX j i _ _ h3 him q4 w4;unfold qih at this;rw[qwG hloc] at this;simp only[qLN,qN9] at this;exact qzU this.1 hmm
      ·have:=hX i j _ _ (by omega) hj w4 q4;unfold qih at this;simp only[qwG hloc] at this;simp only[qLN,qMW,qN9] at this;rcases this.2 with h4|h4
       ·rw[behind j h4] at hLj;cases hLj
       ·exact qzU h4.1 hmm
     obtain⟨g1,g2⟩:=free (H 0).length hlen fun j d hj hLj q4 hmm=>by
      cases hV j _ (qNf (show j<all.size by omega)) hj with
      | out _ _ _ q5=>rw[q5] at q4;cases q4
      | op uj _ _ _ q5 q6=>
       rw[q5] at q4;cases q4;have:=q6 _ hmm;rw[hlenA j] at this;omega
     refine qrv B.ro n0 (quH hE hS hs hrun hloc f2 f1 (hfs _ (hSb i)) ?_ ?_ ?_ fun X' v hs' hv'=>hnext X' v hs' (by rw[w3];exact qqk hv')) (fun c hcc=>by rw[hcc] at hloc;cases hloc)
     ·rw[qbF];exact g2
     ·rw[qbF];exact g1
     ·rw[qbF];exact hfs _ hlen
    | false=>
     unfold q5g at hrun;rw[hloc] at hrun;simp only at hrun;split at hrun
     ·obtain⟨q,k1,k2⟩:=bind_some hrun;split at k2
      case h_2=>cases k2
      cases k2;obtain⟨p1,p2⟩:=qxl hE hS hs k1 fun X' v hs' hv'=>hnext X' v hs' (by rw[w3];exact qqk hv');exact qrv B.ro n0 p1 p2
     obtain⟨av,k1,k2⟩:=bind_some hrun;simp only[Tree.run,qLq,qM2] at k2;obtain⟨rfl,k2⟩:=k2;refine qrv B.ro n0 (qv2 hE hc hs k1 fun X' v hs' hv'=>hnext X' v (by rw[<-k2];exact hs') (by rw[w3];exact qqk hv')) (fun c hcc=>by rw[hcc] at k1;simp[qdy,qdd,Tree.run] at k1)
  ·have hallb:∀j,j<m->listed.getD j false=true:=fun j hj=>before j (by omega) (hsuf i j him hin (by omega));rw[toEnd listed hallb] at hs;exact hlast i fuel listed X a hin him hsz hri hcl hm hallb hs hu
end
theorem qvP {P:Program}(hm:P.follows .mixedOrders=true)(hE:E.tok P)(hS:E.specs P){callH:q97}{B:Base}(hcH:CallOK E P callH B){callS:List Blk->q7w}(hc:qkr E P callS)(hmo:q6s E callS){id:Nat}{all:Array Oper}{X:Ctx}{st st':St}{a:Act}(hs:Sim E B X st a) (h:(qEq E callH callS all st).run=some st') {Q:Exit->Act->World->Prop} {n0:Nat} (hq:∀X' a',Sim E B X' st' a'->Q .normal a' X'.w):(Code.region id all true).wpIn (q5e B.ro) n0 P Q a X.w:=by
 apply wpIn_region_any hm;have hs1:=hs.drawn (X.w.drawn+1);generalize hX1:({ X with w:={ X.w with drawn:=X.w.drawn+1 } }:Ctx)=X1 at hs1;have hw:({ X.w with drawn:=X.w.drawn+1 }:World)=X1.w:=by rw[<-hX1]
 rw[hw];obtain⟨T0,fs,hb,pd⟩:=st;unfold qEq at h;by_cases hdb:qCx all=false
 ·rw[if_pos hdb] at h;cases h
 ·rw[if_neg hdb] at h;have hd:=qG3 (by simpa using hdb:qCx all=true);have hcl0:qob all fun j=>(Array.replicate all.size false).getD j false:=by intro i o _ hL;have hL':(Array.replicate all.size false).getD i false=true:=hL;rw[qua] at hL';cases hL'
  have hdst:uw all=fun i=>(all.toList[i]?).bind (·.dst):=by funext i;simp[uw]
  have hsl:=qFY all;have lt:∀b,(b∈AV.menL T0\/b∈qmF fs)\/b∈qdb hb->b<hb.length:=fun b hb'=>by
   have hh:X.h=hb:=hs.h;rw[<-hh];rcases hb' with (h'|h')|h'
   ·exact hs.t.inB _ h'
   ·exact hs.fs.inB _ h'
   ·exact hs.hs.inB _ (by rw[hh];exact h')
  obtain⟨r,h1,h2⟩:=bind_some h;obtain⟨V,H0,D0,S,eS,e0,e1,e2,_,e5⟩:=qt2 _ 0 _ [] _ r h1;simp only[qMe] at eS e1 e2 e5;have htlen:(all.toList.take (kT all)).length=kT all:=by simp;omega
  obtain⟨H,hH1,hH2⟩:∃H:Nat->List Blk,(∀i,i<=kT all->H i=H0 i)/\∀i,kT all<=i->H i=H (kT all):=
   ⟨fun i=>if i<=kT all then H0 i else H0 (kT all),fun i hi=>if_pos hi,fun i hi=>by
    simp only[qLs,if_true];split
    ·rw[show i=kT all by omega]
    ·rfl⟩
  obtain⟨D,hD1,hD2⟩:∃D:Nat->Option LDesc,(∀i,i<kT all->D i=D0 i)/\∀i,kT all<=i->D i=none:=
   ⟨fun i=>if i<kT all then D0 i else none,fun i hi=>if_pos hi,fun i hi=>if_neg (by omega)⟩
  have htk:∀i,i<kT all->(all.toList.take (kT all))[i]?=all[i]?:=by intro i hi;rw[qMx,if_pos hi];simp
  have hTm:∀i,i<=kT all->TLp (uw all) V T0 (fun _=>true) i=qe6 V 0 ((all.toList.take (kT all)).take i) T0:=by intro i hi;rw[hdst,qER i (by simp;omega),List.take_take,qMI hi]
  have hVA:∀i o,all[i]?=some o->i<kT all->LocOK E callS all (S i) i o (TLp (uw all) V T0 (fun _=>true) i) (V i) (H i) (H (i+1)) (D i):=by intro i o ho hi;rw[hTm i (by omega),hH1 i (by omega),hH1 (i+1) (by omega),hD1 i hi];exact e2 i o (by rw[htk i hi];exact ho)
  have hs0:∀(X':Ctx) (a':Act),Sim E B X' { t:=TLp (uw all) V T0 (fun _=>true) (kT all),fs:=fs,pend:=pd,h:=H (kT all) } a'->Sim E B X' r a':=by
   intro X' a' hs';have:r={ t:=TLp (uw all) V T0 (fun _=>true) (kT all),fs:=fs,pend:=pd,h:=H (kT all) }:=by rw[hTm _ (qLs _),e1,qNH (i:=kT all) (l:=all.toList.take (kT all)) (by simp;omega),htlen,hH1 _ (qLs _)]
   rw[this];exact hs'
  have hH00:H 0=hb++List.replicate (qKP E (all.toList.take (kT all))) .dead:=by rw[hH1 0 (qMY _)];exact e0
  obtain⟨X2,hX2,hs2⟩:=Sim.padN (qKP E (all.toList.take (kT all))) hs1;rw[<-hX2];have start:Sim E B X2 { t:=TLp (uw all) V T0 (fun j=>(Array.replicate all.size false).getD j false) all.size,fs:=fs,pend:=pd,h:=hLp (wOf D) H (H 0) (fun j=>(Array.replicate all.size false).getD j false) (kT all) } a:=by
   have q1:TLp (uw all) V T0 (fun j=>(Array.replicate all.size false).getD j false) all.size=T0:=by
    have:∀n,TLp (uw all) V T0 (fun j=>(Array.replicate all.size false).getD j false) n=T0:=by
     intro n;induction n with
     | zero=>rfl
     | succ n ih=>simp only[TLp];rw[if_neg (by rw[qua];simp),ih]
    exact this _
   have q2:∀n,hLp (wOf D) H (H 0) (fun j=>(Array.replicate all.size false).getD j false) n=H 0:=by
    intro n;induction n with
    | zero=>rfl
    | succ n ih=>simp only[hLp];rw[if_neg (by rw[qua];simp),ih]
   rw[q1,q2,hH00];exact hs2
  refine qDV (m:=kT all) (V:=V) (T0:=T0) (H:=H) (D:=D) (fs:=fs) (base:=hb.length) hE hS hc hmo hd hsl hVA (fun i j d d' hij hj q1 q2=>?_) hH2 hD2 (by rw[hH00];simp) eS (fun c hc hm'=>?_) (fun c hc hm'=>?_) (fun c hc hm'=>?_) ?_ ?_ (fun i j h1 h2 h3=>qng all h1 h2 h3) all.size _ X2 a (by simp) hcl0 (fun i _ _=>qua i) (qH9 _ _) start
  ·rw[hD1 i (by omega)] at q1;rw[hD1 j hj] at q2;exact e5 i j d d' hij (by rw[htlen];exact hj) q1 q2
  ·have:=lt c (.inl (.inl hm'));omega
  ·have:=lt c (.inl (.inr hm'));omega
  ·rw[hH00,qzl] at hm';rcases qLV.1 hm' with hm'|hm'
   ·have:=lt c (.inr hm');omega
   ·exact qBs (fun z hz=>by rw[qNG] at hz;rw[hz.2];rfl) hm'
  ·intro hge X' a' hs';have hsz:kT all=all.size:=by omega
   rw[show TLp (uw all) V T0 (fun _=>true) all.size=TLp (uw all) V T0 (fun _=>true) (kT all) by rw[hsz]] at hs';have h3:=hs0 X' a' hs';rw[qNe (by simp;omega)] at h2;simp only[qkR,Tree.run,qLq] at h2;rw[h2] at h3;exact hq X' a' h3
  ·intro i fuel listed X' a' hin him hsz hri hcl hlm hallm hs' hun;have hri':=hri;rw[mem_ready] at hri';obtain⟨g1,o,ho,gedge⟩:=hri';have hil:i<listed.size:=by omega
   have hLi:listed.getD i false=false:=by simpa[qMR,hil] using g1
   have hedge':∀e,e∈o.after.toList->Region.binds .any e=true->listed.getD e.on false=true:=fun e he hb=>gedge e (by simpa using he) hb;have hcl':=qnO hsz ho hcl hedge';have hallb:∀j,j<i->listed.getD j false=true:=by intro j hj;have hb':=qng all him hin hj;have:=qtm hd hcl' i j (by show (listed.setIfInBounds i true).getD i false=true;rw[q1w hil,if_pos rfl]) hb';have h':(listed.setIfInBounds i true).getD j false=true:=this;rw[q1w hil,if_neg (by omega)] at h';exact h'
   have him2:i=kT all:=by
    rcases qN4 him with h3|h3
    ·exact h3.symm
    ·have h4:=hallb _ h3;rw[hlm _ (qLs _) (by omega)] at h4;cases h4
   have hcut:∀n,kT all<=n->n<=all.size->TLp (uw all) V T0 (fun j=>listed.getD j false) n=TLp (uw all) V T0 (fun _=>true) (kT all):=by
    intro n;induction n with
    | zero=>
     intro h3 _;have h0:kT all=0:=by omega
     rw[h0];rfl
    | succ n ihn=>
     intro h3 h4;rcases qN4 h3 with h5|h5
     ·rw[<-h5];exact stL (kT all) fun j hj=>hallb j (by omega)
     ·simp only[TLp];rw[if_neg (by rw[hlm n (by omega) (by omega)];simp)];exact ihn (by omega) (by omega)
   rw[hcut _ hsl (qLs _)] at hs';have h3:=hs0 X' a' hs';subst him2;exact(qDR hE hcH hd hq _ (kT all) rfl (qLs _) (fuel+1) listed X' a' _ hsz (fun j hj _=>hallb j hj) (fun j hj=>by
    rcases qLy j all.size with h5|h5
    ·exact hlm j hj h5
    ·simp[show listed.size<=j by omega]) hun h3 h2).2 _ hri
end Go.Eng

namespace Go.Eng
variable {B:Base}{X:Ctx}{n:Nat}
theorem HSim.base {B B':Base}(h:HSim B X)(h0:B'.w0=B.w0)(h1:B'.imps=B.imps)(h2:B'.M0=B.M0):HSim B' X:=by obtain⟨w0,imps,M0,fs,ro,y,pin⟩:=B;obtain⟨w0',imps',M0',fs',ro',y',pin'⟩:=B';simp only at h0 h1 h2;subst h0 h1 h2;exact⟨h.blk,h.inj,h.notM,h.ltM,h.M0,h.newM,h.os,h.tape,h.output,h.size,h.frame,h.imps,h.impc,h.fresh,h.kept⟩
def qkW(o:Obj):Prop:=∀c T fr,o≠.cells c T fr
def qdz(n:Nat)(o:Obj)(l:List (Nat×Obj)):List (Nat×Obj):=l.map fun p=>if p.1=n then (n,o) else p
theorem q1G {p:Nat×Obj}{o:Obj}{l:List (Nat×Obj)}(h:p∈l)(hne:p.1≠n):p∈qdz n o l:=qMi.2 ⟨p,h,if_neg hne⟩
theorem qi3 {o o':Obj}{l:List (Nat×Obj)}(h:(n,o)∈l):(n,o')∈qdz n o' l:=qMi.2 ⟨(n,o),h,if_pos rfl⟩
theorem qkL {p:Nat×Obj}{o:Obj}{l:List (Nat×Obj)}(h:p∈qdz n o l):p=(n,o)\/(p∈l/\p.1≠n):=by
 obtain⟨q,h1,h2⟩:=qMi.1 h;by_cases hq:q.1=n
 ·rw[if_pos hq] at h2;exact .inl h2.symm
 ·rw[if_neg hq] at h2;subst h2;exact .inr ⟨h1,hq⟩
structure SameCells (w w':World):Prop where
 cells:∀(n:Nat) c T fr,w.heap[n]?=some (.cells c T fr)->w'.heap[n]?=some (.cells c T fr)
 cell:∀a:Addr,a.block<w.heap.size->w'.cell? a=w.cell? a
theorem SameCells.blk {X X':Ctx}(hw:SameCells X.w X'.w)(hm:Move0 X X' some){b:Nat}{k:Blk}(hσ:X'.σ b=X.σ b)(h:jJ X b k):jJ X' b k:=by
 cases k with
 | cells cs=>
  obtain⟨n,c,T,e1,e2,e3⟩:=h;exact⟨n,c,T,by rw[hσ];exact e1,hw.cells _ _ _ _ e2,e3.ext0 hm⟩
 | big cs k N l=>
  obtain⟨n,c,T,vs,e1,e2,e3,e4,e5⟩:=h;exact⟨n,c,T,vs,by rw[hσ];exact e1,hw.cells _ _ _ _ e2,e3.ext0 hm,e4,e5⟩
 | vec e sh l=>
  rcases h with⟨e1,e2⟩|⟨n,c,e1,e2,e3⟩
  ·exact .inl ⟨by rw[hσ];exact e1,e2⟩
  ·exact .inr ⟨n,c,by rw[hσ];exact e1,hw.cells _ _ _ _ e2,e3.mono hm.M hm.w⟩
 | frz e sh l=>
  rcases h with⟨e1,e2⟩|⟨n,c,e1,e2,e3,e4⟩
  ·exact .inl ⟨by rw[hσ];exact e1,e2⟩
  ·exact .inr ⟨n,c,by rw[hσ];exact e1,hw.cells _ _ _ _ e2,e3.mono hm.M hm.w,hm.M n e4⟩
 | dead=>trivial
theorem qwJ (hs:HSim B X){w':World}{kept':List (Nat×Obj)}(hw:SameCells X.w w')(hsz:X.w.heap.size<=w'.heap.size)(ho:w'.os=X.w.os)(ht:w'.tape=X.w.tape)(hp:w'.output=X.w.output)(hf:∀n,n<B.w0.heap.size->w'.heap[n]?=X.w.heap[n]?) (hk:∀p,p∈kept'->w'.heap[p.1]?=some p.2/\qkW p.2/\B.w0.heap.size<=p.1) :HSim B { X with w:=w',kept:=kept' }/\Move0 X { X with w:=w',kept:=kept' } some:=by
 have hm:Move0 X { X with w:=w',kept:=kept' } some:=
  ⟨fun _ h=>h,fun a ha=>hw.cell a (hs.ltM _ ha),fun b b' hb h=>by cases h;exact⟨hb,rfl,fun _ _ h=>h,fun _ _ _ n _ c T fr h=>⟨c,T,fr,hw.cells n c T fr h,rfl⟩⟩,rfl⟩
 refine⟨⟨fun b k hb=>SameCells.blk hw hm rfl (hs.blk b k hb),hs.inj,hs.notM,fun n hn=>qMc (hs.ltM n hn) hsz,hs.M0,hs.newM,ho.trans hs.os,ht.trans hs.tape,hp.trans hs.output,
  qLu hs.size hsz,fun n hn hi=>(hf n hn).trans (hs.frame n hn hi),hs.imps,hs.impc,hs.fresh,hk⟩,hm⟩
theorem qtH {w:World}{o o':Obj}(h:w.heap[n]?=some o)(ho:qkW o)(ho':qkW o'):SameCells w (w.putObj n o'):=by
 have hn:=(qLw.1 h).1;refine⟨fun m c T fr hm=>?_,fun a _=>?_⟩
 ·by_cases e:m=n
  ·subst e;rw[h] at hm;exact absurd (qMd hm) (ho _ _ _)
  ·rw[World.putObj_heap_other e];exact hm
 ·by_cases e:a.block=n
  ·unfold World.cell?;rw[e,h,World.putObj_heap_same hn];cases o'<;>cases o<;>first|rfl|exact absurd rfl (ho _ _ _)|exact absurd rfl (ho' _ _ _)
  ·exact qMu (World.putObj_heap_other e)
theorem qcv (hs:HSim B X){o o':Obj}(hk:(n,o)∈X.kept)(ho':qkW o') :HSim B { X with w:=X.w.putObj n o',kept:=qdz n o' X.kept }/\Move0 X { X with w:=X.w.putObj n o',kept:=qdz n o' X.kept } some:=by
 obtain⟨h1,h2,h3⟩:=hs.kept _ hk;simp only at h1 h2 h3;have hn:=(qLw.1 h1).1;refine qwJ hs (qtH h1 h2 ho') (by simp) rfl rfl rfl (fun m hm=>World.putObj_heap_other (by omega)) fun p hp=>?_;rcases qkL hp with rfl|⟨hp,hne⟩
 ·exact⟨World.putObj_heap_same hn,ho',h3⟩
 ·obtain⟨g1,g2,g3⟩:=hs.kept p hp;exact⟨by rw[World.putObj_heap_other hne];exact g1,g2,g3⟩
theorem qln (hs:HSim B X){o:Obj}(ho:qkW o) :HSim B { X with w:=X.w.alloc o,kept:=(X.w.heap.size,o)::X.kept }/\Move0 X { X with w:=X.w.alloc o,kept:=(X.w.heap.size,o)::X.kept } some:=by
 refine qwJ hs ⟨fun m c T fr hm=>?_,fun a ha=>qMu (wd _ _ ha)⟩ (by simp) rfl rfl rfl (fun m hm=>wd _ _ (qMc hm hs.size)) fun p hp=>?_
 ·rw[wd _ _ (qLw.1 hm).1];exact hm
 ·rcases qLx.1 hp with rfl|hp
  ·exact⟨wj _ _,ho,hs.size⟩
  ·obtain⟨g1,g2,g3⟩:=hs.kept p hp;exact⟨by rw[wd _ _ (qLw.1 g1).1];exact g1,g2,g3⟩
theorem qyR (hs:HSim B X){p:Nat×Obj}(h:p∈X.kept):p.1<X.w.heap.size:=(qLw.1 (hs.kept p h).1).1
mutual
theorem Rep.setY'{X:Ctx}(l:Nat):∀{av:AV} {v:Value},Rep X av v->av.noY=true->Rep { X with y:=l } av v
 | _,_,.undef v,_=>.undef v
 | _,_,.skip,_=>.skip
 | _,_,.yld,h=>by cases h
 | _,_,.blit b,_=>.blit b
 | _,_,.bool b,_=>.bool b
 | _,_,.ilit k n,_=>.ilit k n
 | _,_,.int k n,_=>.int k n
 | _,_,.str s,_=>.str s
 | _,_,.nilp,_=>.nilp
 | _,_,.ptr b off n hb hσ,_=>.ptr b off n hb hσ
 | _,_,.eptr sh l i off a hsp h0 h1 hr,_=>.eptr sh l i off a hsp h0 h1 hr
 | _,_,.mnil sh l i off,_=>.mnil sh l i off
 | _,_,.mptr sh l i off a hsp h0 h1 hr,_=>.mptr sh l i off a hsp h0 h1 hr
 | _,_,.vptr b i off n k hb hσ h,_=>.vptr b i off n k hb hσ h
 | _,_,.vsub b i n k m c hb hσ h,_=>.vsub b i n k m c hb hσ h
 | _,_,.aptr b o i n hb hσ h0,_=>.aptr b o i n hb hσ h0
 | _,_,.asub b o N i m n k c hb hσ h0 h1 h2 h3,_=>.asub b o N i m n k c hb hσ h0 h1 h2 h3
 | _,_,.nils,_=>.nils
 | _,_,.imm sh l v h,_=>.imm sh l v h
 | _,_,.full sh l p n h,_=>.full sh l p n h
 | _,_,.vec b p nn cc hb h,_=>.vec b p nn cc hb h
 | _,_,.nilf,_=>.nilf
 | _,_,.fn g first caps vf vc h1 h2,h=>by
  simp only[AV.noY,qLN] at h;exact .fn g _ _ vf vc (RepL.setY' l h1 h.1) (RepL.setY' l h2 h.2)
 | _,_,.agg cs vs h1,h=>.agg _ vs (RepL.setY' l h1 (by simpa only [AV.noY] using h))
 | _,_,.tuple cs vs h1,h=>.tuple _ vs (RepL.setY' l h1 (by simpa only [AV.noY] using h))
 | _,_,.bagg cs k n r vs h1 hl,h=>.bagg _ k n r vs (RepL.setY' l h1 (by simpa only [AV.noY] using h)) hl
theorem RepL.setY'{X:Ctx}(l:Nat):∀{av:List AV} {v:List Value},RepL X av v->AV.noYL av=true->RepL { X with y:=l } av v
 | _,_,.nil,_=>.nil
 | _,_,.cons h1 t,h=>by
  simp only[AV.noYL,qLN] at h;exact .cons (Rep.setY' l h1 h.1) (RepL.setY' l t h.2)
end
theorem Rep.setY (l:Nat){av:AV}{v:Value}(h:av.noY=true)(hr:Rep X av v):Rep { X with y:=l } av v:=hr.setY' l h
theorem RepL.setY (l:Nat){av:List AV}{v:List Value}(h:AV.noYL av=true)(hr:RepL X av v):RepL { X with y:=l } av v:=hr.setY' l h
theorem HSim.setY (h:HSim B X)(l:Nat)(hy:X.h.all Blk.noY=true):HSim B { X with y:=l }:=by
 refine⟨fun b k hb=>?_,h.inj,h.notM,h.ltM,h.M0,h.newM,h.os,h.tape,h.output,h.size,h.frame,h.imps,h.impc,h.fresh,h.kept⟩;have h1:=h.blk b k hb;cases k with
 | cells cs=>
  obtain⟨n,c,T,e1,e2,e3⟩:=h1;have:(Blk.cells cs).noY=true:=qLZ.1 hy _ (qMJ hb);exact⟨n,c,T,e1,e2,e3.setY l this⟩
 | big cs k N r=>
  obtain⟨n,c,T,vs,e1,e2,e3,e4,e5⟩:=h1;have:(Blk.big cs k N r).noY=true:=qLZ.1 hy _ (qMJ hb);exact⟨n,c,T,vs,e1,e2,e3.setY l this,e4,e5⟩
 | vec e sh l=>exact h1
 | frz e sh l=>exact h1
 | dead=>trivial
theorem qvC {gl:List (Nat×AV)}(h:q5G gl X)(l:Nat):q5G gl { X with y:=l }:=by intro x hx;obtain⟨⟨sh,r,i,off,he⟩,hr⟩:=h x hx;refine⟨⟨sh,r,i,off,he⟩,hr.move (fun _ h=>h) (fun _ _=>rfl) (Rep.setY l (by rw[he];rfl) hr.1)⟩
theorem qhm {gl:List (Nat×AV)}{X X':Ctx}(hm:Move0 X X' some)(h:q5G gl X):q5G gl X':=fun x hx=>⟨(h x hx).1,(h x hx).2.move hm.M hm.w ((h x hx).2.1.ext0 hm)⟩
theorem Sim.moveB {E:Env}{B B':Base}{X X':Ctx}{st:St}{a:Act}(hs:Sim E B X st a)(h1:HSim B' X')(h2:Move0 X X' some)(h3:X'.h=X.h)(hfs:B'.fs=B.fs)(hy:B'.y=B.y)(hi:B'.imps=B.imps){ds:List Deferred} (h4:qxM X'.kept (B'.pin st.pend) ds) (h5:∀p,p∈B'.pin st.pend->p∈X'.kept):Sim E B' X' st { a with defers:=ds }:=⟨h1,h3.trans hs.h,hs.t.ext0 h2,hfs▸hs.fs.ext0 h2,qhm h2 hs.glob,h4,hi▸hs.ni,(h2.y.trans hs.y).trans hy.symm,h5⟩
def Ex.out:Ex->Exit
 | .normal=>.normal
 | .exit i=>.exit i
 | .ret=>.ret
def qyw(E:Env)(B:Base)(r:Ex×St):Exit->Act->World->Prop:=fun e a w=>e=r.1.out/\∃X',X'.w=w/\Sim E B X' r.2 a
def Ex.code:Ex->Code
 | .normal=>.skip
 | .exit i=>.exit i
 | .ret=>.ret
def q7B(fid:FuncId)(ct:Array Value)(ps:Array Tmp)(a b:Code)(D:Nat)(e:Option Ex):Loop:={ state:=if e.isNone then .ready else .done,pending:=e.map Ex.code,fn:=fid,tmps:=ct,params:=ps,assign:=a,body:=b,defers:=D }
def zt:Code->List Code
 | .seq a b=>.seq a b::(zt a++zt b)
 | .cond _ a b=>zt a++zt b
 | .block _ c=>zt c
 | .scope c=>zt c
 | .loop c=>.loop c::zt c
 | .rangeFunc x ps a b=>.rangeFunc x ps a b::(zt a++zt b)
 | _=>[]
def qxO(P:Program)(yc:FuncId×Nat)(B:Base):Prop:=
 ∃(fn:Func) (c:Code) (x:Operand) (ps:Array Tmp) (a b:Code),P.funcs[yc.1]?=some fn/\fn.body=some c/\(zt c)[yc.2]?=some (.rangeFunc x ps a b) /\
  ∃(ct:Array Value) (rest:List (List Value)) (D fid:Nat) (more:List (Nat×Obj)),B.fs=ct.toList::rest/\(∀e,B.pin e=(B.y,.loop (q7B fid ct ps a b D e))::more)/\(∀p,p∈more->p.1≠B.y)/\B.ro=none
def qD(P:Program)(it:List (FuncId×FuncId×Nat))(f:FuncId)(B:Base):Prop:=
 (B.ro.isSome=true->2<=B.fs.length)/\match qiH it f with
  | none=>True
  | some yc=>qxO P yc B
structure SimF (E:Env) (B:Base) (X:Ctx) (st:St):Prop where
 hs:HSim B X
 h:X.h=st.h
 fs:RepLL X (st.t::st.fs) B.fs
 glob:q5G E.glob X
 ni:B.imps.length<=E.nimp
 y:X.y=B.y
 pin:∀p,p∈B.pin st.pend->p∈X.kept
def YOK(E:Env)(P:Program)(y:qAj)(B:Base):Prop:=
 ∀(args:List AV) (st:St) (r:AV×St) (X:Ctx) (a:Act) (vargs:List Value),Sim E B X st a->RepL X args vargs->(y args st).run=some r ->
  ∃(l:Nat) (f:FuncId) (tmps:Array Value) (assign body:Code),(Instr.yield X.y vargs.toArray).run P X.w=.ok (.round l f tmps assign body) X.w /\
  ∀n,RoundIn (q5e B.ro) n P l f tmps assign body X.w fun e w'=>∃v X',e=.returned v/\X'.w=w'/\Rep X' r.1 v/\Sim E B X' r.2 a
def qkI(E:Env)(P:Program)(rangeH:qe4):Prop:=
 ∀(g:FuncId) (y:qAj) (args:List AV) (st:St) (r:AV×St) (B:Base) (X:Ctx) (vargs:List Value),SimF E B X st->qD P E.iter g B->(∀B',qD P E.iter g B'->YOK E P y B')->B.ro=none ->
  RepL X args vargs->(rangeH g y args st).run=some r ->
  (∀w,(callFunc g vargs.toArray).run P w=.ok (.enter g vargs.toArray) w) /\
  Calls P g vargs.toArray X.w fun e w'=>∃v X',e=.returned v/\X'.w=w'/\Rep X' r.1 v/\SimF E B X' r.2
theorem qt8{X:Ctx}:∀(ps:List Tmp) {ct:List AV} {tmps:Array Value} {args:List AV} {vargs:List Value},RepL X ct tmps.toList->RepL X args vargs ->
  RepL X (qrq ct ps args) ((ps.zip vargs).foldl (fun (tmps:Array Value) (p:Tmp×Value)=>tmps.setIfInBounds p.1 p.2) tmps).toList
 | [],_,_,args,_,h,_=>by cases args<;>simpa[qrq] using h
 | p::ps,ct,tmps,_,_,h,.nil=>by simpa[qrq] using h
 | p::ps,ct,tmps,_,_,h,.cons h1 h2=>by
  simp only[qrq,List.zip_cons_cons,qNl];exact qt8 ps (by rw[Array.toList_setIfInBounds];exact RepL.set h1 h p) h2
theorem qzi {E:Env}{P:Program}{f:FuncId}{k:Nat}{fn:Func}{cb:Code}(hf:P.funcs[f]?=some fn)(hb:fn.body=some cb){x:Operand}{ps:Array Tmp}{a b:Code}(hk:(zt cb)[k]?=some (.rangeFunc x ps a b)){evA evB:St->Tree (Ex×St)} (hni:q8A E.iter f=true)(hA:∀(B:Base) (X:Ctx) (st:St) (act:Act) (r:Ex×St),qD P E.iter f B->Sim E B X st act->(evA st).run=some r->∀n,a.wpIn (q5e B.ro) n P (qyw E B r) act X.w)(hB:∀(B:Base) (X:Ctx) (st:St) (act:Act) (r:Ex×St),qD P E.iter f B->Sim E B X st act->(evB st).run=some r->∀n,b.wpIn (q5e B.ro) n P (qyw E B r) act X.w){B:Base} (hI:qxO P (f,k) B):YOK E P (qvM evA evB ps.toList) B:=by
 intro args st r X act vargs hs hargs hr;obtain⟨fn',c',x',ps',a',b',q1,q2,q3,ct,rest,D,fid,more,q4,q5,q6,q7⟩:=hI;simp only at q1 q3;rw[hf] at q1;cases q1;rw[hb] at q2;cases q2;rw[hk] at q3;cases q3;unfold qvM at hr;cases hp:st.pend with
 | some e=>rw[hp] at hr;cases hr
 | none=>
 rw[hp] at hr;cases hfs:st.fs with
 | nil=>rw[hfs] at hr;cases hr
 | cons ctA fsA=>
 rw[hfs] at hr;simp only at hr;cases hlen:Nat.beq args.length ps.toList.length with
 | false=>rw[hlen] at hr;cases hr
 | true=>
 rw[hlen] at hr;simp only at hr;have hlen':=qMs hlen;obtain⟨rA,h1,h2⟩:=bind_some hr;obtain⟨xA,sA⟩:=rA;cases xA with
 | exit i=>cases h2
 | ret=>cases h2
 | normal=>
 simp only at h2;obtain⟨rB,h3,h4⟩:=bind_some h2;have hpin:=hs.pin;have hdf:=hs.df;rw[hp,q5] at hpin hdf;have hrec:(B.y,.loop (q7B fid ct ps a b D none))∈X.kept:=hpin _ qLE;have hheap:=(hs.hs.kept _ hrec).1;simp only at hheap;have hfsR:=hs.fs;rw[hfs,q4] at hfsR;have hct:RepL X ctA ct.toList:=by cases hfsR with|cons g1 g2=>exact g1
 refine⟨B.y,fid,((ps.zip vargs.toArray).foldl (fun (tmps:Array Value) (p:Tmp×Value)=>tmps.setIfInBounds p.1 p.2) ct),a,b,?_,fun n=>?_⟩
 ·rw[hs.y];exact run_yield (r:=q7B fid ct ps a b D none) hheap (by simp only[q7B,List.size_toArray];rw[<-hargs.length,hlen',Array.length_toList])
 rw[q7];apply roundIn_of_wpIn (F:=q5e none) trivial
 let BR:Base:={ B with ro:=some B.y,fs:=act.tmps.toList::B.fs,pin:=fun _=>X.kept }
 have hbR:∀pin,qD P E.iter f { BR with pin:=pin }:=by
  intro pin;refine⟨fun _=>?_,?_⟩
  ·show 2<=(act.tmps.toList::B.fs).length;rw[q4];simp
  ·unfold q8A at hni;split at hni
   ·cases hni
   ·rename_i hn;rw[hn];trivial
 have hsR:Sim E BR X { t:=qrq ctA ps.toList args,fs:=st.t::ctA::fsA,h:=st.h,pend:=none } { tmps:=((ps.zip vargs.toArray).foldl (fun (tmps:Array Value) (p:Tmp×Value)=>tmps.setIfInBounds p.1 p.2) ct),defers:=[] }:=by
  refine⟨hs.hs.base rfl rfl rfl,hs.h,?_,?_,hs.glob,qxM.nil,hs.ni,hs.y,fun p hp=>hp⟩
  ·have:=qt8 ps.toList hct hargs;rw[<-Array.foldl_toList,Array.toList_zip];exact this
  ·show RepLL X _ (act.tmps.toList::B.fs);rw[<-hfs];exact .cons hs.t hs.fs
 refine wpIn_mono (hA BR X _ _ _ (hbR _) hsR h1 n) fun e a1 w1 ⟨he,X1,hw1,hs1⟩=>?_;subst he hw1;have hrec1:(B.y,.loop (q7B fid ct ps a b D none))∈X1.kept:=hs1.pin _ hrec;obtain⟨g1,g2⟩:=qcv hs1.hs (o':=.loop { q7B fid ct ps a b D none with state:=.busy }) hrec1 (fun _ _ _ h=>by cases h);refine⟨_,run_beginRound (r:=q7B fid ct ps a b D none) (hs1.hs.kept _ hrec1).1 rfl,?_⟩
 let pinB:List (Nat×Obj):=qdz B.y (.loop { q7B fid ct ps a b D none with state:=.busy }) X.kept
 obtain⟨Ds1,d1,d2,d3⟩:=hs1.df;have hsB:Sim E { BR with pin:=fun _=>pinB } { X1 with w:=X1.w.putObj B.y (.loop { q7B fid ct ps a b D none with state:=.busy }),kept:=qdz B.y (.loop { q7B fid ct ps a b D none with state:=.busy }) X1.kept } sA a1:=by
  refine hs1.moveB (B':={ BR with pin:=fun _=>pinB }) (ds:=a1.defers) (g1.base rfl rfl rfl) g2 rfl rfl rfl rfl ⟨Ds1,d1,d2,fun D' hD'=>⟨q1G (d3 D' hD').1 (fun e=>(d3 D' hD').2 _ hrec e.symm),fun p hp=>?_⟩⟩ fun p hp=>?_
  ·rcases qkL hp with hp|⟨hp,_⟩
   ·rw[hp];exact fun e=>(d3 D' hD').2 _ hrec e
   ·exact(d3 D' hD').2 _ hp
  ·rcases qkL hp with rfl|⟨hp,hne⟩
   ·exact qi3 hrec1
   ·exact q1G (hs1.pin _ hp) hne
 refine wpIn_mono (hB _ _ _ _ _ (hbR _) hsB h3 n) fun e2 a2 w2 ⟨he2,X2,hw2,hs2⟩=>?_;subst he2 hw2;obtain⟨xB,sB⟩:=rB;have hrec2:(B.y,.loop { q7B fid ct ps a b D none with state:=.busy })∈X2.kept:=hs2.pin _ (qi3 hrec);have hlie2:=(hs2.hs.kept _ hrec2).1;simp only at hlie2;simp only at h4;cases hfs2:sB.fs with
 | nil=>rw[hfs2] at h4;cases h4
 | cons itA fs'=>
 rw[hfs2] at h4;simp only at h4;have fin:∀(e:Option Ex) (_:r=(.blit e.isNone,{ t:=itA,fs:=fs',h:=sB.h,pend:=e })) (_:e=none\/∃x,e=some x),
   ∃v w',(Instr.endRound B.y (e.map Ex.code)).run P X2.w=.ok v w'/\∃v' X',Ending.returned v=.returned v'/\X'.w=w'/\Rep X' r.1 v'/\Sim E B X' r.2 act:=by
  intro e hre _;have hend:=run_endRound (P:=P) (r:={ q7B fid ct ps a b D none with state:=.busy }) (e.map Ex.code) hlie2;have hobj:({ ({ q7B fid ct ps a b D none with state:=.busy }:Loop) with state:=if (e.map Ex.code).isNone then .ready else .done,pending:=e.map Ex.code }:Loop)=q7B fid ct ps a b D e:=by cases e<;>rfl
  rw[hobj] at hend;obtain⟨k1,k2⟩:=qcv hs2.hs (o':=.loop (q7B fid ct ps a b D e)) hrec2 (fun _ _ _ h=>by cases h);refine⟨_,_,hend,_,{ X2 with w:=X2.w.putObj B.y (.loop (q7B fid ct ps a b D e)),kept:=qdz B.y (.loop (q7B fid ct ps a b D e)) X2.kept },rfl,rfl,?_,?_⟩
  ·rw[hre];have:(e.map Ex.code).isNone=e.isNone:=by cases e<;>rfl
   rw[this];exact .blit _
  ·have hfs3:=hs2.fs;rw[hfs2] at hfs3;have hfs4:=hfs3.ext0 k2;have hold:∀p,p∈X.kept->p.1≠B.y->p∈qdz B.y (.loop (q7B fid ct ps a b D e)) X2.kept:=fun p hp hne=>
    q1G (hs2.pin p (q1G hp hne)) hne
   rw[hre];refine⟨k1.base rfl rfl rfl,hs2.h,?_,?_,qhm k2 hs2.glob,?_,hs.ni,hs2.y,?_⟩
   ·cases hfs4 with|cons z1 z2=>exact z1
   ·cases hfs4 with|cons z1 z2=>exact z2
   ·obtain⟨Ds,m1,m2,m3⟩:=hdf;refine⟨Ds,m1,m2,fun D' hD'=>⟨hold _ (m3 D' hD').1 (fun e'=>(m3 D' hD').2 _ qLE e'.symm),fun p hp=>?_⟩⟩;rw[q5] at hp;rcases qLx.1 hp with rfl|hp
    ·exact(m3 D' hD').2 (B.y,.loop (q7B fid ct ps a b D none)) qLE
    ·exact(m3 D' hD').2 p (qLO _ hp)
   ·intro p hp;rw[q5] at hp;rcases qLx.1 hp with rfl|hp
    ·exact qi3 hrec2
    ·exact hold p (hpin p (qLO _ hp)) (q6 p hp)
 cases xB with
 | normal=>
  simp only[Tree.run,qLq] at h4;exact fin none h4.symm (.inl rfl)
 | ret=>
  simp only[Tree.run,qLq] at h4;exact fin (some .ret) h4.symm (.inr ⟨_,rfl⟩)
 | exit i=>
  simp only[Tree.run,qLq] at h4;exact fin (some (.exit i)) h4.symm (.inr ⟨_,rfl⟩)
theorem qvF{E:Env}{P:Program}{B:Base}{fn:Func}{st:St}{R:Ending->World->Prop}{n:Nat}:∀(Ds:List Nat) {X:Ctx} {a:Act},Sim E B X st a->a.defers=Ds.map qjB ->
  (∀X',Sim E B X' st { a with defers:=[] }->∃v,(results fn a.tmps).run P X'.w=.ok v X'.w/\R (.returned v) X'.w)->LeavesInM (q5e none) n P fn a.tmps R (Ds.map qjB) .returning X.w
 | [],X,a,hs,hd,h=>by
  have:({ a with defers:=[] }:Act)=a:=by obtain⟨t,d⟩:=a;simp only[List.map_nil] at hd;rw[hd]
  rw[this] at h;exact h X hs
 | D::Ds,X,a,hs,hd,h=>by
  obtain⟨Ds',d1,d2,d3⟩:=hs.df;have hDs:Ds'=D::Ds:=by
   rw[hd] at d1;have inj:∀(l m:List Nat),l.map qjB=m.map qjB->m=l:=by
    intro l;induction l with
    | nil=>intro m hm;cases m with
     | nil=>rfl
     | cons _ _=>cases hm
    | cons x l ih=>intro m hm;cases m with
     | nil=>cases hm
     | cons y m=>
      simp only[qMn,qMX,qjB,Deferred.mk.injEq,Target.collected.injEq,and_true] at hm;rw[ih m hm.2,hm.1]
   exact inj _ _ d1
  subst hDs;obtain⟨m1,m2⟩:=d3 D qLE;have hlie:=(hs.hs.kept _ m1).1;simp only at hlie;obtain⟨g1,g2⟩:=qcv hs.hs (o':=.deferred none) m1 (fun _ _ _ h=>by cases h);have hnd:=List.nodup_cons.1 d2;have hs':=hs.moveB (B':=B) (ds:=Ds.map qjB) g1 g2 rfl rfl rfl rfl ⟨Ds,rfl,hnd.2,fun D' hD'=>⟨q1G (d3 D' (qLO _ hD')).1 (fun e=>hnd.1 (e▸hD')),(d3 D' (qLO _ hD')).2⟩⟩
   (fun p hp=>q1G (hs.pin p hp) (m2 p hp))
  refine⟨by simp,.inl ⟨D,_,rfl,run_takeDeferred hlie,?_⟩⟩;exact qvF Ds (a:={ a with defers:=Ds.map qjB }) hs' rfl h
end Go.Eng

namespace Go.Eng
variable {B:Base}{E:Env}{P:Program}{X:Ctx}{a:Act}{f:FuncId}{fn:Func}{st:St}
theorem Sim.env {E E':Env}(he:E.glob=E'.glob)(hn:E.nimp=E'.nimp)(hs:Sim E B X st a):Sim E' B X st a:=⟨hs.hs,hs.h,hs.t,hs.fs,he▸hs.glob,hs.df,hn▸hs.ni,hs.y,hs.pin⟩
theorem kE:∀c:Code,(zt c).length=zT c:=by
 intro c;induction c<;>simp_all [zt,zT]
 all_goals omega
theorem qh7{f k:Nat}{L:St->Tree (Ex×St)}:∀{l:List ((Nat×Nat)×(St->Tree (Ex×St)))},q9P l f k=some L->((f,k),L)∈l
 | [],h=>by cases h
 | x::l,h=>by
  simp only[q9P] at h;split at h
  ·rename_i hb;cases h;simp only[qLN] at hb;have h1:=qMs hb.1;have h2:=qMs hb.2;have:x=((f,k),x.2):=by obtain⟨⟨a,b⟩,c⟩:=x;simp only at h1 h2;rw[h1,h2]
   exact this▸qLE
  ·exact qLO _ (qh7 h)
def ql(P:Program)(gl:List (Nat×AV))(ni:Nat)(BO:Base->Prop)(c:Code)(L:St->Tree (Ex×St)):Prop:=∀(E:Env) (B:Base) (X:Ctx) (st:St) (a:Act) (r:Ex×St),E.glob=gl->E.nimp=ni->BO B->Sim E B X st a->(L st).run=some r->∀(n0:Nat),c.wpIn (q5e B.ro) n0 P (qyw E B r) a X.w
def Env.loopsOK(E:Env)(P:Program):Prop:=∀x,x∈E.loops->∃fn c c',P.funcs[x.1.1]?=some fn/\fn.body=some c/\(zt c)[x.1.2]?=some c'/\ql P E.glob E.nimp (qD P E.iter x.1.1) c' x.2
theorem qEQ {rangeH:qe4}(hrg:qkI E P rangeH)(hf:P.funcs[f]?=some fn){cb:Code}(hb:fn.body=some cb){k:Nat}{x:Operand}{ps:Array Tmp}{a b:Code}(hk:(zt cb)[k]?=some (.rangeFunc x ps a b)) {evA evB:St->Tree (Ex×St)}(hA:∀(B:Base) (X:Ctx) (st:St) (act:Act) (r:Ex×St),qD P E.iter f B->Sim E B X st act->(evA st).run=some r->∀n,a.wpIn (q5e B.ro) n P (qyw E B r) act X.w)(hB:∀(B:Base) (X:Ctx) (st:St) (act:Act) (r:Ex×St),qD P E.iter f B->Sim E B X st act->(evB st).run=some r->∀n,b.wpIn (q5e B.ro) n P (qyw E B r) act X.w){B:Base} {X:Ctx} {st:St} {act:Act} {r:Ex×St} {n0:Nat} (hbo:qD P E.iter f B) (hs:Sim E B X st act) {g:FuncId} {first caps:List AV} (hx:E.opd st.t x=.fn g first caps)(hc:(qtp E.iter g f k&&q8A E.iter f&&qyW st)=true) (h:((rangeH g (qvM evA evB ps.toList) (first++[.yld]++caps) st).bind qBP).run=some r) :(Code.rangeFunc x ps a b).wpIn (q5e B.ro) n0 P (qyw E B r) act X.w:=by
  simp only[qLN] at hc;obtain⟨⟨hit,hni⟩,htop⟩:=hc;have htop':st.fs=[[]]/\st.pend=none/\AV.noYL st.t=true/\st.h.all Blk.noY=true:=by
    unfold qyW at htop;split at htop
    · rename_i h1 h2
      simp only[qLN] at htop;exact⟨h1,h2,htop.1,htop.2⟩
    · cases htop
  obtain⟨t1,t2,t3,t4⟩:=htop';have hBfs:B.fs=[[]]:=by
    have:=hs.fs;rw[t1] at this;generalize B.fs=l at this;cases this with
    | cons g1 g2=>cases g1;cases g2;rfl
  have hro:B.ro=none:=by
    cases hr:B.ro with
    | none=>rfl
    | some l =>
      have:=hbo.1 (by rw[hr];rfl);rw[hBfs] at this;simp at this
  have hfi:qiH E.iter g=some (f,k):=by
    unfold qtp at hit;split at hit
    · rename_i y hy
      simp only[qLN] at hit;rw[hy];obtain⟨y1,y2⟩:=y;have e1:y1=f:=qMs hit.1;have e2:y2=k:=qMs hit.2;rw[e1,e2]
    · cases hit
  obtain⟨q,h1,h2⟩:=bind_some h;have hvx:=q9g hs x;rw[hx] at hvx;generalize hev:act.eval x=vx at hvx;cases hvx with
  | fn _ _ _ vf vc g1 g2 =>
  rw[hro];apply wpIn_rangeFunc;intro fid _
  let D:=X.w.heap.size
  let l:=X.w.heap.size+1
  let rec0:Obj:=.loop (q7B fid act.tmps ps a b D none)
  obtain⟨k1,k2⟩:=qln hs.hs (o:=.deferred (some [])) (fun _ _ _ h=>by cases h);obtain⟨k3,k4⟩:=qln k1 (o:=rec0) (fun _ _ _ h=>Obj.noConfusion h)
  let X1:Ctx:={ X with w:=(X.w.alloc (.deferred (some []))).alloc rec0,kept:=(l,rec0)::(D,.deferred (some []))::X.kept }
  have hsz:(X.w.alloc (.deferred (some []))).heap.size=l:=by simp[l]
  have hX1:({ ({ X with w:=X.w.alloc (.deferred (some [])),kept:=(X.w.heap.size,.deferred (some []))::X.kept }:Ctx) with w:=(X.w.alloc (.deferred (some []))).alloc rec0,kept:=((X.w.alloc (.deferred (some []))).heap.size,rec0)::(X.w.heap.size,.deferred (some []))::X.kept }:Ctx)=X1:=by rw[hsz]
  have k3':HSim B X1:=hX1▸k3;have k4':Move0 { X with w:=X.w.alloc (.deferred (some [])),kept:=(X.w.heap.size,.deferred (some []))::X.kept } X1 some:=hX1▸k4;have hall:X1.h.all Blk.noY=true:=by show X.h.all Blk.noY=true;rw[hs.h];exact t4
  let X2:Ctx:={ X1 with y:=l }
  have hs2:HSim B X2:=k3'.setY l hall
  let B1:Base:={ B with fs:=act.tmps.toList::B.fs,ro:=none,y:=l,pin:=fun e=>(l,.loop (q7B fid act.tmps ps a b D e))::(D,.deferred (some []))::X.kept }
  have hlt:∀p,p∈(D,(.deferred (some []):Obj))::X.kept->p.1≠l:=by
    intro p hp;rcases qLx.1 hp with rfl|hp
    · show D≠l;simp[D,l]
    · have:=qyR hs.hs hp;simp only[l];omega
  have hI:qxO P (f,k) B1:=⟨fn,cb,x,ps,a,b,hf,hb,hk,act.tmps,B.fs,D,fid,(D,.deferred (some []))::X.kept,rfl,fun e=>rfl,hlt,rfl⟩;have hB1:qD P E.iter g B1:=⟨fun h=>(by cases h),by rw[hfi];exact hI⟩;have hargs:RepL X2 (first++[.yld]++caps) (vf++[Value.func (.yield l) #[] #[]]++vc):=by
    have hno:AV.noYL first=true/\AV.noYL caps=true:=by
      have hn:(AV.fn g first caps).noY=true:=by
        rw[<-hx];cases x with
        | tmp i =>
          simp only[Env.opd];rw[qLr];cases hi:st.t[i]? with
          | none=>rfl
          | some v =>
            have:∀(l:List AV),AV.noYL l=true->∀v,v∈l->v.noY=true:=by
              intro l;induction l with
              | nil=>intro _ v hv;cases hv
              | cons y l ih =>
                intro hl v hv;simp only[AV.noYL,qLN] at hl;rcases qLx.1 hv with rfl|hv
                · exact hl.1
                · exact ih hl.2 v hv
            exact this _ t3 v (qMJ hi)
        | const v => rw [show E.opd st.t (.const v) = ofV v from rfl] at hx; unfold ofV at hx; split at hx; · cases hx
                     · unfold jI at hx;split at hx<;>first|cases hx|(split at hx<;>cases hx)
        | global g' =>
          simp only[Env.opd] at hx;cases hg:E.glob.find? fun x=>x.1==g' with
          | none=>rw[hg] at hx;cases hx
          | some y =>
            rw[hg] at hx;obtain⟨⟨sh,r',i,off,he⟩,_⟩:=hs.glob y (qMm hg);simp only[qM6,qMv] at hx;rw[he] at hx;cases hx
        | func f'=>rw[show E.opd st.t (.func f')=.fn f' [] [] from rfl] at hx;cases hx;rfl
      simpa only [AV.noY,qLN] using hn
    have m1:RepL X1 first vf:=(g1.ext0 k2).ext0 k4'
    have m2:RepL X1 caps vc:=(g2.ext0 k2).ext0 k4';exact((m1.setY l hno.1).append (.cons .yld .nil)).append (m2.setY l hno.2)
  have hF:SimF E B1 X2 st:=by have m1:RepL X1 st.t act.tmps.toList:=(hs.t.ext0 k2).ext0 k4';refine⟨hs2.base rfl rfl rfl,hs.h,?_,qvC (qhm k4' (qhm k2 hs.glob)) l,hs.ni,rfl,fun p hp=>by rw[t2] at hp;exact hp⟩;show RepLL X2 _ (act.tmps.toList::B.fs);rw[t1,hBfs];exact .cons (m1.setY l t3) (.cons .nil .nil)
  obtain⟨henter,hcalls⟩:=hrg g _ _ st q B1 X2 _ hF hB1 (fun B' hB'=>by obtain⟨_,h'⟩:=hB';rw[hfi] at h';exact qzi hf hb hk hni hA hB h') rfl hargs h1;refine⟨l,[qjB D],X1.w,{ target:=.fn (.func g) vc.toArray,args:=vf.toArray++#[Value.func (.yield l) #[] #[]] },X1.w,g,(vf++[Value.func (.yield l) #[] #[]]++vc).toArray,X1.w,?_,?_,fun _ _=>trivial,?_,qfF none,?_⟩
  · exact run_enterLoop_outer fid act.tmps ps a b
  · simp only[resolve,hev,Deferred.ofValue,qM1]
    simp[Act.eval]
  · simp only[invoke]
    have:vf.toArray++#[Value.func (.yield l) #[] #[]]++vc.toArray=(vf++[Value.func (.yield l) #[] #[]]++vc).toArray:=by apply qMN;simp
    rw[this];exact henter X1.w
  · refine qEc.2 (hcalls.mono fun e w' ⟨v,X',e1,e2,_,hF'⟩=>?_)
    subst e1 e2;have hpin:=hF'.pin;have hrec:(l,.loop (q7B fid act.tmps ps a b D q.2.pend))∈X'.kept:=hpin _ qLE;have hlie:=(hF'.hs.kept _ hrec).1;simp only at hlie;have hbusy:(q7B fid act.tmps ps a b D q.2.pend).state≠.busy:=by simp only[q7B];split<;>simp
    obtain⟨m1,m2⟩:=qcv hF'.hs (o':=.loop { q7B fid act.tmps ps a b D q.2.pend with state:=.exhausted }) hrec (fun _ _ _ h=>by cases h);refine⟨_,_,run_endLoop hlie hbusy,?_⟩;unfold qBP at h2;cases htq:qyW { q.2 with pend:=none } with
    | false=>rw[htq] at h2;cases h2
    | true =>
    rw[htq] at h2;simp only at h2;have htop2:q.2.fs=[[]]/\AV.noYL q.2.t=true/\q.2.h.all Blk.noY=true:=by
      unfold qyW at htq;split at htq
      · rename_i h1 h2
        simp only[qLN] at htq;exact⟨h1,htq.1,htq.2⟩
      · cases htq
    obtain⟨u1,u2,u3⟩:=htop2
    let X3:Ctx:={ X' with w:=X'.w.putObj l (.loop { q7B fid act.tmps ps a b D q.2.pend with state:=.exhausted }),kept:=qdz l (.loop { q7B fid act.tmps ps a b D q.2.pend with state:=.exhausted }) X'.kept }
    have hsim:Sim E B { X3 with y:=B.y } { q.2 with pend:=none } { act with defers:=[qjB D]++act.defers }:=by
      have hfs':=hF'.fs.ext0 m2;have hold:∀p,p∈(D,(.deferred (some []):Obj))::X.kept->p∈X3.kept:=fun p hp=>q1G (hpin p (qLO _ hp)) (hlt p hp);have hfs2:RepLL X3 (q.2.t::q.2.fs) (act.tmps.toList::B.fs):=hfs';refine⟨((m1.base (B':=B) rfl rfl rfl).setY B.y (by show X'.h.all Blk.noY=true;rw[hF'.h];exact u3)),hF'.h,?_,?_,qvC (qhm m2 hF'.glob) B.y,?_,hs.ni,rfl,?_⟩
      · cases hfs2 with|cons z1 z2=>exact z1.setY B.y u2
      · show RepLL _ q.2.fs B.fs
        rw[u1,hBfs];exact .cons .nil .nil
      · obtain⟨Ds,d1,d2,d3⟩:=hs.df
        rw[t2] at d3;refine⟨D::Ds,by rw[d1];rfl,List.nodup_cons.2 ⟨fun hD=>?_,d2⟩,fun D' hD'=>?_⟩
        · have:=qyR hs.hs (d3 D hD).1
          simp[D] at this
        · rcases qLx.1 hD' with rfl|hD'
          · refine⟨hold _ qLE,fun p hp=>?_⟩
            have hp':=hs.pin p (by rw[t2];exact hp);have:=qyR hs.hs hp';simp only[D];omega
          · exact⟨hold _ (qLO _ (d3 D' hD').1),(d3 D' hD').2⟩
      · intro p hp
        exact hold p (qLO _ (hs.pin p (by rw[t2];exact hp)))
    cases hpe:q.2.pend with
    | none =>
      rw[hpe] at h2;simp only[Tree.run,qLq] at h2;subst h2;exact⟨rfl,{ X3 with y:=B.y },by show X'.w.putObj l _=_;rw[hpe],hsim⟩
    | some e =>
      rw[hpe] at h2;cases e with
      | normal=>cases h2
      | ret =>
        simp only[Tree.run,qLq] at h2;subst h2;exact wpIn_ret ⟨rfl,{ X3 with y:=B.y },by show X'.w.putObj l _=_;rw[hpe],hsim⟩
      | exit i =>
        simp only[Tree.run,qLq] at h2;subst h2;exact wpIn_exit ⟨rfl,{ X3 with y:=B.y },by show X'.w.putObj l _=_;rw[hpe],hsim⟩
def Ctx.frzC(X:Ctx)(b:Nat):Ctx:={ X with h:=X.h.set b .dead,M:=fun m=>X.M m\/X.σ b=some m }
theorem Ctx.frzC_ext {b:Nat}{cs:List AV}(hb:X.h[b]?=some (.cells cs)):Ext X (X.frzC b):=by
 refine Move.of (fun _ h=>.inl h) (fun _ _=>rfl) (fun b1 b2 hb1 h=>?_);cases h;refine⟨by simpa[Ctx.frzC] using hb1,rfl,fun sh1 m ⟨e1,l1,h1,h2⟩=>?_,fun _ _ _ m hm c T fr hc=>⟨c,T,fr,hc,rfl⟩⟩;have hbl:=qv hb;rcases h1 with h1|h1
 ·rcases q80 hbl h1 with⟨rfl,h3⟩|⟨hne,h1⟩
  ·cases h3
  ·exact⟨_,_,.inl h1,h2⟩
 ·rcases q80 hbl h1 with⟨rfl,h3⟩|⟨hne,h1⟩
  ·cases h3
  ·exact⟨_,_,.inr h1,h2⟩
theorem HSim.frzC (hs:HSim B X){b:Nat}{cs:List AV}(hb:X.h[b]?=some (.cells cs))(hni:B.imps.length<=b):HSim B (X.frzC b):=by
 have hx:=Ctx.frzC_ext hb;have hbl:=qv hb;have hown:∀b1 n1,(X.frzC b).own b1 n1->b1≠b/\X.own b1 n1:=by
  intro b1 n1 ⟨h1,k1,h2,h3⟩;rcases q80 hbl h2 with⟨rfl,rfl⟩|⟨hne,h2⟩
  ·cases h3
  ·exact⟨hne,h1,k1,h2,h3⟩
 have hob:∀m,X.σ b=some m->X.own b m:=fun m hm=>⟨hm,_,hb,rfl⟩;constructor
 ·intro b1 k1 h;rcases q80 hbl h with⟨rfl,rfl⟩|⟨hne,h1⟩
  ·trivial
  ·exact jJ.ext hx rfl (fun _ _=>rfl) (hs.blk b1 k1 h1)
 ·intro b1 b2 m h1 h2;exact hs.inj b1 b2 m (hown b1 m h1).2 (hown b2 m h2).2
 ·intro b1 m h1 h2;rcases h2 with h2|h2
  ·exact hs.notM b1 m (hown b1 m h1).2 h2
  ·exact(hown b1 m h1).1 (hs.inj b1 b m (hown b1 m h1).2 (hob m h2))
 ·intro m h;rcases h with h|h
  ·exact hs.ltM m h
  ·exact Ctx.own.lt hs (hob m h)
 ·intro m h;exact .inl (hs.M0 m h)
 ·intro m h;rcases h with h|h
  ·exact hs.newM m h
  ·exact .inr (hs.fresh b m (hob m h) hni)
 ·exact hs.os
 ·exact hs.tape
 ·exact hs.output
 ·exact hs.size
 ·exact hs.frame
 ·exact hs.imps
 ·intro b1 hb1;obtain⟨cs,h,hc⟩:=hs.impc b1 hb1;exact⟨cs,by simpa[Ctx.frzC,qLt (show b≠b1 by omega)] using h,hc⟩
 ·intro b1 n1 h1 h2;exact hs.fresh b1 n1 (hown b1 n1 h1).2 h2
 ·exact hs.kept
theorem qDX {a:AV}{s:Sh}{u:U}{v:Value}(h:uOf a=some (s,u))(hr:Rep X a v):RepU X.w X.M s u v:=by
 cases hr<;>simp only[uOf] at h<;>first|(cases h;done)|skip
 all_goals first|(cases h;exact .int _ _)|(cases h;exact .bool _)|(cases h;exact .str _)|skip
 rename_i himm;cases h;exact qag himm
theorem qtE{X:Ctx}:∀{cs:List AV} {sh:List Sh} {row:List U} {vs:List Value},qIV cs=some (sh,row)->RepL X cs vs->sh.length=vs.length/\row.length=vs.length /\
  ∀j (hj:j<sh.length),∃v,vs[j]?=some v/\RepU X.w X.M sh[j] (row.getD j (.i 0)) v
 | [],sh,row,vs,h,hr=>by
  simp only[qIV] at h;cases h;cases hr;exact⟨rfl,rfl,fun j hj=>absurd hj (qNw j)⟩
 | a::cs,sh,row,vs,h,hr=>by
  simp only[qIV] at h;split at h
  ·rename_i s u ss us h1 h2;cases h;cases hr with
   | cons q1 q2=>
    obtain⟨g1,g2,g3⟩:=qtE h2 q2;refine⟨by simp[g1],by simp[g2],fun j hj=>?_⟩;cases j with
    | zero=>exact⟨_,rfl,qDX h1 q1⟩
    | succ j=>
     obtain⟨v,k1,k2⟩:=g3 j (by simpa using hj);exact⟨v,by simpa using k1,by simpa using k2⟩
  ·cases h
theorem qxF (hs:Sim E B X st a)(b:Nat):∃X',X'.w=X.w/\Sim E B X' (qCu E.nimp b st) a:=by
 unfold qCu;split
 ·rename_i cs hb;split
  ·rename_i sh row hu hni;have hbX:X.h[b]?=some (.cells cs):=by rw[hs.h];exact hb
   have hni':B.imps.length<=b:=qLu hs.ni (Nat.le_of_ble_eq_true hni);have hx:=Ctx.frzC_ext hbX;have h1:=hs.hs.frzC hbX hni';have hsim:=hs.ext hx h1;obtain⟨n,c,T,g1,g2,g3⟩:=hs.hs.blk b _ hbX;obtain⟨k1,k2,k3⟩:=qtE hu (g3.ext hx);have hrows:Rows (X.frzC b).w (X.frzC b).M sh [row] ⟨n,0,none⟩:=by
    intro r j hj hr;have hr0:r=0:=by simpa using hr
    subst hr0;obtain⟨v,q1,q2⟩:=k3 j hj;refine⟨.inr g1,v,?_,q2⟩;show World.cell? X.w ⟨n,0+0*sh.length+j,none⟩=some v;rw[show 0+0*sh.length+j=j from by omega,zZ g2];simpa using q1
   refine⟨X.frzC b,rfl,hsim.hs,by show X.h.set b .dead=_;rw[hs.h],?_,hsim.fs,hsim.glob,hsim.df,hsim.ni,hsim.y,hsim.pin⟩;have key:∀{azz:List AV} {vs:List Value},RepL (X.frzC b) azz vs->RepL (X.frzC b) (azz.map (qKg b sh row)) vs:=by
    intro azz;induction azz with
    | nil=>intro vs h;cases h;exact .nil
    | cons x azz ih=>
     intro vs h;cases h with
     | cons q1 q2=>
      refine .cons ?_ (ih q2);cases x<;>first|exact q1|skip
      rename_i b' off;show Rep _ (if Nat.beq b' b=true then AV.eptr sh [row] 0 off else AV.ptr b' off) _;split
      ·rename_i hbb;obtain rfl:=qMs hbb;cases q1 with
       | ptr _ _ n' hb' hσ=>
        have hσ':X.σ b'=some n':=hσ;rw[g1] at hσ';cases hσ';have:=Rep.eptr (X:=X.frzC b') sh [row] 0 off ⟨n,0,none⟩ rfl (qLG 0) (by simp) hrows;simpa using this
      ·exact q1
   exact key hsim.t
  ·exact⟨X,rfl,hs⟩
 ·exact⟨X,rfl,hs⟩
theorem qyc (hs:Sim E B X st a)(ops:List Oper):∃X',X'.w=X.w/\Sim E B X' (qt0 E ops st) a:=by
 unfold qt0;split
 ·exact qxF hs _
 ·exact⟨X,rfl,hs⟩
theorem qcm (hm:P.follows .mixedOrders=true)(hE:E.tok P)(hS:E.specs P)(hL:E.loopsOK P)(hf:P.funcs[f]?=some fn){cb:Code}(hb:fn.body=some cb){callH:q97} (hcH:∀B,qD P E.iter f B->CallOK E P callH B) {callS:List Blk->q7w} (hc:qkr E P callS) (hmo:q6s E callS) {rangeH:qe4} (hrg:qkI E P rangeH) :∀(c:Code) (k:Nat),(∀j c',(zt c)[j]?=some c'->(zt cb)[k+j]?=some c') ->∀{B:Base} {X:Ctx} {st:St} {a:Act} {r:Ex×St} {n0:Nat},qD P E.iter f B->Sim E B X st a->(yY E callH callS rangeH f c k st).run=some r->c.wpIn (q5e B.ro) n0 P (qyw E B r) a X.w:=by
 intro c;induction c with
 | skip=>
  intro k _ B X st a r n0 hbo hs h;simp only[yY,Tree.run,qLq] at h;subst h;exact wpIn_skip ⟨rfl,X,rfl,hs⟩
 | label _=>
  intro k _ B X st a r n0 hbo hs h;simp only[yY,Tree.run,qLq] at h;subst h;exact wpIn_label ⟨rfl,X,rfl,hs⟩
 | region id ops draw=>
  intro k _ B X st a r n0 hbo hs h;simp only[yY] at h;obtain⟨s,h1,h2⟩:=bind_some h;simp only[Tree.run,qLq] at h2;subst h2;obtain⟨X0,hw0,hs0⟩:=qyc hs ops.toList;rw[<-hw0];cases draw with
  | true=>exact qvP hm hE hS (hcH B hbo) hc hmo hs0 h1 fun X' a' hs'=>⟨rfl,X',rfl,hs'⟩
  | false=>exact qsl hE (hcH B hbo) hs0 h1 fun X' a' hs'=>⟨rfl,X',rfl,hs'⟩
 | seq c d ihc ihd=>
  intro k hl B X st a r n0 hbo hs h;simp only[yY] at h;cases hfn:q9P E.loops f k with
  | some L=>
   rw[hfn] at h;obtain⟨fn',c1,c2,q1,q2,q3,q4⟩:=hL _ (qh7 hfn);simp only at q1 q3 q4;rw[hf] at q1;cases q1;rw[hb] at q2;cases q2;have:=hl 0 (.seq c d) (by simp[zt]);rw[qM8,q3] at this;cases this;exact q4 E B X st a r rfl rfl hbo hs h n0
  | none=>
  rw[hfn] at h;obtain⟨r1,h1,h2⟩:=bind_some h;apply wpIn_seq;have g1:=ihc (k+1) (fun j c' hj=>by have:=hl (1+j) c' (by simp only[zt];rw[Nat.add_comm,qMt,qLB (qv hj)];exact hj);rw[show k+1+j=k+(1+j) by omega];exact this) (n0:=n0) hbo hs h1;refine wpIn_mono g1 fun e a' w' ⟨he,X',hw,hs'⟩=>?_;subst hw;obtain⟨x1,s1⟩:=r1;cases x1 with
  | normal=>
   subst he;refine ihd (k+1+zT c) (fun j c' hj=>?_) hbo hs' h2;have:=hl (1+zT c+j) c' (by simp only[zt];rw[show 1+zT c+j=(zT c+j)+1 by omega,qMt,qLP (by rw[kE];omega),kE];rw[show zT c+j-zT c=j by omega];exact hj);rw[show k+1+zT c+j=k+(1+zT c+j) by omega];exact this
  | exit i=>
   simp only[Tree.run,qLq] at h2;subst he h2;exact⟨rfl,X',rfl,hs'⟩
  | ret=>
   simp only[Tree.run,qLq] at h2;subst he h2;exact⟨rfl,X',rfl,hs'⟩
 | cond x c d ihc ihd=>
  intro k hl B X st a r n0 hbo hs h;simp only[yY] at h;have hlc:=fun j c' (hj:(zt c)[j]?=some c')=>hl j c' (by simp only[zt];rw[qLB (qv hj)];exact hj);have hld:∀j c',(zt d)[j]?=some c'->(zt cb)[k+zT c+j]?=some c':=fun j c' hj=>by have:=hl (zT c+j) c' (by simp only[zt];rw[qLP (by rw[kE];omega),kE];rw[show zT c+j-zT c=j by omega];exact hj);rw[show k+zT c+j=k+(zT c+j) by omega];exact this
  have hx:=q9g hs x;cases hv:E.opd st.t x with
  | blit b=>
   rw[hv] at h hx;generalize hev:a.eval x=vx at hx;cases hx;cases b with
   | true=>exact wpIn_cond_true hev (ihc k hlc hbo hs h)
   | false=>exact wpIn_cond_false hev (ihd _ hld hbo hs h)
  | bool b=>
   rw[hv] at h hx;generalize hev:a.eval x=vx at hx;cases hx;cases x with
   | tmp t=>
    simp only at h;have ht:st.t[t]?=some (.bool b):=by
     simp only[Env.opd,qLr] at hv;cases hg:st.t[t]? with
     | none=>rw[hg] at hv;cases hv
     | some y=>rw[hg] at hv;simp at hv;rw[hv]
    have hs':=hs.lit ht;cases b with
    | true=>exact wpIn_cond_true hev (ihc k hlc hbo hs' h)
    | false=>exact wpIn_cond_false hev (ihd _ hld hbo hs' h)
   | _=>cases h
  | _=>rw[hv] at h;cases h
 | block id c ihc=>
  intro k hl B X st a r n0 hbo hs h;simp only[yY] at h;obtain⟨r1,h1,h2⟩:=bind_some h;apply wpIn_block;have g1:=@ihc k hl _ _ _ _ _ n0 hbo hs h1;refine wpIn_mono g1 fun e a' w' ⟨he,X',hw,hs'⟩=>?_;subst hw he;obtain⟨x1,s1⟩:=r1;cases x1 with
  | normal=>
   simp only[Tree.run,qLq] at h2;subst h2;exact⟨rfl,X',rfl,hs'⟩
  | ret=>
   simp only[Tree.run,qLq] at h2;subst h2;exact⟨rfl,X',rfl,hs'⟩
  | exit i=>
   simp only[Ex.out,Exit.inBlock];simp only at h2;by_cases hi:i=id
   ·rw[if_pos hi] at h2 ⊢;simp only[Tree.run,qLq] at h2;subst h2;exact⟨rfl,X',rfl,hs'⟩
   ·rw[if_neg hi] at h2 ⊢;simp only[Tree.run,qLq] at h2;subst h2;exact⟨rfl,X',rfl,hs'⟩
 | loop c ihc=>
  intro k hl B X st a r n0 hbo hs h;simp only[yY] at h;cases hfn:q9P E.loops f k with
  | none=>rw[hfn] at h;cases h
  | some L=>
   rw[hfn] at h;obtain⟨fn',c1,c2,q1,q2,q3,q4⟩:=hL _ (qh7 hfn);simp only at q1 q3 q4;rw[hf] at q1;cases q1;rw[hb] at q2;cases q2;have:=hl 0 (.loop c) (by simp[zt]);rw[qM8,q3] at this;cases this;exact q4 E B X st a r rfl rfl hbo hs h n0
 | exit id=>
  intro k _ B X st a r n0 hbo hs h;simp only[yY,Tree.run,qLq] at h;subst h;exact wpIn_exit ⟨rfl,X,rfl,hs⟩
 | ret  =>
  intro k _ B X st a r n0 hbo hs h;simp only[yY,Tree.run,qLq] at h;subst h;exact wpIn_ret ⟨rfl,X,rfl,hs⟩
 | goto _=>
  intro k _ B X st a r n0 hbo hs h;simp only[yY] at h;cases h
 | scope _ ihc=>
  intro k _ B X st a r n0 hbo hs h;simp only[yY] at h;cases h
 | rangeFunc x ps c d ihc ihd=>
  intro k hl B X st a r n0 hbo hs h;simp only[yY] at h;cases hx:E.opd st.t x with
  | fn g first caps=>
   rw[hx] at h;simp only at h;cases hcd:qtp E.iter g f k&&q8A E.iter f&&qyW st with
   | false=>rw[hcd] at h;cases h
   | true=>
    rw[hcd] at h;simp only at h;refine qEQ hrg hf hb (hl 0 _ (by simp[zt])) (fun B X st act r hbo hs hr n=>?_) (fun B X st act r hbo hs hr n=>?_) hbo hs hx hcd h
    ·refine ihc (k+1) (fun j c' hj=>?_) hbo hs hr;have:=hl (1+j) c' (by simp only[zt];rw[Nat.add_comm,qMt,qLB (qv hj)];exact hj);rw[show k+1+j=k+(1+j) by omega];exact this
    ·refine ihd (k+1+zT c) (fun j c' hj=>?_) hbo hs hr;have:=hl (1+zT c+j) c' (by simp only[zt];rw[show 1+zT c+j=(zT c+j)+1 by omega,qMt,qLP (by rw[kE];omega),kE];rw[show zT c+j-zT c=j by omega];exact hj);rw[show k+1+zT c+j=k+(1+zT c+j) by omega];exact this
  | _=>rw[hx] at h;cases h
 | _=>
  intro k hl B X st a r n0 hbo hs h;simp only[yY] at h;cases h
theorem qyj {w:World}{t:TypeId}{v u:Value}(h:(Instr.loadAt t v).run P w=.ok u w):∃ad,v=.pointer (some ad)/\(loadVar t ad).run P w=.ok u w:=by
 cases v with
 | pointer p=>
  cases p with
  | some ad=>exact⟨ad,rfl,by simpa[Instr.loadAt,Instr.sureAddr] using h⟩
  | none=>simp[Instr.loadAt,Instr.sureAddr] at h
 | _=>simp[Instr.loadAt,Instr.sureAddr] at h
def qKf(tmps:Array Value):ResultVar->Sem Value
 | .tmp t=>pure (tmps.getD t undef)
 | .cell a t=>do loadVar t (<-asAddr (tmps.getD a undef))
theorem qBH (fn:Func)(tmps:Array Value):results fn tmps=(fn.results.mapM (qKf tmps) >>= fun vs=>pure (if h:vs.size=1 then vs[0] else .tuple vs)):=by unfold results;congr 1
theorem qkH{E:Env}{P:Program}(hE:E.tok P){B:Base}{X:Ctx}{st:St}{a:Act}(hs:Sim E B X st a):∀(l:List ResultVar) (vs:List AV),qoP E st.h st.t l=some vs ->
  ∃us,(l.mapM (qKf a.tmps)).run P X.w=.ok us X.w/\RepL X vs us
 | [],vs,h=>by simp only[qoP,qLq] at h;subst h;exact⟨[],by simp,.nil⟩
 | .tmp i::l,vs,h=>by
  simp only[qoP] at h;split at h
  ·rename_i r hr;cases h;obtain⟨us,h1,h2⟩:=qkH hE hs l r hr;have:=q9g hs (.tmp i);simp only[Env.opd,Act.eval] at this;exact⟨_::us,by simp[List.mapM_cons,qKf,h1],.cons this h2⟩
  ·cases h
 | .cell i ty::l,vs,h=>by
  simp only[qoP] at h;split at h
  ·rename_i v h' n r hld hr;cases h;obtain⟨us,h1,h2⟩:=qkH hE hs l r hr;have hv:=q9g hs (.tmp i);simp only[Env.opd,Act.eval] at hv;rw[<-hs.h] at hld;obtain⟨av,u,g1,g2,g3⟩:=qil hE hs.hs hv (r:=(v,h',n)) (by rw[hld];rfl);obtain⟨ad,g4,g5⟩:=qyj g2;have:v=av:=congrArg Prod.fst g1;subst this;refine⟨u::us,?_,.cons g3 h2⟩;simp only[List.mapM_cons,qKf,qLv,g4,asAddr,qM1,qLA,g5,h1]
  ·cases h
theorem RepL.len:∀{azz:List AV} {vs:List Value},RepL X azz vs->azz.length=vs.length
 | _,_,.nil=>rfl
 | _,_,.cons _ t=>by simp[t.len]
theorem quf (hE:E.tok P)(hs:Sim E B X st a){vs:List AV}(h:qoP E st.h st.t fn.results.toList=some vs) :∃u,(results fn a.tmps).run P X.w=.ok u X.w/\Rep X (qCY vs) u:=by
 obtain⟨us,h1,h2⟩:=qkH hE hs _ _ h;have hm:(fn.results.mapM (qKf a.tmps)).run P X.w=.ok us.toArray X.w:=by rw[Array.mapM_eq_mapM_toList,Sem.run_map,h1];rfl
 rw[qBH,qLv,hm];simp only[qLA,qM1];have hl:=h2.len;cases h2 with
 | nil=>exact⟨_,rfl,.tuple [] [] .nil⟩
 | cons g1 g2=>
  cases g2 with
  | nil=>exact⟨_,rfl,by simpa[qCY] using g1⟩
  | cons g3 g4=>
   refine⟨_,rfl,?_⟩;rw[dif_neg (by simp)];exact .tuple _ _ (.cons g1 (.cons g3 g4))
theorem qDp {args:List AV}{vargs:List Value}(h:RepL X args vargs):RepL X (qAi fn args) (vargs.toArray++Array.replicate (fn.ntmps-vargs.toArray.size) undef).toList:=by
 have hrep:∀n,RepL X (List.replicate n .skip) (List.replicate n undef):=by
  intro n;induction n with
  | zero=>exact .nil
  | succ n ih=>simp only[qMU];exact .cons .skip ih
 unfold qAi;simp only[qNz,Array.toList_replicate,List.size_toArray];rw[h.len];exact h.append (hrep _)
def Env.bodies(E:Env)(P:Program):Prop:=∀x,x∈E.body->P.funcs[x.1]?=some x.2/\(x.2.name == "runtime.NumGoroutine")=false
theorem qlR (hm:P.follows .mixedOrders=true)(hE:E.tok P)(hS:E.specs P)(hL:E.loopsOK P)(hf:P.funcs[f]?=some fn){callH:q97} (hcH:∀B,qD P E.iter f B->CallOK E P callH B) {callS:List Blk->q7w} (hc:qkr E P callS) (hmo:q6s E callS) {rangeH:qe4} (hrg:qkI E P rangeH){args:List AV} {st:St} {r:AV×St} {B:Base} {X:Ctx} {vargs:List Value} (hro:B.ro=none) (hbo:qD P E.iter f B) (hs:SimF E B X st) (ha:RepL X args vargs) (h:(que E callS callH rangeH f fn args st).run=some r) :fn.body.isNone=false/\Calls P f vargs.toArray X.w fun e w'=>∃v X',e=.returned v/\X'.w=w'/\Rep X' r.1 v/\SimF E B X' r.2:=by
 unfold que at h;cases hb:fn.body with
 | none=>rw[hb] at h;cases h
 | some c=>
  rw[hb] at h;refine⟨rfl,qEc.1 (callsIn_of_wp_marks (F:=q5e none) (n:=0) hf hb trivial ?_)⟩;obtain⟨r1,h1,h2⟩:=bind_some h;have hsim:Sim E B X { t:=qAi fn args,fs:=st.t::st.fs,h:=st.h,pend:=st.pend } { tmps:=vargs.toArray++Array.replicate (fn.ntmps-vargs.toArray.size) undef,defers:=[] }:=
   ⟨hs.hs,hs.h,qDp ha,hs.fs,hs.glob,qxM.nil,hs.ni,hs.y,hs.pin⟩
  have hcode:=qcm (n0:=0) hm hE hS hL hf hb hcH hc hmo hrg c 0 (fun j c' hj=>by rw[qMe];exact hj) hbo hsim h1;rw[hro] at hcode;refine wpIn_mono hcode fun e a' w' ⟨he,X',hw,hs'⟩=>?_;subst he hw;obtain⟨x1,s1⟩:=r1;have fin:∀{vs:List AV} {caller:List AV} {fs:List (List AV)},qoP E s1.h s1.t fn.results.toList=some vs->s1.fs=caller::fs->r=(qCY vs,{ t:=caller,fs:=fs,h:=s1.h,pend:=s1.pend }) ->
    LeavesInM (q5e none) 0 P fn a'.tmps (fun e w'=>∃v X',e=.returned v/\X'.w=w'/\Rep X' r.1 v/\SimF E B X' r.2) a'.defers .returning X'.w:=by
   intro vs caller fs hr hfs hre;obtain⟨Ds,d1,_⟩:=hs'.df;rw[d1];refine qvF Ds hs' d1 fun X2 hs2=>?_;obtain⟨u,g1,g2⟩:=quf hE hs2 hr;refine⟨u,g1,u,X2,rfl,rfl,by rw[hre];exact g2,?_⟩;rw[hre];exact⟨hs2.hs,hs2.h,by rw[<-hfs];exact hs2.fs,hs2.glob,hs2.ni,hs2.y,hs2.pin⟩
  unfold qFP at h2;cases x1 with
  | exit i=>simp only at h2;cases h2
  | normal=>
   simp only at h2;split at h2
   ·rename_i vs caller fs hr hfs;cases h2;exact fin hr hfs rfl
   ·cases h2
  | ret=>
   simp only at h2;split at h2
   ·rename_i vs caller fs hr hfs;cases h2;exact fin hr hfs rfl
   ·cases h2
theorem uB (hf:P.funcs[f]?=some fn)(hn:(fn.name == "runtime.NumGoroutine")=false)(hb:fn.body.isNone=false):qcs P f:=by intro args w;unfold callFunc;rw[qLv];show (Result.ok P w).andThen _=_;simp only[qLA,hf,hn,hb,qLQ,if_false,qM1]
theorem qIs {all:Array Oper}{k:Nat}{o:Oper}{s s':St}(h:(qrV all k o s).run=some s')(u:St)(hu:u.t=s.t):(qrV all k o u).run=some { u with t:=s'.t }:=by
 unfold qrV at h ⊢;split at h
 ·rename_i hg;rw[if_pos hg];split at h
  ·rename_i d hd;simp only[hu];split at h
   ·rename_i b hb;simp only[Tree.run] at h ⊢;cases b<;>(simp only[qLq] at h ⊢;subst h;rfl)
   ·rename_i hb;cases hx:s.t[d]? with
    | none=>simp only[Tree.run,qLq] at h ⊢;subst h;rw[<-hu]
    | some v=>
     rw[hx] at hb;cases v<;>first|(exact absurd rfl (hb _))|(simp only[Tree.run,qLq] at h ⊢;subst h;rw[<-hu])
  ·simp only[Tree.run,qLq] at h ⊢;subst h;rw[<-hu]
 ·rename_i hg;rw[if_neg hg];simp only[Tree.run,qLq] at h ⊢;subst h;rw[<-hu]
theorem qn2{E:Env}{callH:q97}{all:Array Oper}{st0:St}:∀(l:List Oper) (k:Nat) (t t':List AV),(qsO E st0.h all k l t).run=some t'->(qkR E callH all k l { st0 with t:=t }).run=some { st0 with t:=t' }
 | [],k,t,t',h=>by simp only[qsO,Tree.run,qLq] at h;subst h;rfl
 | o::rest,k,t,t',h=>by
  simp only[qsO] at h;simp only[qkR];cases hw:q6Z all o t with
  | none=>rw[hw] at h;cases h
  | some b=>
   rw[hw] at h;cases b with
   | false=>
    simp only at h ⊢;exact qn2 rest (k+1) _ t' h
   | true=>
    simp only at h ⊢;cases hst:qdd E o.op with
    | false=>rw[hst] at h;cases h
    | true=>
     rw[hst] at h;obtain⟨r,h1,h2⟩:=bind_some h;obtain⟨s,h3,h4⟩:=bind_some h2;have hr:=qsT hst h1;have hstep:(qpK E callH o { st0 with t:=t }).run=some { st0 with t:=qjp t o.dst r.1 }:=by
      unfold qpK;split
      ·rename_i x args tys hop;rw[hop] at hst;cases hst
      ·rw[Tree.run_bind,h1];obtain⟨r1,r2⟩:=r;simp only at hr;subst hr;rfl
     rw[Tree.run_bind,hstep];simp only[qLW];rw[Tree.run_bind,qIs h3 { st0 with t:=qjp t o.dst r.1 } rfl];exact qn2 rest (k+1) _ t' h4
theorem qvV {callH:q97}{callS:List Blk->q7w}{rangeH:qe4}{st0:St}:∀(c:Code) (k:Nat) (t:List AV) (r:Ex×List AV),(q2j E st0.h f c k t).run=some r ->(yY E callH callS rangeH f c k { st0 with t:=t }).run=some (r.1,{ st0 with t:=r.2 }):=by
 intro c;induction c with
 | skip=>intro k t r h;simp only[q2j,Tree.run,qLq] at h;subst h;rfl
 | label _=>intro k t r h;simp only[q2j,Tree.run,qLq] at h;subst h;rfl
 | region id ops draw=>
  intro k t r h;simp only[q2j] at h;cases draw with
  | true=>cases h
  | false=>
   simp only at h;cases hfz:qI4 E ops.toList t with
   | some b=>rw[hfz] at h;cases h
   | none=>
   rw[hfz] at h;obtain⟨s,h1,h2⟩:=bind_some h;simp only[Tree.run,qLq] at h2;subst h2;simp only[yY];have e0:qt0 E ops.toList { st0 with t:=t }={ st0 with t:=t }:=by unfold qt0;simp only;rw[hfz]
   rw[e0,Tree.run_bind,qn2 (callH:=callH) _ _ _ _ h1];rfl
 | seq c d ihc ihd=>
  intro k t r h;simp only[q2j] at h;simp only[yY];cases hfn:q9P E.loops f k with
  | some L=>rw[hfn] at h;cases h
  | none=>
   rw[hfn] at h;simp only at h ⊢;obtain⟨s,h1,h2⟩:=bind_some h;rw[Tree.run_bind,ihc _ _ _ h1];simp only[qLW];obtain⟨e,s2⟩:=s;cases e with
   | normal=>exact ihd _ _ _ h2
   | ret=>simp only[Tree.run,qLq] at h2 ⊢;subst h2;rfl
   | exit i=>simp only[Tree.run,qLq] at h2 ⊢;subst h2;rfl
 | cond x c d ihc ihd=>
  intro k t r h;simp only[q2j] at h;simp only[yY];split at h
  ·exact ihc _ _ _ h
  ·exact ihd _ _ _ h
  ·rename_i b hx;cases x with
   | tmp d'=>
    simp only[Tree.run] at h ⊢;cases b with
    | true=>exact ihc _ _ _ h
    | false=>exact ihd _ _ _ h
   | _=>cases h
  ·cases h
 | block id c ihc=>
  intro k t r h;simp only[q2j] at h;simp only[yY];obtain⟨s,h1,h2⟩:=bind_some h;rw[Tree.run_bind,ihc _ _ _ h1];simp only[qLW];obtain⟨e,s2⟩:=s;cases e with
  | normal=>simp only[Tree.run,qLq] at h2 ⊢;subst h2;rfl
  | ret=>simp only[Tree.run,qLq] at h2 ⊢;subst h2;rfl
  | exit i=>
   simp only at h2 ⊢;split at h2
   ·rename_i hi;rw[if_pos hi];simp only[Tree.run,qLq] at h2 ⊢;subst h2;rfl
   ·rename_i hi;rw[if_neg hi];simp only[Tree.run,qLq] at h2 ⊢;subst h2;rfl
 | exit id=>intro k t r h;simp only[q2j,Tree.run,qLq] at h;subst h;rfl
 | ret=>intro k t r h;simp only[q2j,Tree.run,qLq] at h;subst h;rfl
 | _=>intro k t r h;simp only[q2j] at h;cases h
theorem qwq {callH:q97}{rangeH:qe4}{args:List AV}{v:AV}(h:(qyS E st.h f fn args).run=some v):(que E qvo callH rangeH f fn args st).run=some (v,st):=by
 unfold qyS at h;unfold que;cases hb:fn.body with
 | none=>rw[hb] at h;cases h
 | some c=>
  rw[hb] at h;simp only at h ⊢;obtain⟨r,h1,h2⟩:=bind_some h;rw[Tree.run_bind,qvV (callH:=callH) (callS:=qvo) (rangeH:=rangeH) (st0:={ t:=[],fs:=st.t::st.fs,h:=st.h,pend:=st.pend }) c 0 _ r h1];simp only[qLW];obtain⟨e,t'⟩:=r;unfold qFP;cases e with
  | exit i=>cases h2
  | normal=>
   simp only at h2 ⊢;cases hr:qoP E st.h t' fn.results.toList with
   | none=>rw[hr] at h2;cases h2
   | some vs=>rw[hr] at h2;cases h2;rfl
  | ret=>
   simp only at h2 ⊢;cases hr:qoP E st.h t' fn.results.toList with
   | none=>rw[hr] at h2;cases h2
   | some vs=>rw[hr] at h2;cases h2;rfl
theorem qkJ {it:List (FuncId×FuncId×Nat)}(h:q8A it f=true)(hB:B.ro.isSome=true->2<=B.fs.length):qD P it f B:=by
 refine⟨hB,?_⟩;unfold q8A at h;split at h
 ·cases h
 ·rename_i hn;rw[hn];trivial
theorem qne (E:Env)(P:Program):qkI E P qu9:=fun _ _ _ _ _ _ _ _ _ _ _ _ _ h=>by cases h
theorem qEy (B:Base):CallOK E P (fun _ _ _=>.fail) B:=⟨(fun f args st r X a vargs _ _ h=>by cases h),(fun args st r X a vargs _ _ h=>by cases h)⟩
theorem qcj (hm:P.follows .mixedOrders=true)(hE:E.tok P)(hS:E.specs P)(hL:E.loopsOK P)(hb:E.bodies P):qkr E P (q8N E):=by
 intro f args st v B X a vargs hs ha h;unfold q8N at h;cases hsp:E.spec.find? fun x=>x.1==f with
 | some G=>rw[hsp] at h;exact qvh hS f args st v B X a vargs hs ha h
 | none=>
  rw[hsp] at h;simp only at h;cases hbd:E.body.find? fun x=>x.1==f with
  | none=>rw[hbd] at h;cases h
  | some fn=>
   rw[hbd] at h;simp only at h;cases hni:q8A E.iter f with
   | false=>rw[hni] at h;cases h
   | true=>
   rw[hni] at h;simp only at h;have hx:=hb fn (qMm hbd);have hfe:fn.1=f:=by simpa using qMM hbd
   rw[hfe] at hx
   let B':Base:={ B with fs:=a.tmps.toList::B.fs,ro:=none,pin:=fun _=>X.kept }
   have hF:SimF E B' X st:=⟨hs.hs.base rfl rfl rfl,hs.h,.cons hs.t hs.fs,hs.glob,hs.ni,hs.y,fun p hp=>hp⟩;have h1:=qwq (callH:=fun _ _ _=>.fail) (rangeH:=qu9) h;obtain⟨g1,g2⟩:=qlR hm hE hS hL hx.1 (fun B _=>qEy B) (callS:=qvo) (fun _ _ _ _ _ _ _ _ _ _ h=>by cases h) (qvW E) (qne E P) (B:=B') rfl (qkJ hni (fun h=>by cases h)) hF ha h1;refine⟨uB hx.1 hx.2 g1 _,g2.mono fun e w' ⟨u,X',e1,e2,e3,e4⟩=>⟨u,X',e1,e2,e3,?_⟩⟩;have hpin:∀p,p∈X.kept->p∈X'.kept:=e4.pin;have hfs:RepLL X' (st.t::st.fs) (a.tmps.toList::B.fs):=e4.fs;obtain⟨Ds,d1,d2,d3⟩:=hs.df;refine⟨e4.hs.base rfl rfl rfl,e4.h,?_,?_,e4.glob,⟨Ds,d1,d2,fun D hD=>⟨hpin _ (d3 D hD).1,(d3 D hD).2⟩⟩,hs.ni,e4.y,fun p hp=>hpin p (hs.pin p hp)⟩
   ·cases hfs with|cons k1 k2=>exact k1
   ·cases hfs with|cons k1 k2=>exact k2
theorem qh9 (hm:P.follows .mixedOrders=true)(hE:E.tok P)(hS:E.specs P)(hL:E.loopsOK P)(hbs:E.bodies P)(hf:P.funcs[f]?=some fn){callH:q97} (hcH:∀B,qD P E.iter f B->CallOK E P callH B) {rangeH:qe4} (hrg:qkI E P rangeH){args:List AV} {st:St} {r:AV×St} {B:Base} {X:Ctx} {vargs:List Value} (hro:B.ro=none) (hbo:qD P E.iter f B) (hs:SimF E B X st) (ha:RepL X args vargs) (h:(qzR E callH rangeH f fn args st).run=some r) :fn.body.isNone=false/\Calls P f vargs.toArray X.w fun e w'=>∃v X',e=.returned v/\X'.w=w'/\Rep X' r.1 v/\SimF E B X' r.2:=qlR hm hE hS hL hf hcH (qcj hm hE hS hL hbs) (q82 E) hrg hro hbo hs ha h
theorem qeE (hm:P.follows .mixedOrders=true)(hE:E.tok P)(hS:E.specs P)(hL:E.loopsOK P)(hb:E.bodies P){callH:q97}(hcH:∀B,CallOK E P callH B):qkI E P (qkj E callH):=by
 intro g y args st r B X vargs hs hbo hy hro ha h;unfold qkj at h;cases hbd:E.body.find? fun x=>x.1==g with
 | none=>rw[hbd] at h;cases h
 | some fn=>
  rw[hbd] at h;have hx:=hb fn (qMm hbd);have hfe:fn.1=g:=by simpa using qMM hbd
  rw[hfe] at hx;obtain⟨g1,g2⟩:=qh9 hm hE hS hL hb hx.1 (callH:=qF3 y callH) (fun B' hB'=>⟨(hcH B').fn,hy B' hB'⟩) (qne E P) hro hbo hs ha h;exact⟨uB hx.1 hx.2 g1 _,g2⟩
theorem qhU{E:Env}{P:Program}(hm:P.follows .mixedOrders=true)(hE:E.tok P)(hS:E.specs P)(hL:E.loopsOK P)(hb:E.bodies P):∀n B,CallOK E P (q9C E n) B
 | 0,_=>⟨(fun f args st r X a vargs _ _ h=>by simp only[q9C] at h;cases h),(fun args st r X a vargs _ _ h=>by simp only[q9C] at h;cases h)⟩
 | n+1,B=>⟨(fun f args st r X a vargs hs ha h=>by
  simp only[q9C] at h;cases hdl:qIG E f with
  | some e=>
   rw[hdl] at h;have hD:=qvK hS hdl;exact⟨hD.1 _,qwZ hE hD hs ha h⟩
  | none=>
  rw[hdl] at h;simp only at h;cases hsp:E.spec.find? fun x=>x.1==f with
  | some G=>
   rw[hsp] at h;have hG:=hS.sp G (qMm hsp);have hfe:G.1=f:=by simpa using qMM hsp
   rw[hfe] at hG;exact⟨hG.1 _,q8n hG hs ha h⟩
  | none=>
   rw[hsp] at h;cases hbd:E.body.find? fun x=>x.1==f with
   | none=>rw[hbd] at h;cases h
   | some fn=>
    rw[hbd] at h;simp only at h;cases hni:q8A E.iter f with
    | false=>rw[hni] at h;cases h
    | true=>
    rw[hni] at h;simp only at h;obtain⟨r1,h1,h2⟩:=bind_some h;simp only[Tree.run,qLq] at h2;subst h2;have hx:=hb fn (qMm hbd);have hfe:fn.1=f:=by simpa using qMM hbd
    rw[hfe] at hx
    let B':Base:={ B with fs:=a.tmps.toList::B.fs,ro:=none,pin:=fun _=>X.kept }
    have hF:SimF E B' X st:=⟨hs.hs.base rfl rfl rfl,hs.h,.cons hs.t hs.fs,hs.glob,hs.ni,hs.y,fun p hp=>hp⟩;obtain⟨g1,g2⟩:=qh9 hm hE hS hL hb hx.1 (fun B _=>qhU hm hE hS hL hb n B) (qeE hm hE hS hL hb (qhU hm hE hS hL hb n)) (B:=B') rfl (qkJ hni (fun h=>by cases h)) hF ha h1;refine⟨uB hx.1 hx.2 g1 _,g2.mono fun e w' ⟨v,X',e1,e2,e3,e4⟩=>⟨v,X',e1,e2,e3,?_⟩⟩;have hpin:∀p,p∈X.kept->p∈X'.kept:=e4.pin;have hfs:RepLL X' (r1.2.t::r1.2.fs) (a.tmps.toList::B.fs):=e4.fs;obtain⟨Ds,d1,d2,d3⟩:=hs.df;refine⟨e4.hs.base rfl rfl rfl,e4.h,?_,?_,e4.glob,⟨Ds,d1,d2,fun D hD=>⟨hpin _ (d3 D hD).1,(d3 D hD).2⟩⟩,hs.ni,e4.y,fun p hp=>hpin p (hs.pin p hp)⟩
    ·cases hfs with|cons k1 k2=>exact k1
    ·cases hfs with|cons k1 k2=>exact k2),
  (fun args st r X a vargs _ _ h=>by simp only[q9C] at h;cases h)⟩
theorem qvB (hm:P.follows .mixedOrders=true)(hE:E.tok P)(hS:E.specs P)(hL:E.loopsOK P)(hb:E.bodies P)(hf:P.funcs[f]?=some fn){n:Nat} {B:Base} {X:Ctx} {args:List AV} {vargs:List Value} {r:AV×List Blk} (hs:HSim B X) (h0:B.imps.length<=E.nimp) (hgl:q5G E.glob X) (ha:RepL X args vargs)(h:(qze E n f fn args X.h).run=some r) :Calls P f vargs.toArray X.w fun e w'=>∃v X',e=.returned v/\X'.w=w'/\Rep X' r.1 v/\X'.h=r.2/\HSim B X'/\X'.y=X.y:=by
 unfold qze at h;cases hni:q8A E.iter f with
 | false=>rw[hni] at h;cases h
 | true=>
 rw[hni] at h;simp only at h;obtain⟨r1,h1,h2⟩:=bind_some h;simp only[Tree.run,qLq] at h2;subst h2
 let B0:Base:={ B with fs:=[[]],ro:=none,y:=X.y,pin:=fun _=>[] }
 have hF:SimF E B0 X { t:=[],fs:=[],h:=X.h,pend:=none }:=⟨hs.base rfl rfl rfl,rfl,.cons .nil .nil,hgl,h0,rfl,fun p hp=>by cases hp⟩;obtain⟨_,g2⟩:=qh9 hm hE hS hL hb hf (fun B _=>qhU hm hE hS hL hb n B) (qeE hm hE hS hL hb (qhU hm hE hS hL hb n)) (B:=B0) rfl (qkJ hni (fun h=>by cases h)) hF ha h1;refine g2.mono fun e w' ⟨v,X',e1,e2,e3,e4⟩=>⟨v,X',e1,e2,e3,e4.h,e4.hs.base rfl rfl rfl,e4.y⟩
end Go.Eng

namespace Go.Eng
variable {X:Ctx}
inductive PK where
 | i|b|s|r
inductive PV where
 | i (n:Int)|b (x:Bool)|s (l:qLp)|r (l:R)
def PV.kind:PV->PK|.i _=>.i|.b _=>.b|.s _=>.s|.r _=>.r
def PV.toI:PV->Int|.i n=>n|_=>0
def PV.toB:PV->Bool|.b x=>x|_=>false
def PV.toS:PV->List UInt8|.s x=>x|_=>[]
def PV.toR:PV->R|.r x=>x|_=>[]
inductive AP where
 | any|yld
 | int (k:IntKind)|bool|str|blit (b:Bool)
 | nilp|ptr (b off:Nat)|eptr (sh:List Sh) (off:Nat)|mptr (sh:List Sh) (off:Nat)|vptr (b off:Nat)
 | nils|imm (sh:List Sh)|vec (b:Nat)
 | nilf|fn (f:FuncId) (first caps:List AP)
 | agg (l:List AP)|tuple (l:List AP)
def qz:Nat->List AP->List AP
 | 0,l=>l
 | n+1,l=>.any::qz n l
def qDg:Option (List PV)->Option (List PV)->Option (List PV)
 | some a,some b=>some (a++b)
 | _,_=>none
mutual
def AP.take:AP->AV->Option (List PV)
 | .any,_=>some []
 | .yld,.yld=>some []
 | .int k,.int k' n=>if k=k' then some [.i n] else none
 | .int k,.ilit k' n=>if k=k' then some [.i n] else none
 | .bool,.bool b=>some [.b b]
 | .bool,.blit b=>some [.b b]
 | .str,.str s=>some [.s s]
 | .blit b,.blit b'=>if b=b' then some [] else none
 | .nilp,.nilp=>some []
 | .ptr b off,.ptr b' off'=>if b=b'/\off=off' then some [] else none
 | .eptr sh off,.eptr sh' l i off'=>if Sh.beqL sh sh'=true/\off=off' then some [.r l,.i i] else none
 | .mptr _ _,.nilp=>some [.b false,.r [],.i 0]
 | .mptr sh off,.eptr sh' l i off'=>if Sh.beqL sh sh'=true/\off=off' then some [.b true,.r l,.i i] else none
 | .mptr sh off,.mptr c sh' l i off'=>if Sh.beqL sh sh'=true/\off=off' then some [.b c,.r l,.i i] else none
 | .vptr b off,.vptr b' i off'=>if b=b'/\off=off' then some [.i i] else none
 | .nils,.nils=>some []
 | .imm sh,.imm sh' l=>if Sh.beqL sh sh'=true then some [.r l] else none
 | .imm _,.nils=>some [.r []]
 | .vec b,.vec b'=>if b=b' then some [] else none
 | .nilf,.nilf=>some []
 | .fn f p q,.fn g a c=>if f=g then qDg (AP.takeL p a) (AP.takeL q c) else none
 | .agg l,.agg a=>AP.takeL l a
 | .tuple l,.tuple a=>AP.takeL l a
 | _,_=>none
def AP.takeL:List AP->List AV->Option (List PV)
 | [],[]=>some []
 | p::l,a::azz=>qDg (p.take a) (AP.takeL l azz)
 | _,_=>none
end
mutual
def AP.make:AP->List PV->AV×List PV
 | .any,ps=>(.undef,ps)
 | .yld,ps=>(.yld,ps)
 | .int k,.i n::ps=>(.int k n,ps)
 | .bool,.b x::ps=>(.bool x,ps)
 | .str,.s x::ps=>(.str x,ps)
 | .blit b,ps=>(.blit b,ps)
 | .nilp,ps=>(.nilp,ps)
 | .ptr b off,ps=>(.ptr b off,ps)
 | .eptr sh off,.r l::.i i::ps=>(.eptr sh l i off,ps)
 | .mptr sh off,.b c::.r l::.i i::ps=>(.mptr c sh l i off,ps)
 | .vptr b off,.i i::ps=>(.vptr b i off,ps)
 | .nils,ps=>(.nils,ps)
 | .imm sh,.r l::ps=>(.imm sh l,ps)
 | .vec b,ps=>(.vec b,ps)
 | .nilf,ps=>(.nilf,ps)
 | .fn f p q,ps=>let x:=AP.makeL p ps;let y:=AP.makeL q x.2;(.fn f x.1 y.1,y.2)
 | .agg l,ps=>let x:=AP.makeL l ps;(.agg x.1,x.2)
 | .tuple l,ps=>let x:=AP.makeL l ps;(.tuple x.1,x.2)
 | _,ps=>(.undef,ps)
def AP.makeL:List AP->List PV->List AV×List PV
 | [],ps=>([],ps)
 | p::l,ps=>let x:=p.make ps;let y:=AP.makeL l x.2;(x.1::y.1,y.2)
end
mutual
def AP.kinds:AP->List PK
 | .int _=>[.i]|.bool=>[.b]|.str=>[.s]
 | .eptr _ _=>[.r,.i]|.mptr _ _=>[.b,.r,.i]|.vptr _ _=>[.i]|.imm _=>[.r]
 | .fn _ p q=>AP.kindsL p++AP.kindsL q
 | .agg l=>AP.kindsL l
 | .tuple l=>AP.kindsL l
 | _=>[]
def AP.kindsL:List AP->List PK
 | []=>[]
 | p::l=>p.kinds++AP.kindsL l
end
theorem q1a {a b:Option (List PV)}{c:List PV}(h:qDg a b=some c):∃x y,a=some x/\b=some y/\c=x++y:=by cases a<;>cases b<;>simp[qDg] at h;exact⟨_,_,rfl,rfl,h.symm⟩
mutual
theorem AP.take_ok{X:Ctx}:∀(p:AP) (a:AV) (ps rest:List PV),p.take a=some ps->(p.make (ps++rest)).2=rest/\ps.map PV.kind=p.kinds/\∀v,Rep X a v->Rep X (p.make (ps++rest)).1 v
 | .any,a,ps,rest,h=>by simp only[AP.take,qLq] at h;subst h;exact⟨rfl,rfl,fun v _=>.undef v⟩
 | .yld,a,ps,rest,h=>by
  cases a<;>simp only[AP.take] at h<;>first|(cases h;done)|skip
  cases h;exact⟨rfl,rfl,fun v hv=>hv⟩
 | .int k,a,ps,rest,h=>by
  cases a<;>simp only[AP.take] at h<;>first|(cases h;done)|skip
  all_goals
   split at h
   ·rename_i hk;cases h;subst hk;refine⟨rfl,rfl,fun v hv=>?_⟩;cases hv;exact .int _ _
   ·cases h
 | .bool,a,ps,rest,h=>by
  cases a<;>simp only[AP.take] at h<;>first|(cases h;done)|skip
  all_goals
   cases h;refine⟨rfl,rfl,fun v hv=>?_⟩;cases hv;exact .bool _
 | .str,a,ps,rest,h=>by
  cases a<;>simp only[AP.take] at h<;>first|(cases h;done)|skip
  cases h;exact⟨rfl,rfl,fun v hv=>hv⟩
 | .blit b,a,ps,rest,h=>by
  cases a<;>simp only[AP.take] at h<;>first|(cases h;done)|skip
  split at h
  ·rename_i hb;cases h;subst hb;exact⟨rfl,rfl,fun v hv=>hv⟩
  ·cases h
 | .nilp,a,ps,rest,h=>by
  cases a<;>simp only[AP.take] at h<;>first|(cases h;done)|skip
  cases h;exact⟨rfl,rfl,fun v hv=>hv⟩
 | .ptr b off,a,ps,rest,h=>by
  cases a<;>simp only[AP.take] at h<;>first|(cases h;done)|skip
  split at h
  ·rename_i hb;cases h;obtain⟨rfl,rfl⟩:=hb;exact⟨rfl,rfl,fun v hv=>hv⟩
  ·cases h
 | .eptr sh off,a,ps,rest,h=>by
  cases a<;>simp only[AP.take] at h<;>first|(cases h;done)|skip
  split at h
  ·rename_i hb;cases h;obtain⟨hb,rfl⟩:=hb;have:=Sh.beqL_eq _ _ hb;subst this;exact⟨rfl,rfl,fun v hv=>hv⟩
  ·cases h
 | .mptr sh off,a,ps,rest,h=>by
  cases a<;>simp only[AP.take] at h<;>first|(cases h;done)|skip
  ·cases h;refine⟨rfl,rfl,fun v hv=>?_⟩;cases hv;exact .mnil _ _ _ _
  ·split at h
   ·rename_i hb;cases h;obtain⟨hb,rfl⟩:=hb;have:=Sh.beqL_eq _ _ hb;subst this;refine⟨rfl,rfl,fun v hv=>?_⟩;cases hv with
    | eptr _ _ _ _ a h1 h2 h3 h4=>exact .mptr _ _ _ _ a h1 h2 h3 h4
   ·cases h
  ·split at h
   ·rename_i hb;cases h;obtain⟨hb,rfl⟩:=hb;have:=Sh.beqL_eq _ _ hb;subst this;exact⟨rfl,rfl,fun v hv=>hv⟩
   ·cases h
 | .vptr b off,a,ps,rest,h=>by
  cases a<;>simp only[AP.take] at h<;>first|(cases h;done)|skip
  split at h
  ·rename_i hb;cases h;obtain⟨rfl,rfl⟩:=hb;exact⟨rfl,rfl,fun v hv=>hv⟩
  ·cases h
 | .nils,a,ps,rest,h=>by
  cases a<;>simp only[AP.take] at h<;>first|(cases h;done)|skip
  cases h;exact⟨rfl,rfl,fun v hv=>hv⟩
 | .imm sh,a,ps,rest,h=>by
  cases a<;>simp only[AP.take] at h<;>first|(cases h;done)|skip
  ·cases h;refine⟨rfl,rfl,fun v hv=>?_⟩;cases hv;exact .imm _ _ _ (.inl ⟨rfl,rfl⟩)
  ·split at h
   ·rename_i hb;cases h;have:=Sh.beqL_eq _ _ hb;subst this;exact⟨rfl,rfl,fun v hv=>hv⟩
   ·cases h
 | .vec b,a,ps,rest,h=>by
  cases a<;>simp only[AP.take] at h<;>first|(cases h;done)|skip
  split at h
  ·rename_i hb;cases h;subst hb;exact⟨rfl,rfl,fun v hv=>hv⟩
  ·cases h
 | .nilf,a,ps,rest,h=>by
  cases a<;>simp only[AP.take] at h<;>first|(cases h;done)|skip
  cases h;exact⟨rfl,rfl,fun v hv=>hv⟩
 | .fn f p q,a,ps,rest,h=>by
  cases a<;>simp only[AP.take] at h<;>first|(cases h;done)|skip
  rename_i g a c;split at h
  ·rename_i hf;subst hf;obtain⟨x,y,h1,h2,rfl⟩:=q1a h;obtain⟨a1,a2,a3⟩:=AP.takeL_ok (X:=X) p a x (y++rest) h1;obtain⟨b1,b2,b3⟩:=AP.takeL_ok (X:=X) q c y rest h2;simp only[AP.make,qM4,a1,b1,AP.kinds,qM0,a2,b2,true_and];intro v hv;cases hv with
   | fn _ _ _ vf vc g1 g2=>exact .fn _ _ _ vf vc (a3 _ g1) (b3 _ g2)
  ·cases h
 | .agg l,a,ps,rest,h=>by
  cases a<;>simp only[AP.take] at h<;>first|(cases h;done)|skip
  obtain⟨a1,a2,a3⟩:=AP.takeL_ok (X:=X) l _ ps rest h;simp only[AP.make,a1,AP.kinds,a2,true_and];intro v hv;cases hv with
  | agg _ vs g=>exact .agg _ vs (a3 _ g)
 | .tuple l,a,ps,rest,h=>by
  cases a<;>simp only[AP.take] at h<;>first|(cases h;done)|skip
  obtain⟨a1,a2,a3⟩:=AP.takeL_ok (X:=X) l _ ps rest h;simp only[AP.make,a1,AP.kinds,a2,true_and];intro v hv;cases hv with
  | tuple _ vs g=>exact .tuple _ vs (a3 _ g)
theorem AP.takeL_ok{X:Ctx}:∀(p:List AP) (a:List AV) (ps rest:List PV),AP.takeL p a=some ps->(AP.makeL p (ps++rest)).2=rest/\ps.map PV.kind=AP.kindsL p/\∀v,RepL X a v->RepL X (AP.makeL p (ps++rest)).1 v
 | [],a,ps,rest,h=>by
  cases a<;>simp only[AP.takeL] at h<;>cases h;exact⟨rfl,rfl,fun v hv=>hv⟩
 | p::l,a,ps,rest,h=>by
  cases a with
  | nil=>simp only[AP.takeL] at h;cases h
  | cons a azz=>
   simp only[AP.takeL] at h;obtain⟨x,y,h1,h2,rfl⟩:=q1a h;obtain⟨a1,a2,a3⟩:=AP.take_ok (X:=X) p a x (y++rest) h1;obtain⟨b1,b2,b3⟩:=AP.takeL_ok (X:=X) l azz y rest h2;simp only[AP.makeL,qM4,a1,b1,AP.kindsL,qM0,a2,b2,true_and];intro v hv;cases hv with
   | cons g1 g2=>exact .cons (a3 _ g1) (b3 _ g2)
end
def AP.takeLL:List (List AP)->List (List AV)->Option (List PV)
 | [],[]=>some []
 | p::l,a::azz=>qDg (AP.takeL p a) (AP.takeLL l azz)
 | _,_=>none
def AP.makeLL:List (List AP)->List PV->List (List AV)×List PV
 | [],ps=>([],ps)
 | p::l,ps=>let x:=AP.makeL p ps;let y:=AP.makeLL l x.2;(x.1::y.1,y.2)
def AP.kindsLL:List (List AP)->List PK
 | []=>[]
 | p::l=>AP.kindsL p++AP.kindsLL l
theorem AP.takeLL_ok{X:Ctx}:∀(p:List (List AP)) (a:List (List AV)) (ps rest:List PV),AP.takeLL p a=some ps->(AP.makeLL p (ps++rest)).2=rest/\ps.map PV.kind=AP.kindsLL p/\∀v,RepLL X a v->RepLL X (AP.makeLL p (ps++rest)).1 v
 | [],a,ps,rest,h=>by
  cases a<;>simp only[AP.takeLL] at h<;>cases h;exact⟨rfl,rfl,fun v hv=>hv⟩
 | p::l,a,ps,rest,h=>by
  cases a with
  | nil=>simp only[AP.takeLL] at h;cases h
  | cons a azz=>
   simp only[AP.takeLL] at h;obtain⟨x,y,h1,h2,rfl⟩:=q1a h;obtain⟨a1,a2,a3⟩:=AP.takeL_ok (X:=X) p a x (y++rest) h1;obtain⟨b1,b2,b3⟩:=AP.takeLL_ok (X:=X) l azz y rest h2;simp only[AP.makeLL,qM4,a1,b1,AP.kindsLL,qM0,a2,b2,true_and];intro v hv;cases hv with
   | cons g1 g2=>exact .cons (a3 _ g1) (b3 _ g2)
inductive BP where
 | cells (l:List AP)|big (l:List AP) (k:IntKind) (n:Nat)|vec (e:TypeId) (sh:List Sh)|frz (e:TypeId) (sh:List Sh)|dead
def BP.take:BP->Blk->Option (List PV)
 | .cells l,.cells cs=>AP.takeL l cs
 | .big l k n,.big cs k' n' r=>if k=k'/\n=n' then qDg (AP.takeL l cs) (some [.r r]) else none
 | .vec e sh,.vec e' sh' l=>if e=e'/\Sh.beqL sh sh'=true then some [.r l] else none
 | .frz e sh,.frz e' sh' l=>if e=e'/\Sh.beqL sh sh'=true then some [.r l] else none
 | .dead,_=>some []
 | _,_=>none
def BP.make:BP->List PV->Blk×List PV
 | .cells l,ps=>let x:=AP.makeL l ps;(.cells x.1,x.2)
 | .big l k n,ps=>let x:=AP.makeL l ps;match x.2 with
  | .r r::qs=>(.big x.1 k n r,qs)
  | qs=>(.dead,qs)
 | .vec e sh,.r l::ps=>(.vec e sh l,ps)
 | .frz e sh,.r l::ps=>(.frz e sh l,ps)
 | _,ps=>(.dead,ps)
def BP.kinds:BP->List PK
 | .cells l=>AP.kindsL l
 | .big l _ _=>AP.kindsL l++[.r]
 | .vec _ _=>[.r]
 | .frz _ _=>[.r]
 | .dead=>[]
def BP.takeL:List BP->List Blk->Option (List PV)
 | [],[]=>some []
 | p::l,b::bs=>qDg (p.take b) (BP.takeL l bs)
 | _,_=>none
def BP.makeL:List BP->List PV->List Blk×List PV
 | [],ps=>([],ps)
 | p::l,ps=>let x:=p.make ps;let y:=BP.makeL l x.2;(x.1::y.1,y.2)
def BP.kindsL:List BP->List PK
 | []=>[]
 | p::l=>p.kinds++BP.kindsL l
def BP.isCells:BP->Bool
 | .cells _|.big _ _ _=>true
 | _=>false
theorem BP.take_ok (p:BP)(k:Blk)(ps rest:List PV)(h:p.take k=some ps):(p.make (ps++rest)).2=rest/\ps.map PV.kind=p.kinds/\Wk X k (p.make (ps++rest)).1 /\(p.isCells=true->(p.make (ps++rest)).1.solid=true):=by
 cases p with
 | cells l=>
  cases k<;>simp only[BP.take] at h<;>first|(cases h;done)|skip
  obtain⟨a1,a2,a3⟩:=AP.takeL_ok (X:=X) l _ ps rest h;simp only[BP.make,a1,BP.kinds,a2,true_and];exact⟨.inr (.inr (.inl ⟨_,_,rfl,rfl,a3⟩)),fun _=>rfl⟩
 | big l kk n=>
  cases k<;>simp only[BP.take] at h<;>first|(cases h;done)|skip
  split at h
  ·rename_i hb;obtain⟨rfl,rfl⟩:=hb;obtain⟨x,y,h1,h2,rfl⟩:=q1a h;cases h2;rename_i cs r;obtain⟨a1,a2,a3⟩:=AP.takeL_ok (X:=X) l _ x ([.r r]++rest) h1;simp only[qMr,qMD] at a1 a3;simp only[BP.make,qM4,a1,qMr,qMD,BP.kinds,qM0,a2,qMn,List.map_nil,PV.kind,true_and];exact⟨.inr (.inr (.inr ⟨_,_,_,_,_,rfl,rfl,a3⟩)),fun _=>rfl⟩
  ·cases h
 | vec e sh=>
  cases k<;>simp only[BP.take] at h<;>first|(cases h;done)|skip
  split at h
  ·rename_i hb;cases h;obtain⟨rfl,hb⟩:=hb;have:=Sh.beqL_eq _ _ hb;subst this;exact⟨rfl,rfl,.inr (.inl rfl),fun h=>by cases h⟩
  ·cases h
 | frz e sh=>
  cases k<;>simp only[BP.take] at h<;>first|(cases h;done)|skip
  split at h
  ·rename_i hb;cases h;obtain⟨rfl,hb⟩:=hb;have:=Sh.beqL_eq _ _ hb;subst this;exact⟨rfl,rfl,.inr (.inl rfl),fun h=>by cases h⟩
  ·cases h
 | dead=>
  have:ps=[]:=by cases k<;>simp[BP.take] at h<;>exact h
  subst this;exact⟨rfl,rfl,.inl rfl,fun h=>by cases h⟩
theorem BP.takeL_ok{X:Ctx}:∀(p:List BP) (k:List Blk) (ps rest:List PV),BP.takeL p k=some ps->(BP.makeL p (ps++rest)).2=rest/\ps.map PV.kind=BP.kindsL p /\
  (BP.makeL p (ps++rest)).1.length=k.length/\p.length=k.length/\∀(b:Nat) (k':Blk),(BP.makeL p (ps++rest)).1[b]?=some k'->∃k0,k[b]?=some k0/\Wk X k0 k'/\∀q:BP,p[b]?=some q->q.isCells=true->k'.solid=true
 | [],k,ps,rest,h=>by
  cases k<;>simp only[BP.takeL] at h<;>cases h;exact⟨rfl,rfl,rfl,rfl,fun b k' hb=>by simp[BP.makeL] at hb⟩
 | p::l,k,ps,rest,h=>by
  cases k with
  | nil=>simp only[BP.takeL] at h;cases h
  | cons k ks=>
   simp only[BP.takeL] at h;obtain⟨x,y,h1,h2,rfl⟩:=q1a h;obtain⟨a1,a2,a3,a4⟩:=BP.take_ok (X:=X) p k x (y++rest) h1;obtain⟨b1,b2,b3,b4,b5⟩:=BP.takeL_ok (X:=X) l ks y rest h2;simp only[BP.makeL,qM4,a1,b1,BP.kindsL,qM0,a2,b2,qM5,b3,b4,true_and];intro b k' hb;cases b with
   | zero=>
    simp only[qMO,qLq] at hb;subst hb;exact⟨k,rfl,a3,fun q hq hc=>by simp only[qMO,qLq] at hq;subst hq;exact a4 hc⟩
   | succ b=>
    simp only[qMt] at hb ⊢;exact b5 b k' hb
def keep(n:Nat):Nat->Option Nat:=fun b=>if Nat.blt b n then some b else none
theorem qE0 {n b b':Nat}(h:keep n b=some b'):b'=b/\b<n:=by
 unfold keep at h;split at h
 ·rename_i hb;cases h;exact⟨rfl,by simpa[Nat.blt_eq] using hb⟩
 ·cases h
def Ctx.cut(X:Ctx)(n:Nat):Ctx:={ X with h:=(X.h.take n).map (Blk.ren (keep n)) }
theorem Ctx.cut_get {n b:Nat}{k:Blk}(h:(X.cut n).h[b]?=some k):b<n/\∃k0,X.h[b]?=some k0/\k=k0.ren (keep n):=by
 have h':((X.h.take n).map (Blk.ren (keep n)))[b]?=some k:=h;rw[qLC,qMx] at h';split at h'
 ·rename_i hb;refine⟨hb,?_⟩;cases hk:X.h[b]? with
  | none=>rw[hk] at h';cases h'
  | some k0=>rw[hk] at h';exact⟨k0,rfl,(qMd h').symm⟩
 ·cases h'
theorem qzn {B:Base}(hs:HSim B X){n:Nat}(hn:B.imps.length<=n):HSim B (X.cut n)/\Move X (X.cut n) (keep n):=by
 have hvec:∀b sh m,(X.cut n).isVec b sh m->X.isVec b sh m:=by
  intro b sh m ⟨e,l,h1,h2⟩;refine⟨e,l,?_,h2⟩;rcases h1 with h1|h1
  ·obtain⟨_,k0,h3,h4⟩:=Ctx.cut_get h1;cases k0<;>simp[Blk.ren] at h4;obtain⟨rfl,rfl,rfl⟩:=h4;exact .inl h3
  ·obtain⟨_,k0,h3,h4⟩:=Ctx.cut_get h1;cases k0<;>simp[Blk.ren] at h4;obtain⟨rfl,rfl,rfl⟩:=h4;exact .inr h3
 have hm:Move X (X.cut n) (keep n):=by refine Move.of (fun _ h=>h) (fun _ _=>rfl) (fun b b' hb hf=>?_);obtain⟨rfl,hlt⟩:=qE0 hf;exact⟨by simp[Ctx.cut];omega,rfl,hvec b',fun sh m _ k hk c T fr hc=>⟨c,T,fr,hc,rfl⟩⟩
 have hown:∀b m,(X.cut n).own b m->X.own b m:=by intro b m ⟨h1,k,h2,h3⟩;obtain⟨_,k0,h4,h5⟩:=Ctx.cut_get h2;exact⟨h1,k0,h4,by rw[h5,Blk.mut_ren] at h3;exact h3⟩
 refine⟨⟨?_,fun b b' m h h'=>hs.inj b b' m (hown _ _ h) (hown _ _ h'),fun b m h=>hs.notM b m (hown _ _ h),hs.ltM,hs.M0,hs.newM,hs.os,hs.tape,hs.output,hs.size,hs.frame,hs.imps,?_,fun b m h=>hs.fresh b m (hown _ _ h),hs.kept⟩,hm⟩
 ·intro b k hk;obtain⟨_,k0,h1,h2⟩:=Ctx.cut_get hk;rw[h2];exact jJ.move hm.toMove0 rfl (fun _ _=>rfl) (hs.blk b k0 h1)
 ·intro b hb;obtain⟨cs,h1,h2⟩:=hs.impc b hb;refine⟨cs.ren (keep n),?_,by rw[Blk.solid_ren];exact h2⟩;show ((X.h.take n).map (Blk.ren (keep n)))[b]?=_;rw[qLC,qMx,if_pos (by omega),h1];rfl
end Go.Eng

namespace Go.Eng
variable {B:Base}{E:Env}{X:Ctx}{a:Act}{st:St}
def Ex.beq:Ex->Ex->Bool
 | .normal,.normal=>true
 | .ret,.ret=>true
 | .exit i,.exit j=>Nat.beq i j
 | _,_=>false
theorem Ex.beq_eq {x y:Ex}(h:x.beq y=true):x=y:=by cases x<;>cases y<;>simp[Ex.beq] at h ⊢;exact h
def peq:Option Ex->Option Ex->Bool
 | none,none=>true
 | some x,some y=>x.beq y
 | _,_=>false
theorem qIP {x y:Option Ex}(h:peq x y=true):x=y:=by cases x<;>cases y<;>simp[peq] at h ⊢;exact Ex.beq_eq h
structure Tmpl where
 t:List AP
 h:List BP
 pro:List (Nat×TypeId×List Sh):=[]
 fs:List (List AP):=[[]]
 pend:Option Ex:=none
 sw:List (Nat×Nat):=[]
 swn:Nat:=0
 prc:List (Nat×Nat×TypeId×List Sh):=[]
 fz:List Nat:=[]
def qAW:List (Nat×TypeId×List Sh)->St->St
 | [],st=>st
 | (i,e,sh)::l,st=>match st.t[i]? with
  | some .nils=>qAW l { st with t:=st.t.set i (.vec st.h.length),h:=st.h++[.vec e sh []] }
  | _=>qAW l st
def qoE:List (Nat×Nat×TypeId×List Sh)->St->St
 | [],st=>st
 | (i,off,e,sh)::l,st=>match st.t[i]? with
  | some (.ptr b _)=>(match st.h[b]? with
   | some (.cells cs)=>(match cs[off]? with
    | some .nils=>qoE l { st with h:=(st.h++[Blk.vec e sh []]).set b (.cells (cs.set off (.vec st.h.length))) }
    | _=>qoE l st)
   | _=>qoE l st)
  | _=>qoE l st
def qdN(n:Nat)(h:List BP):Bool:=Nat.ble n h.length&&(h.take n).all BP.isCells
def swp(b c x:Nat):Nat:=if Nat.beq x b then c else if Nat.beq x c then b else x
def swB(b c:Nat):Nat->Option Nat:=fun x=>some (swp b c x)
def qxV(b c:Nat)(h:List Blk):List Blk:=(h.set b (h.getD c .dead)).set c (h.getD b .dead)
def St.swap(b c:Nat)(st:St):St:={ t:=AV.renL (swB b c) st.t,fs:=st.fs.map (AV.renL (swB b c)),h:=(qxV b c st.h).map (Blk.ren (swB b c)),pend:=st.pend }
def qJn:AV->Option Nat
 | .ptr b _=>some b
 | .vec b=>some b
 | _=>none
def qKS(st:St)(i:Nat):Option Nat:=match Nat.blt i 1000000 with
 | true=>(st.t[i]?).bind qJn
 | false=>match st.t[i%1000000]? with
  | some (.ptr b _)=>(match st.h[b]? with
   | some (.cells cs)=>(cs[i/1000000-1]?).bind qJn
   | _=>none)
  | _=>none
def qqw(n:Nat):List (Nat×Nat)->St->St
 | [],st=>st
 | (i,b)::l,st=>match qKS st i with
  | some c=>(match Nat.ble n b&&Nat.ble n c&&Nat.blt b st.h.length&&Nat.blt c st.h.length&&!(Nat.beq b c) with
   | true=>qqw n l (st.swap b c)
   | false=>qqw n l st)
  | none=>qqw n l st
def Tmpl.take1(tm:Tmpl)(st:St):Option (List PV):=match peq tm.pend st.pend with
 | true=>qDg (AP.takeL tm.t (AV.renL (keep tm.h.length) st.t)) (qDg (AP.takeLL tm.fs (st.fs.map (AV.renL (keep tm.h.length)))) (BP.takeL tm.h ((st.h.take tm.h.length).map (Blk.ren (keep tm.h.length)))))
 | false=>none
def qJr(l:List Nat)(st:St):St:={ st with h:=qS st.h l }
def Tmpl.take(tm:Tmpl)(st:St):Option (List PV):=tm.take1 (qJr tm.fz (qqw tm.swn tm.sw (qoE tm.prc (qAW tm.pro st))))
def Tmpl.ok(n:Nat)(tm:Tmpl):Bool:=qdN n tm.h&&(tm.sw.isEmpty||Nat.ble n tm.swn)
def Tmpl.make(tm:Tmpl)(ps:List PV):St:=let x:=AP.makeL tm.t ps;let y:=AP.makeLL tm.fs x.2;{ t:=x.1,fs:=y.1,h:=(BP.makeL tm.h y.2).1,pend:=tm.pend }
def Tmpl.kinds(tm:Tmpl):List PK:=AP.kindsL tm.t++(AP.kindsLL tm.fs++BP.kindsL tm.h)
theorem qpZ {n:Nat}{h:List BP}(hc:qdN n h=true):n<=h.length/\∀b,b<n->∃q,h[b]?=some q/\q.isCells=true:=by
 simp only[qdN,qLN,Nat.ble_eq,qLZ] at hc;refine⟨hc.1,fun b hb=>?_⟩;have hlt:b<h.length:=by omega
 refine⟨h[b],qLz hlt,hc.2 _ ?_⟩;rw[List.mem_take_iff_getElem];exact⟨b,by omega,rfl⟩
theorem qr7 {X X':Ctx}(hM:∀n,X.M n->X'.M n)(hw:X'.w=X.w)(hy:X'.y=X.y)(h:∀x,x∈E.glob->(∃sh l i off,x.2=.eptr sh l i off)/\qFS X x) :∀x,x∈E.glob->(∃sh l i off,x.2=.eptr sh l i off)/\qFS X' x:=by intro x hx;obtain⟨⟨sh,l,i,off,he⟩,hr⟩:=h x hx;refine⟨⟨sh,l,i,off,he⟩,hr.move hM (fun _ _=>by rw[hw]) ?_⟩;have hr:=hr.1;rw[he] at hr ⊢;exact hr.noMen rfl hM (fun _ _=>by rw[hw]) hy
theorem qn8{E:Env}{B:Base}{a:Act}:∀(l:List (Nat×TypeId×List Sh)) {X:Ctx} {st:St},Sim E B X st a->∃X',X'.w=X.w/\Sim E B X' (qAW l st) a
 | [],X,st,hs=>⟨X,rfl,hs⟩
 | (i,e,sh)::l,X,st,hs=>by
  simp only[qAW];split
  ·rename_i hi;have hw:=PushW.same X;have hk:jJ (X.pushW (.vec e sh []) none X.w) X.h.length (.vec e sh []):=.inl ⟨by simp[Ctx.pushW],rfl⟩;have hs1:=HSim.push hs.hs hw hk;have hx:=Ctx.push_ext hs.hs (.vec e sh []) hw;have hsim:=hs.ext hx hs1;obtain⟨v,g1,g2⟩:=hs.t.get i _ hi;have hv:v=.slice none 0 0:=by cases g2;rfl
   subst hv;have hrep:Rep (X.pushW (.vec e sh []) none X.w) (.vec st.h.length) (.slice none 0 0):=by rw[<-hs.h];refine .vec _ _ _ _ (by simp[Ctx.pushW]) fun sh' m hv=>?_;unfold qvs;simp[Ctx.pushW]
   have hset:=RepL.set hrep hsim.t i;have he:a.tmps.toList.set i (.slice none 0 0)=a.tmps.toList:=by
    apply qMo;intro j;by_cases hj:j=i
    ·subst hj;rw[qLL (qv g1),g1]
    ·rw[qLt (qLX hj)]
   rw[he] at hset;obtain⟨X2,q1,q2⟩:=qn8 l (X:=X.pushW (.vec e sh []) none X.w) (st:={ st with t:=st.t.set i (.vec st.h.length),h:=st.h++[.vec e sh []] })
    ⟨hs1,by simp[Ctx.pushW,hs.h],hset,hsim.fs,hsim.glob,hsim.df,hsim.ni,hsim.y,hsim.pin⟩
   exact⟨X2,q1,q2⟩
  ·exact qn8 l hs
theorem qaP{E:Env}{B:Base}{a:Act}:∀(l:List (Nat×Nat×TypeId×List Sh)) {X:Ctx} {st:St},Sim E B X st a->∃X',X'.w=X.w/\Sim E B X' (qoE l st) a
 | [],X,st,hs=>⟨X,rfl,hs⟩
 | (i,off,e,sh)::l,X,st,hs=>by
  simp only[qoE];split
  ·rename_i b o hi;split
   ·rename_i cs hb;split
    ·rename_i hc;have hw:=PushW.same X;have hk:jJ (X.pushW (.vec e sh []) none X.w) X.h.length (.vec e sh []):=.inl ⟨by simp[Ctx.pushW],rfl⟩;have hs1:=HSim.push hs.hs hw hk;have hx:=Ctx.push_ext hs.hs (.vec e sh []) hw;have hsim:=hs.ext hx hs1;have hbX:X.h[b]?=some (.cells cs):=by rw[hs.h];exact hb
     have hbl:=qv hbX;obtain⟨n,c,T,g1,g2,g3⟩:=hs.hs.blk b _ hbX;have hb1:(X.pushW (.vec e sh []) none X.w).h[b]?=some (.cells cs):=by show (X.h++[Blk.vec e sh []])[b]?=_;rw[qLB hbl];exact hbX
     have g1':(X.pushW (.vec e sh []) none X.w).σ b=some n:=by show (if b=X.h.length then none else X.σ b)=_;rw[if_neg (by omega)];exact g1
     have g3':=g3.ext hx;have hrep:Rep (X.pushW (.vec e sh []) none X.w) (.vec st.h.length) (.slice none 0 0):=by rw[<-hs.h];refine .vec _ _ _ _ (by simp[Ctx.pushW]) fun sh' m hv=>?_;unfold qvs;simp[Ctx.pushW]
     obtain⟨v,k1,k2⟩:=g3'.get off _ hc;have hv:v=.slice none 0 0:=by cases k2;rfl
     subst hv;have hset:=RepL.set hrep g3' off;have he:c.toList.set off (.slice none 0 0)=c.toList:=by
      apply qMo;intro j;by_cases hj:j=off
      ·subst hj;rw[qLL (qv k1),k1]
      ·rw[qLt (qLX hj)]
     rw[he] at hset;have hup:UpdW (X.pushW (.vec e sh []) none X.w) n c c T X.w:=⟨g2,g2,rfl,fun _ _=>rfl,rfl,rfl,rfl,rfl⟩;have hown:(X.pushW (.vec e sh []) none X.w).own b n:=⟨g1',_,hb1,rfl⟩;have hx2:=Ctx.upd_ext (k':=.cells (cs.set off (.vec st.h.length))) hs1 hb1 hown hup trivial;have hs2:=hs1.upd (k':=.cells (cs.set off (.vec st.h.length))) hb1 hown hup trivial ⟨n,c,T,g1',g2,hset.ext hx2⟩;have hsim2:=hsim.ext hx2 hs2;have hh:((X.pushW (.vec e sh []) none X.w).upd b (.cells (cs.set off (.vec st.h.length))) X.w).h=(st.h++[Blk.vec e sh []]).set b (.cells (cs.set off (.vec st.h.length))):=by show (X.h++[Blk.vec e sh []]).set b _=_;rw[hs.h]
     obtain⟨X3,q1,q2⟩:=qaP l hsim2;refine⟨X3,q1,?_⟩;rw[hh] at q2;exact q2
    ·exact qaP l hs
   ·exact qaP l hs
  ·exact qaP l hs
theorem qrx (b c x:Nat):swp b c (swp b c x)=x:=by
 unfold swp;simp only[Nat.beq_eq];by_cases h1:x=b
 ·subst h1;by_cases h2:c=x
  ·simp[h2]
  ·simp[h2]
 ·by_cases h2:x=c
  ·subst h2;simp[h1]
  ·simp[h1,h2]
theorem qJX {b c x n:Nat}(hb:n<=b)(hc:n<=c):n<=swp b c x↔n<=x:=by
 unfold swp;simp only[Nat.beq_eq];split
 ·rename_i h;subst h;exact⟨fun _=>hb,fun _=>hc⟩
 ·split
  ·rename_i h;subst h;exact⟨fun _=>hc,fun _=>hb⟩
  ·exact Iff.rfl
theorem qJV {b c x n:Nat}(hb:b<n)(hc:c<n):swp b c x<n↔x<n:=by
 unfold swp;simp only[Nat.beq_eq];split
 ·rename_i h;subst h;exact⟨fun _=>hb,fun _=>hc⟩
 ·split
  ·rename_i h;subst h;exact⟨fun _=>hc,fun _=>hb⟩
  ·exact Iff.rfl
theorem qH6 {b c x n:Nat}(hb:n<=b)(hc:n<=c)(hx:x<n):swp b c x=x:=by unfold swp;simp only[Nat.beq_eq];rw[if_neg (by omega),if_neg (by omega)]
theorem qCI {b c:Nat}{h:List Blk}(hb:b<h.length)(hc:c<h.length)(hbc:b≠c)(i:Nat):(qxV b c h)[i]?=h[swp b c i]?:=by
 have e1:h.getD c .dead=h[c]:=by simp[hc]
 have e2:h.getD b .dead=h[b]:=by simp[hb]
 unfold qxV swp;simp only[Nat.beq_eq];rw[e1,e2];by_cases h1:i=b
 ·subst h1;rw[if_pos rfl,qLt (qLX hbc),qLL hb,qLz hc]
 ·by_cases h2:i=c
  ·subst h2;rw[if_neg h1,if_pos rfl,qLL (by simpa using hc),qLz hb]
  ·rw[if_neg h1,if_neg h2,qLt (qLX h2),qLt (qLX h1)]
def Ctx.swap(X:Ctx)(b c:Nat):Ctx:={ X with σ:=fun x=>X.σ (swp b c x),h:=(qxV b c X.h).map (Blk.ren (swB b c)) }
theorem qEr (hs:HSim B X){b c:Nat}(hb:B.imps.length<=b)(hc:B.imps.length<=c)(hbl:b<X.h.length)(hcl:c<X.h.length)(hbc:b≠c) :HSim B (X.swap b c)/\Move X (X.swap b c) (swB b c):=by
 have hget:∀i,(X.swap b c).h[i]?=(X.h[swp b c i]?).map (Blk.ren (swB b c)):=fun i=>by show ((qxV b c X.h).map _)[i]?=_;rw[qLC,qCI hbl hcl hbc]
 have hget':∀i k,(X.swap b c).h[i]?=some k->∃k0,X.h[swp b c i]?=some k0/\k=k0.ren (swB b c):=by
  intro i k h;rw[hget] at h;cases hk:X.h[swp b c i]? with
  | none=>rw[hk] at h;cases h
  | some k0=>rw[hk] at h;exact⟨k0,rfl,(qMd h).symm⟩
 have hσ:∀i,(X.swap b c).σ i=X.σ (swp b c i):=fun _=>rfl;have hm:Move X (X.swap b c) (swB b c):=by
  refine Move.of (fun _ h=>h) (fun _ _=>rfl) (fun b1 b2 hb1 hf=>?_);have hf':b2=swp b c b1:=(qMd hf).symm;subst hf';refine⟨?_,by rw[hσ,qrx],fun sh m ⟨e,l,h1,h2⟩=>⟨e,l,?_,h2⟩,fun sh m _ n hn c T fr hc=>⟨c,T,fr,hc,rfl⟩⟩
  ·show _<((qxV b c X.h).map _).length;simp only[qxV,qLF,qMS];exact(qJV hbl hcl).2 hb1
  ·rcases h1 with h1|h1
   ·obtain⟨k0,h3,h4⟩:=hget' _ _ h1;rw[qrx] at h3;rcases qmZ (.inl h4) with rfl|rfl
    ·exact .inl h3
    ·exact .inr h3
   ·obtain⟨k0,h3,h4⟩:=hget' _ _ h1;rw[qrx] at h3;rcases qmZ (.inr h4) with rfl|rfl
    ·exact .inl h3
    ·exact .inr h3
 have hown:∀i n,(X.swap b c).own i n->X.own (swp b c i) n:=by intro i n ⟨h1,k,h2,h3⟩;obtain⟨k0,h4,h5⟩:=hget' i k h2;exact⟨h1,k0,h4,by rw[h5,Blk.mut_ren] at h3;exact h3⟩
 refine⟨⟨?_,?_,fun i n h=>hs.notM _ n (hown _ _ h),hs.ltM,hs.M0,hs.newM,hs.os,hs.tape,hs.output,hs.size,hs.frame,?_,?_,?_,hs.kept⟩,hm⟩
 ·intro i k hk;obtain⟨k0,h1,h2⟩:=hget' i k hk;rw[h2];exact jJ.move hm.toMove0 (hσ i) (fun _ _=>rfl) (hs.blk _ k0 h1)
 ·intro i j n h1 h2;have:=hs.inj _ _ n (hown _ _ h1) (hown _ _ h2);rw[<-qrx b c i,this,qrx]
 ·intro i hi;rw[hσ,qH6 hb hc hi];exact hs.imps i hi
 ·intro i hi;obtain⟨k,h1,h2⟩:=hs.impc i hi;exact⟨k.ren (swB b c),by rw[hget,qH6 hb hc hi,h1];rfl,by rw[Blk.solid_ren];exact h2⟩
 ·intro i n h1 h2;exact hs.fresh _ n (hown _ _ h1) ((qJX hb hc).2 h2)
theorem qfg{E:Env}{B:Base}{a:Act}{n:Nat}(hn:B.imps.length<=n):∀(l:List (Nat×Nat)) {X:Ctx} {st:St},Sim E B X st a->∃X',X'.w=X.w/\Sim E B X' (qqw n l st) a
 | [],X,st,hs=>⟨X,rfl,hs⟩
 | (i,b)::l,X,st,hs=>by
  simp only[qqw];split
  ·rename_i c hc;split
   ·rename_i hcond;simp only[qLN,Nat.ble_eq,Nat.blt_eq,qN9] at hcond;obtain⟨⟨⟨⟨c1,c2⟩,c3⟩,c4⟩,c5⟩:=hcond;have hne:b≠c:=fun e=>by subst e;simp at c5
    obtain⟨g1,g2⟩:=qEr hs.hs (b:=b) (c:=c) (by omega) (by omega) (by rw[hs.h];exact c3) (by rw[hs.h];exact c4) hne;obtain⟨X2,q1,q2⟩:=qfg hn l (X:=X.swap b c) (st:=st.swap b c) ⟨g1,by simp[Ctx.swap,St.swap,hs.h],hs.t.ren g2.toMove0,hs.fs.ren g2.toMove0,qr7 (X:=X) (fun _ h=>h) rfl rfl hs.glob,hs.df,hs.ni,hs.y,hs.pin⟩;exact⟨X2,q1,q2⟩
   ·exact qfg hn l hs
  ·exact qfg hn l hs
theorem Tmpl.weaken1 {tm:Tmpl}{ps:List PV}(hk:qdN E.nimp tm.h=true)(h:tm.take1 st=some ps)(hs:Sim E B X st a) :ps.map PV.kind=tm.kinds/\∃X',X'.w=X.w/\Sim E B X' (tm.make ps) a:=by
 unfold Tmpl.take1 at h;split at h
 ·rename_i hpe;have hpe':=qIP hpe;obtain⟨x,yz,h1,h0,rfl⟩:=q1a h;obtain⟨y,z,h2,h3,rfl⟩:=q1a h0;obtain⟨hc1,hc2⟩:=qpZ hk;obtain⟨c1,c2⟩:=qzn hs.hs (n:=tm.h.length) (qLu hs.ni hc1);obtain⟨a1,a2,a3⟩:=AP.takeL_ok (X:=X.cut tm.h.length) _ _ x (y++z) h1;obtain⟨d1,d2,d3⟩:=AP.takeLL_ok (X:=X.cut tm.h.length) _ _ y z h2;obtain⟨b1,b2,b3,b4,b5⟩:=BP.takeL_ok (X:=X.cut tm.h.length) _ _ z [] h3;have hch:(X.cut tm.h.length).h=(st.h.take tm.h.length).map (Blk.ren (keep tm.h.length)):=by rw[<-hs.h];rfl
  rw[<-hch] at b3 b5;rw[qMC] at b3 b5;obtain⟨e1,e2⟩:=qbU c1 (h':=(BP.makeL tm.h z).1) b3 (fun b k' hb=>by obtain⟨k0,e1,e2,_⟩:=b5 b k' hb;exact⟨k0,e1,e2⟩)
   (fun b hb k' hk'=>by obtain⟨q,q1,q2⟩:=hc2 b (by have:=hs.ni;omega);obtain⟨k0,_,_,e3⟩:=b5 b k' hk';exact e3 q q1 q2)
  refine⟨by simp[Tmpl.kinds,a2,d2,b2],{ X.cut tm.h.length with h:=(BP.makeL tm.h z).1 },rfl,⟨e1,?_,?_,?_,?_,?_,hs.ni,hs.y,?_⟩⟩
  ·simp only[Tmpl.make,a1,d1]
  ·simp only[Tmpl.make];exact(a3 _ (hs.t.ren c2.toMove0)).ext e2
  ·simp only[Tmpl.make,a1];exact(d3 _ (hs.fs.ren c2.toMove0)).ext e2
  ·exact qr7 (X:=X) (fun _ h=>h) rfl rfl hs.glob
  ·show qxM X.kept (B.pin tm.pend) a.defers;rw[hpe'];exact hs.df
  ·show ∀p,p∈B.pin tm.pend->p∈X.kept;rw[hpe'];exact hs.pin
 ·cases h
theorem qAh (l:List Nat)(hs:Sim E B X st a):∃X',X'.w=X.w/\Sim E B X' (qJr l st) a:=by obtain⟨X1,f⟩:=q5Q l hs.hs;refine⟨X1,f.w,?_⟩;have:=hs.ext f.ext f.hs;rw[f.h,hs.h] at this;exact this
theorem Tmpl.weaken {tm:Tmpl}{ps:List PV}(hk:tm.ok E.nimp=true)(h:tm.take st=some ps)(hs:Sim E B X st a) :ps.map PV.kind=tm.kinds/\∃X',X'.w=X.w/\Sim E B X' (tm.make ps) a:=by
 unfold Tmpl.ok at hk;simp only[qLN,qMW,List.isEmpty_iff,Nat.ble_eq] at hk;obtain⟨X0,h0,h2'⟩:=qn8 tm.pro hs;obtain⟨X1,h1',h2⟩:=qaP tm.prc h2';have h1:=h1'.trans h0;have:∃X',X'.w=X1.w/\Sim E B X' (qqw tm.swn tm.sw (qoE tm.prc (qAW tm.pro st))) a:=by
  rcases hk.2 with h0|h0
  ·rw[h0];exact⟨X1,rfl,h2⟩
  ·exact qfg (qLu hs.ni h0) tm.sw h2
 obtain⟨X1',h1',h2'⟩:=this;obtain⟨X1'',h1'',h2''⟩:=qAh tm.fz h2';obtain⟨g1,X2,g2,g3⟩:=Tmpl.weaken1 hk.1 h h2'';exact⟨g1,X2,((g2.trans h1'').trans h1').trans h1,g3⟩
structure Out where
 x:Ex
 tm:Tmpl
abbrev TR:=Tree (Nat×List PV)
def qIL:List Out->Nat->Ex×St->TR
 | [],_,_=>.fail
 | o::l,j,r=>match Ex.beq o.x r.1,o.tm.take r.2 with
  | true,some ps=>.leaf (j,ps)
  | _,_=>qIL l (j+1) r
def okR(R:TR):Bool:=R.run.isSome
def jR(R:TR):Nat:=match R.run with|some r=>r.1|none=>0
def pR(R:TR)(i:Nat):PV:=match R.run with|some r=>r.2.getD i (.i 0)|none=>.i 0
def gI(R:TR)(i:Nat):Int:=(pR R i).toI
def gB(R:TR)(i:Nat):Bool:=(pR R i).toB
def gS(R:TR)(i:Nat):List UInt8:=(pR R i).toS
def gR(R:TR)(i:Nat):Go.Eng.R:=(pR R i).toR
def jIs(R:TR)(j:Nat):Bool:=Nat.beq (jR R) j
def qm1(R:TR):List PK->Nat->List PV
 | [],_=>[]
 | .i::l,n=>.i (gI R n)::qm1 R l (n+1)
 | .b::l,n=>.b (gB R n)::qm1 R l (n+1)
 | .s::l,n=>.s (gS R n)::qm1 R l (n+1)
 | .r::l,n=>.r (gR R n)::qm1 R l (n+1)
theorem qmK{R:TR}{j:Nat}{ps:List PV}(hR:R.run=some (j,ps)):∀(ks:List PK) (n:Nat),(ps.drop n).map PV.kind=ks->qm1 R ks n=ps.drop n
 | [],n,h=>by simp at h;simp[qm1];exact h
 | k::ks,n,h=>by
  cases hd:ps.drop n with
  | nil=>rw[hd] at h;cases h
  | cons v rest=>
   rw[hd] at h;simp only[qMn,qMX] at h;have hn:ps[n]?=some v:=by
    have:(ps.drop n)[0]?=some v:=by rw[hd];rfl
    rwa [qMy,qM8] at this
   have hr:ps.drop (n+1)=rest:=by rw[<-List.drop_drop,hd];rfl
   have ih:=qmK hR ks (n+1) (by rw[hr];exact h.2);have hp:pR R n=v:=by simp[pR,hR,hn]
   rw[hr] at ih;cases v<;>simp only[PV.kind] at h<;>obtain⟨rfl,_⟩:=h<;>simp only[qm1,ih,gI,gB,gS,gR,hp,PV.toI,PV.toB,PV.toS,PV.toR]
def qK1(R:TR):List Out->Nat->Tree (Ex×St)
 | [],_=>.fail
 | o::l,j=>match l with
  | []=>.leaf (o.x,o.tm.make (qm1 R o.tm.kinds 0))
  | _::_=>.br (jIs R j) (.leaf (o.x,o.tm.make (qm1 R o.tm.kinds 0))) (qK1 R l (j+1))
theorem qz0{R:TR}{j:Nat}{ps:List PV}(hR:R.run=some (j,ps)):∀(outs:List Out) (k:Nat) (o:Out) (r:Ex×St),k<=j->outs[j-k]?=some o->ps.map PV.kind=o.tm.kinds ->
  (qK1 R outs k).run=some r->r=(o.x,o.tm.make ps)
 | [],k,o,r,_,h,_,_=>by simp at h
 | o'::l,k,o,r,hk,h,hp,hr=>by
  have hj:jR R=j:=by simp[jR,hR]
  simp only[qK1] at hr;cases l with
  | nil=>
   have:j-k=0:=by
    rcases qMz (j-k) with h0|h0
    ·exact h0
    ·rw[qLS (by simp;omega)] at h;cases h
   rw[this] at h;simp only[qMO,qLq] at h;subst h;simp only[Tree.run,qLq] at hr;rw[<-hr,qmK hR _ 0 (by simpa using hp)];rfl
  | cons o2 l=>
   simp only[Tree.run] at hr;by_cases hjk:j=k
   ·have hb:jIs R k=true:=by simp[jIs,hj,hjk]
    rw[hb] at hr;simp only[qLq] at hr;subst hjk;simp only[qMb,qMO,qLq] at h;subst h;rw[<-hr,qmK hR _ 0 (by simpa using hp)];rfl
   ·have hb:jIs R k=false:=by
     simp only[jIs,hj];cases hq:Nat.beq j k with
     | false=>rfl
     | true=>exact absurd (qMs hq) hjk
    rw[hb] at hr;simp only at hr;refine qz0 hR (o2::l) (k+1) o r (by omega) ?_ hp hr;rw[show j-k=(j-(k+1))+1 by omega,qMt] at h;exact h
theorem qA2:∀(outs:List Out) (k:Nat) (r:Ex×St) (j:Nat) (ps:List PV),(qIL outs k r).run=some (j,ps)->k<=j/\∃o,outs[j-k]?=some o/\o.x=r.1/\o.tm.take r.2=some ps
 | [],k,r,j,ps,h=>by simp only[qIL] at h;cases h
 | o::l,k,r,j,ps,h=>by
  simp only[qIL] at h;split at h
  ·rename_i ps' hb ht;simp only[Tree.run,qLq,qM2] at h;obtain⟨rfl,rfl⟩:=h;exact⟨qLs _,o,by simp,Ex.beq_eq hb,ht⟩
  ·obtain⟨h1,o',h2,h3,h4⟩:=qA2 l (k+1) r j ps h;refine⟨by omega,o',?_,h3,h4⟩;rw[show j-k=(j-(k+1))+1 by omega,qMt];exact h2
def qk(tin:Tmpl)(outs:List Out)(T:List PV->TR):St->Tree (Ex×St):=fun st=>match tin.take st with
 | none=>.fail
 | some ps=>.br (okR (T ps)) (qK1 (T ps) outs 0) .fail
theorem qBA {tin:Tmpl}{outs:List Out}{T:List PV->TR}{r:Ex×St}(h:(qk tin outs T st).run=some r) :∃ps j qs,tin.take st=some ps/\(T ps).run=some (j,qs)/\(qK1 (T ps) outs 0).run=some r:=by
 unfold qk at h;cases ht:tin.take st with
 | none=>rw[ht] at h;cases h
 | some ps=>
  rw[ht] at h;simp only[Tree.run] at h;cases hr:(T ps).run with
  | none=>simp[okR,hr] at h
  | some q=>
   obtain⟨j,qs⟩:=q;simp only[okR,hr,qNJ] at h;exact⟨ps,j,qs,rfl,hr,h⟩
theorem qyw.env {E E':Env}(he:E.glob=E'.glob)(hn:E.nimp=E'.nimp){r:Ex×St}{e:Exit}{w:World}(h:qyw E B r e a w):qyw E' B r e a w:=by obtain⟨h1,X',h2,h3⟩:=h;exact⟨h1,X',h2,h3.env he hn⟩
theorem qHP {ni:Nat}{outs:List Out}(h:(outs.all fun o=>o.tm.ok ni)=true){j:Nat}{o:Out}(ho:outs[j]?=some o):o.tm.ok ni=true:=qLZ.1 h o (qMJ ho)
theorem quW {p:Nat->Prop}(h:∃n,p n):∃n,p n/\∀m,p m->n<=m:=by
 obtain⟨n,hn⟩:=h;induction n using Nat.strongRecOn with
 | _ n ih=>
  by_cases hlt:∃m,m<n/\p m
  ·obtain⟨m,h1,h2⟩:=hlt;exact ih m h1 h2
  ·exact⟨n,hn,fun m hm=>Nat.le_of_not_lt fun h=>hlt ⟨m,h,hm⟩⟩
open Classical in
noncomputable def quv(p:Nat->Prop):Nat:=if h:∃n,p n then Classical.choose (quW h) else 0
theorem qoh {p:Nat->Prop}(h:∃n,p n):p (quv p)/\∀m,p m->quv p<=m:=by unfold quv;rw[dif_pos h];exact Classical.choose_spec (quW h)
def qFb(tin:Tmpl)(outs:List Out)(r:Ex×St):TR:=match r.1 with
 | .normal=>match tin.take r.2 with
  | some ps=>.leaf (0,ps)
  | none=>.fail
 | _=>qIL outs 1 r
def qlV(S:List PV->TR):Nat->List PV->TR
 | 0,_=>.fail
 | n+1,ps=>(S ps).bind fun r=>match r.1 with
  | 0=>qlV S n r.2
  | j+1=>.leaf (j,r.2)
theorem qCE {P:Program}{c:Code}{BO:Base->Prop}{ev:St->Tree (Ex×St)}(hev:∀(n0:Nat) B X st a r,BO B->Sim E B X st a->(ev st).run=some r->c.wpIn (q5e B.ro) n0 P (qyw E B r) a X.w){tin:Tmpl} {outs:List Out} {S T:List PV->TR} (hk:tin.ok E.nimp=true) (hko:(outs.all fun o=>o.tm.ok E.nimp)=true)(hS:∀ps r,ps.map PV.kind=tin.kinds->(S ps).run=some r->((ev (tin.make ps)).bind (qFb tin outs)).run=some r) (hT:∀ps,∃n,T ps=qlV S n ps) :ql P E.glob E.nimp BO (.loop c) (qk tin outs T):=by
 intro E' B X st a r he hn hbo hs h nf;obtain⟨ps,j,qs,h1,h2,h3⟩:=qBA h;obtain⟨hkd,X',hw,hs'⟩:=Tmpl.weaken hk h1 (hs.env he hn);obtain⟨n0,hn0⟩:=hT ps;have hend:∀(o:Out) (X3:Ctx) (a':Act),outs[j]?=some o->qs.map PV.kind=o.tm.kinds->Sim E B X3 (o.tm.make qs) a'->qyw E' B r o.x.out a' X3.w:=by intro o X3 a' q1 hkd2 hs3;have hr:=qz0 h2 outs 0 o r (qMY _) q1 hkd2 h3;subst hr;exact qyw.env he.symm hn.symm ⟨rfl,X3,rfl,hs3⟩
 rw[hn0] at h2
 let I:Nat->Act->World->Prop:=fun n a' w'=>∃X1 ps1,X1.w=w'/\ps1.map PV.kind=tin.kinds/\Sim E B X1 (tin.make ps1) a'/\(qlV S n ps1).run=some (j,qs)
 have key:∀a' w',(∃n,I n a' w')->c.wpIn (q5e B.ro) nf P (Exit.then (fun a'' w''=>∃n,I n a'' w''/\∀m,I m a' w'->n<m) (qyw E' B r)) a' w':=by
  intro a' w' hex;have hmin:=quW hex;obtain⟨n,⟨X1,ps1,rfl,hk1,hs1,hit⟩,hleast⟩:=hmin;cases n with
  | zero=>simp only[qlV] at hit;cases hit
  | succ n=>
   simp only[qlV] at hit;obtain⟨s,g1,g2⟩:=bind_some hit;obtain⟨r1,g3,g4⟩:=bind_some (hS ps1 s hk1 g1);refine wpIn_mono (hev nf B X1 _ a' r1 hbo hs1 g3) fun e a'' w'' ⟨p1,X2,p2,p3⟩=>?_;subst p1 p2;obtain⟨x1,s1⟩:=r1;have other:∀(_:(qIL outs 1 (x1,s1)).run=some s),qyw E' B r x1.out a'' X2.w:=by
    intro hf;obtain⟨sj,sps⟩:=s;obtain⟨f1,o,f2,f3,f4⟩:=qA2 _ _ _ _ _ hf;cases sj with
    | zero=>omega
    | succ sj=>
     simp only[Tree.run,qLq,qM2] at g2;obtain⟨rfl,rfl⟩:=g2;simp only[qNK] at f2;obtain⟨hkd2,X3,hw3,hs3⟩:=Tmpl.weaken (qHP hko f2) f4 p3;have f3':o.x=x1:=f3;rw[<-f3',<-hw3];exact hend o X3 a'' f2 hkd2 hs3
   cases x1 with
   | normal=>
    simp only[qFb] at g4;cases htk:tin.take s1 with
    | none=>rw[htk] at g4;cases g4
    | some ps2=>
     rw[htk] at g4;simp only[Tree.run,qLq] at g4;subst g4;obtain⟨hkd2,X3,hw3,hs3⟩:=Tmpl.weaken hk htk p3;refine⟨n,⟨X3,ps2,hw3,hkd2,hs3,g2⟩,fun m hm=>?_⟩;have:=hleast m hm;omega
   | exit i=>exact other g4
   | ret=>exact other g4
 rw[<-hw];have hI0:∃n,I n a X'.w:=⟨n0,X',ps,rfl,hkd,hs',h2⟩;refine wpIn_loop (fun a' w'=>∃n,I n a' w') (fun a' w'=>quv fun n=>I n a' w') hI0 fun a' w' hex=>?_;refine wpIn_mono (key a' w' hex) fun e a'' w'' hq=>?_;cases e with
 | normal=>
  obtain⟨n,hn1,hn2⟩:=hq;exact⟨⟨n,hn1⟩,qNn ((qoh ⟨n,hn1⟩).2 n hn1) (hn2 _ (qoh hex).1)⟩
 | exit i=>exact hq
 | goto i=>exact hq
 | ret=>exact hq
 | panic ch=>exact hq
 | outgrown=>exact hq
end Go.Eng

namespace Go.Eng
variable {B:Base}{P:Program}{X:Ctx}{f:FuncId}{gl:List (Nat×AV)}{v:Value}
structure FOut where
 res:AP
 h:List BP
 pro:Option (Nat×TypeId×List Sh):=none
def qHo:Nat->AV->Bool
 | i,.tuple vs=>match vs[i]? with|some .nils=>true|_=>false
 | 0,.nils=>true
 | _,_=>false
def qKE(i:Nat)(v:AV):AV->AV
 | .tuple vs=>.tuple (vs.set i v)
 | .nils=>v
 | x=>x
def qKo(p:Option (Nat×TypeId×List Sh))(r:AV×List Blk):AV×List Blk:=match p with
 | none=>r
 | some (i,e,sh)=>match qHo i r.1 with
  | true=>(qKE i (.vec r.2.length) r.1,r.2++[.vec e sh []])
  | false=>r
def qxs(h:List Blk):Blk->Blk
 | .cells cs=>.cells (AV.lendL h cs)
 | k=>k
def qer(fz:Bool)(r:AV×List Blk):AV×List Blk:=match fz with
 | false=>r
 | true=>let h1:=qS r.2 (List.range r.2.length);(r.1.lend h1,h1.map (qxs h1))
def FOut.take1(o:FOut)(r:AV×List Blk):Option (List PV):=qDg (o.res.take (r.1.ren (keep o.h.length))) (BP.takeL o.h ((r.2.take o.h.length).map (Blk.ren (keep o.h.length))))
def FOut.take(o:FOut)(r:AV×List Blk):Option (List PV):=o.take1 (qKo o.pro r)
def FOut.make(o:FOut)(ps:List PV):AV×List Blk:=let x:=o.res.make ps;(x.1,(BP.makeL o.h x.2).1)
def FOut.kinds(o:FOut):List PK:=o.res.kinds++BP.kindsL o.h
def qIM:List FOut->Nat->AV×List Blk->TR
 | [],_,_=>.fail
 | o::l,j,r=>match o.take r with
  | some ps=>.leaf (j,ps)
  | none=>qIM l (j+1) r
def qC3(R:TR):List FOut->Nat->Tree (AV×List Blk)
 | [],_=>.fail
 | o::l,j=>match l with
  | []=>.leaf (o.make (qm1 R o.kinds 0))
  | _::_=>.br (jIs R j) (.leaf (o.make (qm1 R o.kinds 0))) (qC3 R l (j+1))
structure FIn where
 args:List AP
 h:List BP
def FIn.take(i:FIn)(args:List AV)(h:List Blk):Option (List PV):=qDg (AP.takeL i.args args) (BP.takeL i.h h)
def FIn.make(i:FIn)(ps:List PV):List AV×List Blk:=let x:=AP.makeL i.args ps;(x.1,(BP.makeL i.h x.2).1)
def FIn.kinds(i:FIn):List PK:=AP.kindsL i.args++BP.kindsL i.h
def q9(i:FIn)(outs:List FOut)(T:List PV->TR):zw:=fun args h=>match i.take args h with
 | none=>.fail
 | some ps=>.br (okR (T ps)) (qC3 (T ps) outs 0) .fail
theorem qps{R:TR}{j:Nat}{ps:List PV}(hR:R.run=some (j,ps)):∀(outs:List FOut) (k:Nat) (o:FOut) (r:AV×List Blk),k<=j->outs[j-k]?=some o->ps.map PV.kind=o.kinds ->
  (qC3 R outs k).run=some r->r=o.make ps
 | [],k,o,r,_,h,_,_=>by simp at h
 | o'::l,k,o,r,hk,h,hp,hr=>by
  have hj:jR R=j:=by simp[jR,hR]
  simp only[qC3] at hr;cases l with
  | nil=>
   have:j-k=0:=by
    rcases qMz (j-k) with h0|h0
    ·exact h0
    ·rw[qLS (by simp;omega)] at h;cases h
   rw[this] at h;simp only[qMO,qLq] at h;subst h;simp only[Tree.run,qLq] at hr;rw[<-hr,qmK hR _ 0 (by simpa using hp)];rfl
  | cons o2 l=>
   simp only[Tree.run] at hr;by_cases hjk:j=k
   ·have hb:jIs R k=true:=by simp[jIs,hj,hjk]
    rw[hb] at hr;simp only[qLq] at hr;subst hjk;simp only[qMb,qMO,qLq] at h;subst h;rw[<-hr,qmK hR _ 0 (by simpa using hp)];rfl
   ·have hb:jIs R k=false:=by
     simp only[jIs,hj];cases hq:Nat.beq j k with
     | false=>rfl
     | true=>exact absurd (qMs hq) hjk
    rw[hb] at hr;simp only at hr;refine qps hR (o2::l) (k+1) o r (by omega) ?_ hp hr;rw[show j-k=(j-(k+1))+1 by omega,qMt] at h;exact h
theorem qzJ:∀(outs:List FOut) (k:Nat) (r:AV×List Blk) (j:Nat) (ps:List PV),(qIM outs k r).run=some (j,ps)->k<=j/\∃o,outs[j-k]?=some o/\o.take r=some ps
 | [],k,r,j,ps,h=>by simp only[qIM] at h;cases h
 | o::l,k,r,j,ps,h=>by
  simp only[qIM] at h;split at h
  ·rename_i ps' ht;simp only[Tree.run,qLq,qM2] at h;obtain⟨rfl,rfl⟩:=h;exact⟨qLs _,o,by simp,ht⟩
  ·obtain⟨h1,o',h2,h4⟩:=qzJ l (k+1) r j ps h;refine⟨by omega,o',?_,h4⟩;rw[show j-k=(j-(k+1))+1 by omega,qMt];exact h2
theorem qlZ {i:FIn}{outs:List FOut}{T:List PV->TR}{args:List AV}{h:List Blk}{r:AV×List Blk}(hr:(q9 i outs T args h).run=some r) :∃ps j qs,i.take args h=some ps/\(T ps).run=some (j,qs)/\(qC3 (T ps) outs 0).run=some r:=by
 unfold q9 at hr;cases ht:i.take args h with
 | none=>rw[ht] at hr;cases hr
 | some ps=>
  rw[ht] at hr;simp only[Tree.run] at hr;cases hq:(T ps).run with
  | none=>simp[okR,hq] at hr
  | some q=>
   obtain⟨j,qs⟩:=q;simp only[okR,hq,qNJ] at hr;exact⟨ps,j,qs,rfl,hq,hr⟩
theorem qst (hs:HSim B X)(fz:Bool){r:AV×List Blk}(hr:Rep X r.1 v)(hh:X.h=r.2) :∃X',X'.w=X.w/\X'.h=(qer fz r).2/\HSim B X'/\Rep X' (qer fz r).1 v/\X'.y=X.y:=by
 cases fz with
 | false=>exact⟨X,rfl,hh,hs,hr,rfl⟩
 | true=>
  obtain⟨X1,f⟩:=q5Q (List.range r.2.length) hs;have hf:X1.h=qS r.2 (List.range r.2.length):=by rw[f.h,hh]
  obtain⟨d1,d2⟩:=qbU f.hs (h':=X1.h.map (qxs X1.h)) (by simp) (fun b k' hb=>by
   rw[qLC] at hb;cases hk:X1.h[b]? with
   | none=>rw[hk] at hb;cases hb
   | some k0=>
    rw[hk] at hb;simp only[qM6,qLq] at hb;refine⟨k0,rfl,?_⟩;cases k0 with
    | cells cs=>exact .inr (.inr (.inl ⟨cs,_,rfl,hb.symm,fun vs hv=>qew f.hs hv⟩))
    | _=>exact .inr (.inl hb.symm)) (fun b hb k' hk'=>by
   obtain⟨cs,hc,hc2⟩:=f.hs.impc b hb;rw[qLC,hc] at hk';simp only[qM6,qLq] at hk';subst hk';cases cs<;>first|(cases hc2;done)|rfl)
  refine⟨{ X1 with h:=X1.h.map (qxs X1.h) },f.w,?_,d1,?_,f.ext.y⟩
  ·simp only[qer,hf]
  ·have:=(qz6 f.hs (hr.ext f.ext)).ext d2;simp only[qer];rw[<-hf];exact this
theorem qCV (hs:HSim B X)(p:Option (Nat×TypeId×List Sh)){r:AV×List Blk}(hr:Rep X r.1 v)(hh:X.h=r.2) :∃X',X'.w=X.w/\X'.h=(qKo p r).2/\HSim B X'/\Rep X' (qKo p r).1 v/\X'.y=X.y:=by
 cases p with
 | none=>exact⟨X,rfl,hh,hs,hr,rfl⟩
 | some p=>
  obtain⟨i,e,sh⟩:=p;obtain⟨a,h⟩:=r;simp only at hr hh;subst hh;simp only[qKo];cases hn:qHo i a with
  | false=>exact⟨X,rfl,rfl,hs,hr,rfl⟩
  | true=>
   simp only;have hw:=PushW.same X;have hk:jJ (X.pushW (.vec e sh []) none X.w) X.h.length (.vec e sh []):=.inl ⟨by simp[Ctx.pushW],rfl⟩;have hs1:=HSim.push hs hw hk;have hx:=Ctx.push_ext hs (.vec e sh []) hw;have hrep:Rep (X.pushW (.vec e sh []) none X.w) (.vec X.h.length) (.slice none 0 0):=by refine .vec _ _ _ _ (by simp[Ctx.pushW]) fun sh' m hv=>?_;unfold qvs;simp[Ctx.pushW]
   refine⟨X.pushW (.vec e sh []) none X.w,rfl,by simp[Ctx.pushW],hs1,?_,rfl⟩;cases a with
   | nils=>
    cases hr;exact hrep
   | tuple vs=>
    cases hr with
    | tuple _ us hu=>
     simp only[qHo] at hn;cases hg:vs[i]? with
     | none=>rw[hg] at hn;cases hn
     | some x=>
      rw[hg] at hn;cases x<;>first|(cases hn;done)|skip
      obtain⟨u,g1,g2⟩:=hu.get i _ hg;have hue:u=.slice none 0 0:=by cases g2;rfl
      subst hue;have hset:=RepL.set hrep (hu.ext hx) i;have he:us.set i (.slice none 0 0)=us:=by
       apply qMo;intro j;by_cases hj:j=i
       ·subst hj;rw[qLL (qv g1),g1]
       ·rw[qLt (qLX hj)]
      rw[he] at hset;exact .tuple _ _ hset
   | _=>cases i<;>cases hn
theorem FOut.weaken1 {o:FOut}{r:AV×List Blk}{ps:List PV}(hk:qdN B.imps.length o.h=true)(h:o.take1 r=some ps)(hs:HSim B X)(hr:Rep X r.1 v)(hh:X.h=r.2) :ps.map PV.kind=o.kinds/\∃X',X'.w=X.w/\X'.h=(o.make ps).2/\HSim B X'/\Rep X' (o.make ps).1 v/\X'.y=X.y:=by
 unfold FOut.take1 at h;obtain⟨x,y,h1,h2,rfl⟩:=q1a h;obtain⟨hc1,hc2⟩:=qpZ hk;obtain⟨c1,c2⟩:=qzn hs (n:=o.h.length) hc1;obtain⟨a1,a2,a3⟩:=AP.take_ok (X:=X.cut o.h.length) _ _ x y h1;obtain⟨b1,b2,b3,b4,b5⟩:=BP.takeL_ok (X:=X.cut o.h.length) _ _ y [] h2;have hch:(X.cut o.h.length).h=(r.2.take o.h.length).map (Blk.ren (keep o.h.length)):=by rw[<-hh];rfl
 rw[<-hch] at b3 b5;rw[qMC] at b3 b5;obtain⟨d1,d2⟩:=qbU c1 (h':=(BP.makeL o.h y).1) b3 (fun b k' hb=>by obtain⟨k0,e1,e2,_⟩:=b5 b k' hb;exact⟨k0,e1,e2⟩)
  (fun b hb k' hk'=>by obtain⟨q,q1,q2⟩:=hc2 b hb;obtain⟨k0,_,_,e3⟩:=b5 b k' hk';exact e3 q q1 q2)
 refine⟨by simp[FOut.kinds,a2,b2],{ X.cut o.h.length with h:=(BP.makeL o.h y).1 },rfl,?_,d1,?_,rfl⟩
 ·simp only[FOut.make,a1]
 ·simp only[FOut.make];exact(a3 _ (hr.ren c2.toMove0)).ext d2
theorem FOut.weaken {o:FOut}{r:AV×List Blk}{ps:List PV}(hk:qdN B.imps.length o.h=true)(h:o.take r=some ps)(hs:HSim B X)(hr:Rep X r.1 v)(hh:X.h=r.2) :ps.map PV.kind=o.kinds/\∃X',X'.w=X.w/\X'.h=(o.make ps).2/\HSim B X'/\Rep X' (o.make ps).1 v/\X'.y=X.y:=by obtain⟨X1,h1,h2,h3,h4,h5⟩:=qCV hs o.pro hr hh;obtain⟨g1,X2,g2,g3,g4,g5,g6⟩:=FOut.weaken1 hk h h3 h4 h2;exact⟨g1,X2,g2.trans h1,g3,g4,g5,g6.trans h5⟩
theorem qEj {E:Env}(hm:P.follows .mixedOrders=true)(hE:E.tok P)(hS:E.specs P)(hL:E.loopsOK P)(hb:E.bodies P){fn:Func}(hf:P.funcs[f]?=some fn)(hn:(fn.name == "runtime.NumGoroutine")=false) (hbd:fn.body.isNone=false) {n:Nat} {fz:Bool} {i:FIn} {outs:List FOut} {T:List PV->TR}(hi:i.h.length=E.nimp/\i.h.all BP.isCells=true) (ho:(outs.all fun o=>qdN E.nimp o.h)=true)(hT:∀ps r,ps.map PV.kind=i.kinds->(T ps).run=some r->((qze E n f fn (i.make ps).1 (i.make ps).2).bind fun q=>qIM outs 0 (qer fz q)).run=some r) :qQ P E.glob f (q9 i outs T):=by
 refine⟨uB hf hn hbd,fun B X args vargs r hs hen hgl ha h=>?_⟩;obtain⟨ps,j,qs,h1,h2,h3⟩:=qlZ h;unfold FIn.take at h1;obtain⟨x,y,g1,g2,rfl⟩:=q1a h1;obtain⟨a1,a2,a3⟩:=AP.takeL_ok (X:=X) _ _ x y g1;obtain⟨b1,b2,b3,b4,b5⟩:=BP.takeL_ok (X:=X) _ _ y [] g2;rw[qMC] at b3 b5;have himp:B.imps.length=X.h.length:=by rw[hen.imps];simp
 obtain⟨d1,d2⟩:=qbU hs (h':=(BP.makeL i.h y).1) b3 (fun b k' hb=>by obtain⟨k0,e1,e2,_⟩:=b5 b k' hb;exact⟨k0,e1,e2⟩)
  (fun b hb k' hk'=>by
   obtain⟨k0,_,_,e3⟩:=b5 b k' hk';have hlt:b<i.h.length:=by omega
   exact e3 i.h[b] (qLz hlt) (qLZ.1 hi.2 _ (qMg hlt)))
 have hkd:(x++y).map PV.kind=i.kinds:=by simp[FIn.kinds,a2,b2]
 have hgl1:q5G E.glob ({ X with h:=(BP.makeL i.h y).1 }:Ctx):=qr7 (X:=X) (fun _ h=>h) rfl rfl hgl;obtain⟨q,k1,k2⟩:=bind_some (hT _ _ hkd h2);have hmk:i.make (x++y)=((AP.makeL i.args (x++y)).1,(BP.makeL i.h y).1):=by simp only[FIn.make,a1]
 rw[hmk] at k1;have hcalls:=qvB hm hE hS hL hb hf (n:=n) d1 (by omega) hgl1 ((a3 _ ha).ext d2) k1;refine hcalls.mono fun e w' ⟨v,X',e1,e2,e3,e4,e5,e6⟩=>?_;obtain⟨X2,p1,p2,p3,p4,p5⟩:=qst e5 fz e3 e4;obtain⟨_,o,q1,q2⟩:=qzJ _ _ _ _ _ k2;have hco:qdN B.imps.length o.h=true:=by rw[himp,<-b4,hi.1];exact qLZ.1 ho o (qMJ q1)
 obtain⟨m1,X3,m2,m3,m4,m5,m6⟩:=FOut.weaken hco q2 p3 p4 p2;have hre:=qps h2 outs 0 o r (qMY _) q1 m1 h3;subst hre;exact⟨v,X3,e1,by rw[m2,p1,e2],m5,m3,m4,(m6.trans p5).trans e6⟩
def qKZ(l:List (FIn×zw)):zw:=fun args h=>match l.find? fun c=>(c.1.take args h).isSome with
 | some c=>c.2 args h
 | none=>.fail
theorem qFC {l:List (FIn×zw)}(he:qcs P f)(hl:∀c,c∈l->qQ P gl f c.2):qQ P gl f (qKZ l):=by
 refine⟨he,fun B X args vargs r hs hen hg ha h=>?_⟩;unfold qKZ at h;cases hc:l.find? fun c=>(c.1.take args X.h).isSome with
 | none=>rw[hc] at h;cases h
 | some c=>
  rw[hc] at h;exact(hl c (qMm hc)).2 B X args vargs r hs hen hg ha h
theorem qHT:∀c,c∈([]:List (FIn×zw))->qQ P gl f c.2:=fun _ h=>by cases h
theorem qA4 {i:FIn}{G:zw}{l:List (FIn×zw)}(h:qQ P gl f G)(t:∀c,c∈l->qQ P gl f c.2):∀c,c∈(i,G)::l->qQ P gl f c.2:=fun c hc=>by
 rcases qLx.1 hc with rfl|hc
 ·exact h
 ·exact t c hc
end Go.Eng

