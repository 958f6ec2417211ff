/- Texts of the proof, merged: what the code computes, and plain laws. No statement stands here. -/
import Derived.Calls
import Derived.Orders
import Derived.OrdersIn
import Derived.TacticsIn
import Derived.Tactics
import Derived.RangeFuncIn
import Derived.RangeFuncLeaves
import Derived.RangeFuncRecord
import Derived.Test.YtjdhkocjkfdebaaGreatDoorI1
namespace Go.Eng
variable {B:Base}{E:Env}{P:Program}{X:Ctx}{l:R}{n:Nat}{r:Res}{t:TypeId}{v:Value}{vs:List Value}{w:World}
theorem qKO {k:IntKind}(h:isZ k v=true):v=.int k 0:=by
 unfold isZ at h;split at h
 ·simp only[qM7,decide_eq_true_eq] at h;rw[h.1,h.2]
 ·cases h
theorem qhX {o n:Nat}{k:IntKind}(h:qBN E t=some (o,k,n)) :(E.ty t).zero.length=o+n/\(E.ty t).size=o+n/\32<=n/\(E.ty t).zero.drop o=List.replicate n (.int k 0)/\∃fs,(E.ty t).d=.struct fs:=by
 unfold qBN at h;split at h
 ·rename_i fs hd;split at h
  ·rename_i o' ty sz hl;split at h
   ·rename_i n' e es ha;split at h
    ·rename_i k' hk;split at h
     ·rename_i hc;cases h;simp only[qM7,Nat.ble_eq,Nat.beq_eq,qMq] at hc;obtain⟨⟨⟨c1,c2⟩,c3⟩,c4⟩:=hc;refine⟨c2,c3,c1,?_,fs,hd⟩;apply List.eq_replicate_iff.2;exact⟨by simp[c2],fun v hv=>qKO (c4 v hv)⟩
     ·cases h
    ·cases h
   ·cases h
  ·cases h
 ·cases h
theorem qBQ (k:IntKind)(n:Nat):q0q k (q2P n [.i 0])=List.replicate n (.int k 0):=by simp[q0q,q2P,U.toI]
theorem qqI (n:Nat)(r:List U):(q2P n r).length=n:=by simp[q2P]
theorem qn4 {o n:Nat}{k:IntKind}(h:qBN E t=some (o,k,n)):(E.ty t).zero=(E.ty t).zero.take o++q0q k (q2P n [.i 0]):=by obtain⟨h1,h2,h3,h4,_⟩:=qhX h;rw[qBQ,<-h4,qO5]
theorem qG4 (hs:HSim B X){cs:List AV}{k:IntKind}{c:Array Value}{T:TypeId}(hr:RepL X cs vs)(hc:c.toList=vs++q0q k l)(hl:l.length=n) :HSim B (X.pushW (.big cs k n l) (some X.w.heap.size) (X.w.alloc (.cells c T))):=by have hw:=PushW.alloc X (.cells c T);exact hs.push hw ⟨X.w.heap.size,c,T,vs,by simp[Ctx.pushW],zQ _ _,hr.ext (Ctx.push_ext hs _ hw),hc,hl⟩
theorem qqz (hs:HSim B X){cs:List AV}{k:IntKind}(hr:RepL X cs vs)(hc:v.cells.toList=vs++q0q k l)(hl:l.length=n){m:Sem Value}(hm:m.run P X.w=.ok (.pointer (some ⟨X.w.heap.size,0,none⟩)) (X.w.alloc (.cells v.cells t))) :qH P B X (do pure (.value (<-m))) (.ptr X.h.length 0,X.h++[.big cs k n l],none):=
 ⟨.value (.pointer (some ⟨X.w.heap.size,0,none⟩)),_,X.pushW (.big cs k n l) (some X.w.heap.size) (X.w.alloc (.cells v.cells t)),by simp[hm];rfl,.inl rfl,qAp,qG4 hs hr hc hl,rfl,
  Ctx.push_ext hs _ (PushW.alloc X _)⟩
theorem qtm {h:List Blk}{k:Option Blk}(hr:(qCR h k).run=some r):∃z,k=some z/\r=(.ptr h.length 0,h++[z],none):=by
 cases k with
 | none=>cases hr
 | some z=>cases hr;exact⟨z,rfl,rfl⟩
theorem qFc (hs:HSim B X){a:AV}(hv:Rep X a v){z:Blk}(hz:qFH a=some z) :qH P B X (do pure (.value (<-Instr.box t v))) (.ptr X.h.length 0,X.h++[z],none):=by
 unfold qFH at hz;split at hz
 ·rename_i cs k n l;split at hz
  ·cases hz;cases hv with
   | bagg _ _ _ _ vs h hl=>exact qqz (t:=t) (v:=.agg (vs++q0q k l).toArray) hs h (by simp[Value.cells]) hl (by simp[Instr.box,q94])
  ·cases hz
 ·split at hz
  ·rename_i hc;cases hz;exact qHk hs hv hc
  ·cases hz
theorem qyJ (hE:E.tok P)(hs:HSim B X){z:Blk}(hz:qej E t=some z) :qH P B X (do pure (.value (<-Instr.alloc t true (.tuple #[])))) (.ptr X.h.length 0,X.h++[z],none):=by
 unfold qej at hz;split at hz
 ·rename_i o k n hb;split at hz
  ·cases hz;obtain⟨b1,b2,b3,b4,_⟩:=qhX hb;obtain⟨v,h1,h2,_⟩:=qdI hE (t:=t) (by omega) X.w;refine qqz (t:=t) (v:=v) (vs:=(E.ty t).zero.take o) hs (jp X _) ?_ (qqI _ _) ?_
   ·rw[h2];exact qn4 hb
   ·simp[Instr.alloc,h1,q94]
  ·cases hz
 ·split at hz
  ·rename_i hc;cases hz;exact qCi hE hs hc.2
  ·cases hz
theorem qwf {k:IntKind}{c:Array Value}(hc:c.toList=vs++q0q k l){j:Nat}(hj:j<l.length):c[vs.length+j]?=some (.int k (cI l j 0)):=by
 have:c.toList[vs.length+j]?=some (.int k (cI l j 0)):=by rw[hc,qMd (by omega),Nat.add_sub_cancel_left,qgH hj]
 simpa using this
theorem qGW (l:R){i:Int}(h:0<=i)(j:Nat):cI l ((i.toNat:Nat):Int) j=cI l i j:=by rw[qNK h]
theorem qzr (hE:E.tok P)(hs:HSim B X){b off n0:Nat}(hσ:X.σ b=some n0){cs:List AV}{k:IntKind}(hh:X.h[b]?=some (.big cs k n l))(h:(qDp E X.h t off cs k n l).run=some r):∃av u,r=(av,X.h,none)/\(Instr.loadAt t (.pointer (some ⟨n0,off,none⟩))).run P X.w=.ok u X.w/\Rep X av u:=by
 obtain⟨n1,c,T,vs,e1,e2,e3,e4,e5⟩:=hs.blk b _ hh;rw[hσ] at e1;cases e1;have hlen:=e3.length;have hcl:c.size=vs.length+n:=by
  have:c.toList.length=(vs++q0q k l).length:=by rw[e4]
  simpa[ym,e5] using this
 unfold qDp at h;by_cases hk:(E.ty t).d.known=false
 ·rw[if_pos hk] at h;cases h
 rw[if_neg hk] at h;have hk':(E.ty t).d.known=true:=by simpa using hk
 simp only[Instr.loadAt,Instr.sureAddr,qLX,qMp,qM4];unfold loadVar;rw[qLX,qdi hE hk',qM4];cases ha:(E.ty t).d.isAgg with
 | true=>
  rw[ha] at h;simp only[if_true] at h ⊢;split at h
  ·rename_i hc;obtain⟨rfl,hc2⟩:=hc;cases h;refine⟨_,.agg (vs++q0q k l).toArray,rfl,?_,.bagg _ _ _ _ vs e3 e5⟩;have:=run_loadCells_list (P:=P) X.w ⟨n0,0,none⟩ (vs++q0q k l) (fun j v hj=>by rw[qMF,zL e2,qMM];rw[<-e4] at hj;simpa using hj);have hl:(vs++q0q k l).length=(E.ty t).size:=by simp[ym];omega
   rw[hl] at this;simp[qhV hE hk',this]
  ·cases h
 | false=>
  rw[ha] at h;simp only[qMv,if_false] at h ⊢;split at h
  ·rename_i v hv;cases h;obtain⟨u,g1,g2⟩:=e3.get off v hv;have h2:X.w.cell? ⟨n0,off,none⟩=some u:=by
    rw[zL e2];have:c.toList[off]?=some u:=by rw[e4,qM5 (qo g1)];exact g1
    simpa using this
   exact⟨_,u,rfl,by simp[h2],g2⟩
  ·rename_i hv;have hge:cs.length<=off:=by
    rcases qM1 off cs.length with hlt|hge
    ·rw[qM0 hlt] at hv;cases hv
    ·exact hge
   split at h
   ·rename_i hlt;cases h;have h2:X.w.cell? ⟨n0,off,none⟩=some (.int k (cI l ((off-cs.length:Nat):Int) 0)):=by
     rw[zL e2];have:=qwf e4 (j:=off-cs.length) (by omega)
     rwa [show vs.length+(off-cs.length)=off by omega] at this
    exact⟨_,_,rfl,by simp[h2],.int _ _⟩
   ·cases h
theorem que (hE:E.tok P)(hs:HSim B X){p:AV}(hv:Rep X p v)(h:(qce E X.h t p).run=some r):∃av u,r=(av,X.h,none)/\(Instr.loadAt t v).run P X.w=.ok u X.w/\Rep X av u:=by
 unfold qce at h;split at h
 ·rename_i b off;split at h
  ·rename_i cs k n l hh;cases hv with
   | ptr _ _ n0 hb hσ=>exact qzr hE hs hσ hh h
  ·exact qg3 hE hs hv h
 ·rename_i b o i;split at h
  ·rename_i cs k n l hh;split at h
   ·rename_i hc;obtain⟨hc1,hc2,hc3⟩:=hc;obtain⟨g1,g2⟩:=vT h;cases g2;obtain⟨g3,g4⟩:=qk0 g1;cases hv with
    | aptr _ _ _ n0 hb hσ h0=>
     obtain⟨n1,c,T,vs,e1,e2,e3,e4,e5⟩:=hs.blk b _ hh;rw[hσ] at e1;cases e1;have hlen:=e3.length;have h2:X.w.cell? ⟨n0,o+i.toNat,none⟩=some (.int k (cI l i 0)):=by
      rw[zL e2];have:=qwf e4 (j:=i.toNat) (by omega);rw[qGW l g3] at this
      rwa [show vs.length+i.toNat=o+i.toNat by omega] at this
     refine⟨_,_,rfl,?_,.int _ _⟩;simp only[Instr.loadAt,Instr.sureAddr,qLX,qMp,qM4];unfold loadVar;rw[qLX,qdi hE hc1,qM4,hc2];simp[h2]
   ·cases h
  ·cases h
 ·exact qg3 hE hs hv h
theorem qEQ (k:IntKind)(l:R)(j:Nat)(x:Int):q0q k (qaa l (j:Int) 0 [.i x])=(q0q k l).set j (.int k x):=by
 apply qML;intro i;have hl:(qaa l (j:Int) 0 [.i x]).length=l.length:=by simp[qaa]
 by_cases hi:i<l.length
 ·rw[qgH (by omega)];by_cases hij:i=j
  ·subst hij;rw[qM6 (by rw[ym];exact hi)];have:=qhx (l:=l) (i:=(i:Int)) (off:=0) (us:=[.i x]) (by simpa using hi) (j:=0);simp only[cI,this];rfl
  ·rw[qLV (qMl hij),qgH hi];have:=qfp (l:=l) (i:=(j:Int)) (off:=0) (us:=[.i x]) (r:=i) (by simpa using hij) (j:=0);simp only[cI,this]
 ·rw[qMg (by rw[ym];omega),qMg (by simp[ym];omega)]
theorem qAS (hE:E.tok P)(hs:HSim B X){b n0 j:Nat}(hσ:X.σ b=some n0){cs:List AV}{k:IntKind}(hh:X.h[b]?=some (.big cs k n l))(hj:j<n) (hsz:(E.ty t).size=1) (x:Int):qH P B X (do Instr.storeAt t (.pointer (some ⟨n0,cs.length+j,none⟩)) (.int k x);pure .skip) (.skip,X.h.set b (.big cs k n (qaa l (j:Int) 0 [.i x])),none):=by
 obtain⟨n1,c,T,vs,e1,e2,e3,e4,e5⟩:=hs.blk b _ hh;rw[hσ] at e1;cases e1;have hlen:=e3.length;have hcl:c.size=vs.length+n:=by
  have:c.toList.length=(vs++q0q k l).length:=by rw[e4]
  simpa[ym,e5] using this
 have hsz':(sizeOf t).run P X.w=.ok (Value.int k x).cells.size X.w:=q8I hE (by rw[hsz];rfl) (by show 1≠0;omega) X.w;have hrun:=q1P (P:=P) (t:=t) (o:=cs.length+j) (v:=.int k x) e2 hsz' (by show cs.length+j+1<=_;omega) (fun u hu=>by
  have:u=.int k x:=by simpa[Value.cells] using hu
  rw[this];rfl)
 have hc':c.toList.take (cs.length+j)++(Value.int k x).cells.toList++c.toList.drop (cs.length+j+(Value.int k x).cells.size)=vs++q0q k (qaa l (j:Int) 0 [.i x]):=by
  rw[qEQ,e4];have h1:(Value.int k x).cells.toList=[.int k x]:=rfl;have h2:(Value.int k x).cells.size=1:=rfl;rw[h1,h2];apply qML;intro i;have hsp:=qd0 (c:=vs++q0q k l) (vs:=[Value.int k x]) (o:=cs.length+j) (k:=i) (by simp[ym];omega);simp only[qMn,qMD,qMM] at hsp;rw[hsp];by_cases hi:i=cs.length+j
  ·subst hi;rw[if_pos (by omega),qMd (by omega),show cs.length+j-vs.length=j by omega,qM6 (by rw[ym];omega)];simp
  ·rw[if_neg (by omega)];rcases qM1 i vs.length with hlt|hge
   ·rw[qM5 hlt,qM5 hlt]
   ·rw[qMd hge,qMd hge,qLV (by omega)]
 have hup:=UpdW.setRow (X:=X) (c':=(c.toList.take (cs.length+j)++(Value.int k x).cells.toList++c.toList.drop (cs.length+j+(Value.int k x).cells.size)).toArray) e2 (by have h1:(Value.int k x).cells.toList=[.int k x]:=rfl;have h2:(Value.int k x).cells.size=1:=rfl;rw[h1,h2];simp;omega);have hown:X.own b n0:=⟨hσ,_,hh,rfl⟩;have hkk:qf5 (.big cs k n l) (.big cs k n (qaa l (j:Int) 0 [.i x])):=trivial;have hx:=Ctx.upd_ext hs hh hown hup hkk;refine⟨.skip,Go.undef,X.upd b (.big cs k n (qaa l (j:Int) 0 [.i x])) (X.w.setRow n0 _),?_,.inr ⟨rfl,rfl⟩,.skip,hs.upd hh hown hup hkk ?_,rfl,hx⟩
 ·simp[Instr.storeAt,Instr.sureAddr,hrun];rfl
 ·exact⟨n0,_,T,vs,hσ,hup.new,e3.ext hx,by rw[<-hc'],by simp[qaa,e5]⟩
theorem qBw (hE:E.tok P)(hs:HSim B X){b off n0:Nat}(hσ:X.σ b=some n0){cs:List AV}{k:IntKind}(hh:X.h[b]?=some (.big cs k n l)){a:AV} {v:Value} (hv:Rep X a v) {r:Res} (h:(quq E X.h t b off cs k n l a).run=some r):qH P B X (do Instr.storeAt t (.pointer (some ⟨n0,off,none⟩)) v;pure .skip) r:=by
 obtain⟨n1,c,T,vs,e1,e2,e3,e4,e5⟩:=hs.blk b _ hh;rw[hσ] at e1;cases e1;have hlen:=e3.length;have hcl:c.size=vs.length+n:=by
  have:c.toList.length=(vs++q0q k l).length:=by rw[e4]
  simpa[ym,e5] using this
 have hown:X.own b n0:=⟨hσ,_,hh,rfl⟩;unfold quq at h;split at h
 ·rename_i cs' k' n' l';split at h
  ·rename_i hc;obtain⟨rfl,rfl,rfl,c1,c2,c3,c4⟩:=hc;cases h;cases hv with
   | bagg _ _ _ _ vs' h' hl'=>
    have hlen':=h'.length;have hcs:(Value.agg (vs'++q0q k l').toArray).cells.toList=vs'++q0q k l':=by simp[Value.cells]
    have hcz:(Value.agg (vs'++q0q k l').toArray).cells.size=c.size:=by simp[Value.cells,ym];omega
    have hsz':(sizeOf t).run P X.w=.ok (Value.agg (vs'++q0q k l').toArray).cells.size X.w:=q8I hE (by rw[hcz];omega) (by rw[hcz];omega) X.w;have hrun:=q1P (P:=P) (t:=t) (o:=0) (v:=.agg (vs'++q0q k l').toArray) e2 hsz' (by omega) (fun u hu=>by
     rw[hcs] at hu;rcases qMi.1 hu with hu|hu
     ·exact qb1 h' c4 u hu
     ·unfold q0q at hu;obtain⟨row,_,hr⟩:=qMJ.1 hu;rw[<-hr];rfl)
    have hup:=UpdW.setRow (X:=X) (c':=(c.toList.take 0++(Value.agg (vs'++q0q k l').toArray).cells.toList++c.toList.drop (0+(Value.agg (vs'++q0q k l').toArray).cells.size)).toArray) e2 (by rw[hcs];simp[hcz,ym];omega);have hkk:qf5 (.big cs k n l) (.big cs' k n l'):=trivial;have hx:=Ctx.upd_ext hs hh hown hup hkk;refine⟨.skip,Go.undef,X.upd b (.big cs' k n l') (X.w.setRow n0 _),?_,.inr ⟨rfl,rfl⟩,.skip,hs.upd hh hown hup hkk ?_,rfl,hx⟩
    ·simp only[Instr.storeAt,Instr.sureAddr,qLX,qMp,qM4,hrun];rfl
    ·refine⟨n0,_,T,vs',hσ,hup.new,h'.ext hx,?_,hl'⟩;rw[hcs];simp[hcz]
  ·cases h
 ·rename_i hnb;split at h
  ·rename_i hc;obtain⟨c1,c2,c3⟩:=hc;split at h
   ·rename_i hle;have hle':off+a.cells.length<=cs.length:=Nat.le_of_ble_eq_true hle;cases h;have hrl:=qh8 hv c2;have hlenv:v.cells.size=a.cells.length:=by have:=hrl.length;simpa using this.symm
    have hone:=qb1 hrl c2;have hsz:(sizeOf t).run P X.w=.ok v.cells.size X.w:=by rw[hlenv];exact q8I hE c1 c3 X.w
    have hrun:=q1P (P:=P) (t:=t) (o:=off) (v:=v) e2 hsz (by omega) hone;have hup:=UpdW.setRow (X:=X) (c':=(c.toList.take off++v.cells.toList++c.toList.drop (off+v.cells.size)).toArray) e2 (by simp;omega);have hkk:qf5 (.big cs k n l) (.big (qnw cs off a.cells) k n l):=trivial;have hx:=Ctx.upd_ext hs hh hown hup hkk;refine⟨.skip,Go.undef,X.upd b (.big (qnw cs off a.cells) k n l) (X.w.setRow n0 _),?_,.inr ⟨rfl,rfl⟩,.skip,hs.upd hh hown hup hkk ?_,rfl,hx⟩
    ·simp[Instr.storeAt,Instr.sureAddr,hrun];rfl
    ·refine⟨n0,_,T,vs.take off++v.cells.toList++vs.drop (off+a.cells.length),hσ,hup.new,(qdL e3 hrl off).ext hx,?_,e5⟩;show c.toList.take off++v.cells.toList++c.toList.drop (off+v.cells.size)=_;rw[e4,hlenv,List.take_append_of_le_length (by omega),List.drop_append_of_le_length (by omega)];simp
   ·split at h
    ·rename_i k' x hx;split at h
     ·rename_i hc2;obtain⟨rfl,d1,d2⟩:=hc2;cases h;obtain rfl:=q2M hv hx;have hone:a.cells.length=1:=by cases a<;>simp[asI] at hx<;>rfl
      have:=qAS (P:=P) hE hs hσ hh (j:=off-cs.length) (by omega) (t:=t) (by omega) x
      rwa [show cs.length+(off-cs.length)=off by omega] at this
     ·cases h
    ·cases h
  ·cases h
theorem qvG (hE:E.tok P)(hs:HSim B X){p a:AV}{vp v:Value}(hp:Rep X p vp)(hv:Rep X a v)(h:(kl E X.h t p a).run=some r):qH P B X (do Instr.storeAt t vp v;pure .skip) r:=by
 unfold kl at h;split at h
 ·rename_i b off;split at h
  ·rename_i cs k n l hh;cases hp with
   | ptr _ _ n0 hb hσ=>exact qBw hE hs hσ hh hv h
  ·exact qo7 hE hs hp hv h
 ·rename_i b o i;split at h
  ·rename_i cs k n l hh;split at h
   ·rename_i k' x hx;split at h
    ·rename_i hc;obtain⟨rfl,rfl,hc3⟩:=hc;obtain⟨g1,g2⟩:=vT h;cases g2;obtain⟨g3,g4⟩:=qk0 g1;obtain rfl:=q2M hv hx;cases hp with
     | aptr _ _ _ n0 hb hσ h0=>
      have:=qAS (P:=P) hE hs hσ hh (j:=i.toNat) (by omega) (t:=t) hc3 x
      rwa [qNK h0] at this
    ·cases h
   ·cases h
  ·cases h
 ·exact qo7 hE hs hp hv h
theorem qkw (hE:E.tok P)(hs:HSim B X){a ai:AV}{v vi:Value}(hv:Rep X a v)(hi:Rep X ai vi)(h:(q0a E X.h t a ai).run=some r):∃av u,r=(av,X.h,none)/\(Instr.indexAt t v vi).run P X.w=.ok u X.w/\Rep X av u:=by
 unfold q0a at h;split at h
 ·rename_i n e es hd;split at h
  ·split at h
   ·rename_i b off;split at h
    ·rename_i k i;split at h
     ·rename_i hes;obtain⟨ht,hce⟩:=q6Y hE hd;obtain⟨g1,g2⟩:=vT h;cases g2;obtain⟨g3,g4⟩:=qk0 g1;obtain rfl:=q2M hi rfl;cases hv with
      | ptr _ _ n0 hb hσ=>
       refine⟨_,_,rfl,kE ht (by omega) g3 g4,?_⟩;rw[qMF,<-hce,hes,qNz];exact .aptr b off i n0 hb hσ g3
     ·cases h
    ·exact q2x hE hs hv hi h
   ·exact q2x hE hs hv hi h
  ·exact q2x hE hs hv hi h
 ·exact q2x hE hs hv hi h
theorem qiy{X:Ctx}{place:Nat->Option (Nat×Nat)}(tl:List Value):∀{parts:List (Nat×AV)} {vparts:List (Nat×Value)} {cells cs:List AV} {vc:Array Value} {vs:List Value},
  qcU place cells parts=some cs->RepP X parts vparts->RepL X cells vs->vc.toList=vs++tl->∃vc' vs',Instr.fill place vc vparts=some vc'/\RepL X cs vs'/\vc'.toList=vs'++tl
 | [],_,cells,cs,vc,vs,h,hp,hr,hv=>by
  cases hp;simp only[qcU,qLS] at h;subst h;exact⟨vc,vs,rfl,hr,hv⟩
 | (i,a)::rest,_,cells,cs,vc,vs,h,hp,hr,hv=>by
  cases hp with
  | cons ha ht=>
  rename_i v m;simp only[qcU] at h;cases hpl:place i with
  | none=>rw[hpl] at h;cases h
  | some q=>
   obtain⟨off,size⟩:=q;rw[hpl] at h;simp only at h;by_cases hc:a.cells.length=size/\off+a.cells.length<=cells.length/\jW a.cells=true
   ·rw[if_pos hc] at h;have hrl:=qh8 ha hc.2.2;have hlen:v.cells.size=a.cells.length:=by have:=hrl.length;simpa using this.symm
    have hvs:cells.length=vs.length:=hr.length;have hvc:vc.size=vs.length+tl.length:=by
     have:vc.toList.length=(vs++tl).length:=by rw[hv]
     simpa using this
    have hnot:¬(v.cells.size≠size\/off+v.cells.size>vc.size):=by omega
    have hf:=qtq v.cells vc off (by omega);obtain⟨vc',vs',h1,h2,h3⟩:=qiy tl (vc:=v.cells.zipIdx.foldl (fun cs (x:Value×Nat)=>cs.setIfInBounds (off+x.2) x.1) vc) (vs:=vs.take off++v.cells.toList++vs.drop (off+a.cells.length)) h ht (qdL hr hrl off) (by rw[hf,hlen,hv,List.take_append_of_le_length (by omega),List.drop_append_of_le_length (by omega)];simp);refine⟨vc',vs',?_,h2,h3⟩;simp only[Instr.fill,hpl];rw[if_neg (by simpa using hnot)];exact h1
   ·rw[if_neg hc] at h;cases h
theorem qrW (hE:E.tok P){parts:List (Nat×AV)}{vparts:Array (Nat×Value)}(hp:RepP X parts vparts.toList)(h:(qaR E X.h t parts).run=some r):∃av u,r=(av,X.h,none)/\(Instr.build t vparts).run P X.w=.ok u X.w/\Rep X av u:=by
 unfold qaR at h;split at h
 ·rename_i o k n hb;obtain⟨b1,b2,b3,b4,_⟩:=qhX hb;split at h
  ·rename_i fs hd;split at h
   ·rename_i hok;obtain⟨z,z1,z2,_⟩:=qdI hE (t:=t) (by omega) X.w;obtain⟨fields,e1,e2⟩:=q73 hE hd;have hinfo:∀f∈fields.toList,(P.info? f.type).isSome=true:=by have hk:=kj hE (t:=t) (by rw[hd];rfl);rw[hk.1] at hok;unfold qxE at hok;obtain⟨_,i,dd,h1,_⟩:=hk;rw[h1] at hok;simpa only [e1,qMq] using hok
    cases hf:qcU (fun i=>(fs[i]?).map fun (f:Nat×TypeId×Nat)=>(f.1,f.2.2)) (((E.ty t).zero.take o).map j6) parts with
    | none=>rw[hf] at h;cases h
    | some cs=>
     rw[hf] at h;cases h;have hpl:(fun i:Nat=>(fs[i]?).map fun (f:Nat×TypeId×Nat)=>(f.1,f.2.2))=fun i:Nat=>(fields.map fun f=>(f.offset,P.cellsOf f.type))[i]?:=by funext i;rw[e2];simp only[qM2,qO0,Array.getElem?_map,Option.map_map];rfl
     rw[hpl] at hf;obtain⟨vc,vs',f1,f2,f3⟩:=qiy (q0q k (q2P n [.i 0])) (vc:=z.cells) (vs:=(E.ty t).zero.take o) hf hp (jp X _) (by rw[z2];exact qn4 hb);have:Rep X (.bagg cs k n (q2P n [.i 0])) (.agg (vs'++q0q k (q2P n [.i 0])).toArray):=.bagg _ _ _ _ _ f2 (qqI _ _);rw[<-f3] at this;refine⟨_,.agg vc,rfl,?_,by simpa using this⟩;have hm:=qBe (P:=P) (f:=fun f:Field=>(do pure (f.offset,<-sizeOf f.type):Sem (Nat×Nat))) (g:=fun f=>(f.offset,P.cellsOf f.type)) fields (fun f hf w=>by
      have:=hinfo f hf;cases hi:P.info? f.type with
      | none=>rw[hi] at this;cases this
      | some i=>simp[sizeOf,typeInfo,hi,Program.cellsOf]) X.w
     simp only[Instr.build,qLX,z1,qM4,run_underlying e1];rw[hm];simp only[qM4,f1];rfl
   ·cases h
  ·cases h
 ·exact qvH hE hp h
theorem qcN {t e:TypeId}{ad:Addr}{vlo vhi:Option Value}{a b:Nat}(ht:P.underlying t=some (.array n e))(hp:0<P.cellsOf e)(hb:(Instr.sliceBounds false n n vlo vhi none).run P w=.ok (a,b,n) w) :(Instr.sliceAt t (.pointer (some ad)) vlo vhi none).run P w=.ok (.slice (some (if n=a then ad else ad.add (a*P.cellsOf e))) (b-a) (n-a)) w:=by simp[Instr.sliceAt,run_underlying ht,Instr.sureAddr,hb,zu hp]
theorem qkv {t e:TypeId}{ad:Addr}{vlo vhi vmx:Option Value}{a b:Nat}(ht:P.underlying t=some (.array n e))(hp:0<P.cellsOf e)(hb:(Instr.sliceBounds false n n vlo vhi vmx).run P w=.ok (a,b,b) w) :(Instr.sliceAt t (.pointer (some ad)) vlo vhi vmx).run P w=.ok (.slice (some (if b=a then ad else ad.add (a*P.cellsOf e))) (b-a) (b-a)) w:=by simp[Instr.sliceAt,run_underlying ht,Instr.sureAddr,hb,zu hp]
theorem Sh.beq_eq1 {s t:Sh}(h:Sh.beq s t=true):s=t:=by
 have:Sh.beqL [s] [t]=true:=by simp[Sh.beqL,h]
 have:=Sh.beqL_eq _ _ this;cases this;rfl
theorem qyV {M:Nat->Prop}{sh:List Sh}{i:Int}{off n:Nat}{s:Sh}{rows:R}(h:qyR sh l i off n=some (s,rows)){a:Addr}(_:a.spot=none)(hr:Rows w M sh l a) :rows.length=n/\i=0/\qdv w M [s] rows (.slice (some ⟨a.block,a.off+i.toNat*sh.length+off,none⟩) n n):=by
 unfold qyR at h;split at h
 ·rename_i s' row hs;split at h
  ·rename_i hc;obtain⟨⟨rfl,c1⟩,c2,c3⟩:=hc;cases h;have hl:(((row.drop off).take n).map fun u=>[u]).length=n:=by simp;omega
   refine⟨hl,rfl,.inr ⟨_,n,by rw[hl],fun _=>rfl,by rw[hl];exact qLU n,fun r j hj hrn=>?_⟩⟩;rw[hl] at hrn;have hj0:j=0:=by simpa using hj
   subst hj0;have hlt:off+r<sh.length:=by omega
   obtain⟨g1,v,g2,g3⟩:=hr 0 (off+r) hlt (by simp);refine⟨g1,v,?_,?_⟩
   ·rw[<-g2];show World.cell? w ⟨a.block,a.off+(0:Int).toNat*sh.length+off+r*1+0,none⟩=_;congr 2;simp;omega
   ·have e1:sh[off+r]=s:=by
     have hm:sh[off+r]∈(sh.drop off).take n:=by rw[List.mem_iff_getElem];refine⟨r,by simp;omega,by simp⟩
     exact(Sh.beq_eq1 (qMq.1 c2 _ hm)).symm
    have e2:zy [row] ((0:Nat):Int) (off+r)=zy (((row.drop off).take n).map fun u=>[u]) (r:Int) 0:=by
     unfold zy;have h1:(((row.drop off).take n).map fun u=>[u]).getD ((r:Nat):Int).toNat []=[row.getD (off+r) (.i 0)]:=by rw[qM3,qLT,qM2,qMR,if_pos hrn,qMY,qLT,qM0 (show off+r<row.length by omega)];rfl
     rw[h1];rfl
    rw[e1] at g3;rw[<-e2];exact g3
  ·cases h
 ·cases h
theorem qq6 {lo:Option AV}{vlo:Option Value}(hlo:RepO X lo vlo){k k':IntKind}{a b:Int}(h1:qdk lo 0=some a) (hb:b<=n) (ha0:0<=a) (ha:a<=b) (w:World) :(Instr.sliceBounds false n n vlo (some (.int k b)) (some (.int k' b))).run P w=.ok (a.toNat,b.toNat,b.toNat) w:=by
 have hb0:0<=b:=by omega
 have hba:a<=(b.toNat:Nat):=by omega
 have hbb:b<=(b.toNat:Nat):=by omega
 rcases qkk hlo h1 with⟨rfl,rfl⟩|⟨k,rfl⟩
 ·simp[Instr.sliceBounds,zh hb0 hb,zh hb0 hbb]
 ·simp[Instr.sliceBounds,zh hb0 hb,zh hb0 hbb,zh ha0 hba]
theorem qyq (hs:HSim B X){t e:TypeId}(hta:P.underlying t=some (.array n e))(hce:P.cellsOf e=1){ad:Addr}{s:Sh}{rows:R}(hl:rows.length=n)(himm:qdv X.w X.M [s] rows (.slice (some ad) n n)) {lo hi mx:Option AV} {vlo vhi vmx:Option Value} (hlo:RepO X lo vlo) (hhi:RepO X hi vhi) (hmx:RepO X mx vmx) {r:Res}(h:(qxL X.h n s rows lo hi mx).run=some r):qH P B X (do pure (.value (<-Instr.sliceAt t (.pointer (some ad)) vlo vhi vmx))) r:=by
 have hrl:qg rows=(n:Int):=by unfold qg;rw[hl]
 unfold qxL at h;cases mx with
 | none=>
  cases hmx;simp only at h;cases h1:qdk lo 0 with
  | none=>rw[h1] at h;cases h
  | some x=>
   cases h2:qdk hi n with
   | none=>rw[h1,h2] at h;cases h
   | some y=>
    rw[h1,h2] at h;obtain⟨g1,g2⟩:=vT h;obtain⟨g3,g4⟩:=vT g2;cases g4;obtain⟨q1,q2⟩:=kg g1;obtain⟨q3,q4⟩:=kg g3;have hrun:=qcN (P:=P) (w:=X.w) (ad:=ad) hta (by omega) (q03 hlo hhi h1 h2 rfl q1 (by omega) q3 q4 _);refine qH.ofV hs hrun ?_;obtain⟨_,_,w3⟩:=qrG himm q3 q4 (by rw[hrl];exact q2);refine .imm _ _ _ ?_;rw[hce];have e0:(if n=x.toNat then some ad else (some ad).map (·.add (x.toNat*[s].length)))=some (if n=x.toNat then ad else ad.add (x.toNat*1)):=by split<;>rfl
    rw[e0] at w3;exact w3
 | some m=>
  simp only at h;cases h1:qdk lo 0 with
  | none=>rw[h1] at h;cases h
  | some x=>
   cases hi with
   | none=>rw[h1] at h;cases h
   | some y=>
   rw[h1] at h;simp only[qMk] at h;cases h2:asI y with
   | none=>rw[h2] at h;cases h
   | some p=>
    obtain⟨k1,c⟩:=p;cases h3:asI m with
    | none=>rw[h2,h3] at h;cases h
    | some p'=>
     obtain⟨k2,d⟩:=p';rw[h2,h3] at h;obtain⟨g1,g2⟩:=vT h;obtain⟨g3,g4⟩:=vT g2;obtain⟨g5,g6⟩:=vT g4;cases g6;obtain⟨q1,q2⟩:=kg g1;obtain⟨q3,q4⟩:=kg g3;have hcd:c=d:=of_decide_eq_true g5;subst hcd;cases hhi with
     | some hy=>
      cases hmx with
      | some hm=>
       obtain⟨k3,rfl⟩:=qvi hy h2;obtain⟨k4,rfl⟩:=qvi hm h3;have hrun:=qkv (P:=P) (w:=X.w) (ad:=ad) hta (by omega) (qq6 (k:=k3) (k':=k4) hlo h1 q2 q3 q4 _);refine qH.ofV hs hrun ?_;obtain⟨_,w3⟩:=qtZ himm q3 q4 (by rw[hrl];exact q2);rw[hce];have e0:(if c.toNat=x.toNat then some ad else (some ad).map (·.add (x.toNat*[s].length)))=some (if c.toNat=x.toNat then ad else ad.add (x.toNat*1)):=by split<;>rfl
       rw[e0] at w3;exact .full _ _ _ _ w3
theorem qwe (hE:E.tok P)(hs:HSim B X){a:AV}{lo hi mx:Option AV}{vlo vhi vmx:Option Value}(hv:Rep X a v)(hlo:RepO X lo vlo) (hhi:RepO X hi vhi) (hmx:RepO X mx vmx) {r:Res} (h:(yJ E X.h t a lo hi mx).run=some r) :qH P B X (do pure (.value (<-Instr.sliceAt t v vlo vhi vmx))) r:=by
 unfold yJ at h;split at h
 ·rename_i n e es hd;obtain⟨hta,hce⟩:=q6Y hE hd;split at h
  ·rename_i sh l i off;split at h
   ·rename_i hes;split at h
    ·rename_i s rows har;cases hv with
     | eptr _ _ _ _ a hsp h0 h1 hr=>
      obtain⟨hl,hi0,himm⟩:=qyV har hsp hr;exact qyq hs hta (by omega) hl himm hlo hhi hmx h
    ·cases h
   ·cases h
  ·rename_i b off;split at h
   ·cases hmx
    ·split at h
     ·rename_i hes;unfold qGF at h;cases h1:qdk lo 0 with
      | none=>rw[h1] at h;cases h
      | some x=>
       cases h2:qdk hi n with
       | none=>rw[h1,h2] at h;cases h
       | some y=>
        rw[h1,h2] at h;obtain⟨g1,g2⟩:=vT h;obtain⟨g3,g4⟩:=vT g2;cases g4;obtain⟨q1,q2⟩:=kg g1;obtain⟨q3,q4⟩:=kg g3;cases hv with
        | ptr _ _ n0 hb hσ=>
         have hrun:=qcN (P:=P) (w:=X.w) (ad:=⟨n0,off,none⟩) hta (by omega) (q03 hlo hhi h1 h2 rfl q1 (by omega) q3 q4 _);refine qH.ofV hs hrun ?_;have he1:P.cellsOf e=1:=by omega
         have hk:(if n=x.toNat then (⟨n0,off,none⟩:Addr) else Addr.add ⟨n0,off,none⟩ (x.toNat*P.cellsOf e))=⟨n0,if n=x.toNat then off else off+x.toNat,none⟩:=by
          split
          ·rfl
          ·rw[qMF,he1,qNz]
         rw[hk];have hyx:qzh y x=y-x:=rfl;have hn:y.toNat-x.toNat=(qzh y x).toNat:=by rw[hyx];omega
         rw[hn];refine .asub b off n x (qzh y x) n0 _ _ hb hσ q3 (by rw[hyx];omega) (by rw[hyx];omega) ?_;split
         ·right;rw[hyx];omega
         ·exact .inl rfl
     ·cases h
   ·cases h
  ·cases h
 ·exact qxj hE hs hv hlo hhi hmx h
theorem qFn {l l':R}{i i' c:Int}(h0:0<=i)(h0':0<=i')(hc:0<=c)(h1:i+c<=l.length)(h2:i'+c<=l'.length):(qkQ l i l' i' c).length=l.length:=by simp[qkQ];omega
theorem qx0 (hE:E.tok P)(hs:HSim B X){ts:List TypeId}{azz:List AV}(hv:RepL X azz vs)(h:(qv5 E X.h ts azz).run=some r)(ty:TypeId) :qH P B X (do pure (.value (<-Builtin.copy_ ts.toArray ty vs.toArray))) r:=by
 unfold qv5 at h;split at h
 ·rename_i t t' b o n i m b' o' n' i' m';split at h
  ·rename_i e es hd;obtain⟨ht,hce⟩:=q0d hE hd;split at h
   ·rename_i cs k N l hb;split at h
    ·rename_i cs' k' N' l' hb';split at h
     ·rename_i hc;obtain⟨hes,rfl,rfl,rfl,rfl,rfl⟩:=hc;cases h;cases hv with
      | cons hv1 hv=>cases hv with
       | cons hv2 hv=>cases hv with
        | nil=>
         cases hv1 with
         | asub _ _ _ _ _ n0 k0 c0 hbl hσ i0 m0 im hk=>
          cases hv2 with
          | asub _ _ _ _ _ n1 k1 c1 hbl' hσ' i0' m0' im' hk'=>
           obtain⟨q,c,T,us,e1,e2,e3,e4,e5⟩:=hs.blk b _ hb;rw[hσ] at e1;cases e1;obtain⟨q',c',T',us',f1,f2,f3,f4,f5⟩:=hs.blk b' _ hb';rw[hσ'] at f1;cases f1;have hlen:=e3.length;have hlen':=f3.length;have hcl:c.size=us.length+n:=by
            have:c.toList.length=(us++q0q k l).length:=by rw[e4]
            simpa[ym,e5] using this
           obtain⟨d,hd0,hd1⟩:∃d:Int,d=qfN m' m/\0<=d/\d<=m/\d<=m':=by refine⟨_,rfl,?_⟩;unfold qfN;split<;>omega
           rw[<-hd0];have hdn:d.toNat=Nat.min m'.toNat m.toNat:=by rw[hd0];unfold qfN;show _=min m'.toNat m.toNat;split<;>omega
           let ws:List Value:=(List.range d.toNat).map fun j:Nat=>Value.int k (cI l' ((i'.toNat+j:Nat):Int) 0)
           have hwl:ws.length=d.toNat:=by simp[ws]
           have hcell:∀j v,ws[j]?=some v->X.w.cell? (Addr.add ⟨n1,k1,none⟩ j)=some v:=by
            intro j v hj;have hjd:j<d.toNat:=by have:=qo hj;omega
            simp only[ws,qM2,qMw hjd,qMt,qLS] at hj;rw[qMF,zL f2,<-hj];rcases hk' with hk'|hk'
            ·rw[hk',show cs'.length+i'.toNat+j=us'.length+(i'.toNat+j) by omega];exact qwf f4 (by omega)
            ·omega
           have hone:∀v∈ws,v.oneCell'=true:=by intro v hv;obtain⟨j,_,hj⟩:=qMJ.1 hv;rw[<-hj];rfl
           have hkd:k0=cs.length+i.toNat\/ws=[]:=by
            rcases hk with hk|hk
            ·exact .inl hk
            ·exact .inr (qNp (by omega))
           have hinfo:(P.info? e).map (·.size)=some 1:=by obtain⟨ii,w1,w2⟩:=qzK (P:=P) (e:=e) (by omega);rw[w1,qMt,w2,<-hce,hes]
           have hmin:ws.length=Nat.min m'.toNat m.toNat:=by omega
           have hown:X.own b n0:=⟨hσ,_,hb,rfl⟩;have hkk:qf5 (.big cs k n l) (.big cs k n (qkQ l i l' i' d)):=trivial;have hrl:(qkQ l i l' i' d).length=l.length:=qFn i0 i0' hd1.1 (by omega) (by omega);have hint:q0q k (qkQ l i l' i' d)=(q0q k l).take i.toNat++ws++(q0q k l).drop (i.toNat+d.toNat):=by
            apply qML;intro j;have hsp:=qd0 (c:=q0q k l) (vs:=ws) (o:=i.toNat) (k:=j) (by rw[hwl,ym];omega);rw[hwl] at hsp;rw[hsp];by_cases hj:j<l.length
            ·rw[qgH (by omega)];have hli:(l.take i.toNat).length=i.toNat:=by simp;omega
             have hld:((l'.drop i'.toNat).take d.toNat).length=d.toNat:=by simp;omega
             have hcu:∀(f:R) (k:Nat),cI f (k:Int) 0=((f[k]?.getD []).getD 0 (.i 0)).toI:=fun f k=>by unfold cI zy;rw[qM3,qLT (l:=f)]
             split
             ·rename_i hin;simp only[ws,qM2,qMw (show j-i.toNat<d.toNat by omega),qMt,qLS];congr 1;rw[hcu,hcu];unfold qkQ;rw[qMo,qMd (by omega),hli,qM5 (by omega),qMR,if_pos (by omega),qMY]
             ·rename_i hout;rw[qgH hj];congr 2;rw[hcu,hcu];unfold qkQ;rcases qM1 j i.toNat with hlt|hge
              ·rw[qMo,qM5 (by omega),qMR,if_pos hlt]
              ·rw[qMd (by simp only[qMc];omega),qMY];simp only[qMc,hli,hld];rw[show i.toNat+d.toNat+(j-(i.toNat+d.toNat))=j by omega]
            ·rw[qMg (by rw[ym];omega)];rw[if_neg (by omega),qMg (by rw[ym];omega)]
           have hrow:c.toList.take k0++ws++c.toList.drop (k0+ws.length)=us++q0q k (qkQ l i l' i' d):=by
            rw[hint];rcases hkd with hkd|hkd
            ·rw[e4,hkd,hwl,hlen,List.take_append,List.drop_append,List.take_of_length_le (by omega),qNA (show us.length<=us.length+i.toNat+d.toNat by omega)];rw[show us.length+i.toNat-us.length=i.toNat by omega,show us.length+i.toNat+d.toNat-us.length=i.toNat+d.toNat by omega];simp
            ·have hd00:d.toNat=0:=by rw[<-hwl,hkd];rfl
             rw[hkd,hd00];simp[e4]
           have hfit:k0+ws.length<=c.size\/ws=[]:=by
            rcases hkd with hkd|hkd
            ·left;omega
            ·exact .inr hkd
           rcases hfit with hfit|hfit
           ·have hrun:=run_copy_row (P:=P) X.w t t' ty e n0 k0 m.toNat c0 ⟨n1,k1,none⟩ m'.toNat c1 c T ws ht hinfo e2 hmin hcell hfit hone;have hup:=UpdW.setRow (X:=X) (c':=(c.toList.take k0++ws++c.toList.drop (k0+ws.length)).toArray) e2 (by simp;omega);have hx:=Ctx.upd_ext hs hb hown hup hkk;refine⟨.value (goInt ws.length),goInt ws.length,X.upd b (.big cs k n (qkQ l i l' i' d)) (X.w.setRow n0 _),?_,.inl rfl,?_,hs.upd hb hown hup hkk ?_,rfl,hx⟩
            ·rw[qLX];have:(#[Value.slice (some ⟨n0,k0,none⟩) m.toNat c0,Value.slice (some ⟨n1,k1,none⟩) m'.toNat c1]:Array Value)=List.toArray [.slice (some ⟨n0,k0,none⟩) m.toNat c0,.slice (some ⟨n1,k1,none⟩) m'.toNat c1]:=rfl;rw[<-this];have h2:(#[t,t']:Array TypeId)=List.toArray [t,t']:=rfl;rw[<-h2,hrun];rfl
            ·have:goInt ws.length=.int .i64 d:=by show Value.int .i64 (ws.length:Int)=_;rw[hwl,qNK hd1.1]
             rw[this];exact .int _ _
            ·exact⟨n0,_,T,us,hσ,hup.new,e3.ext hx,by rw[<-hrow],by rw[hrl];exact e5⟩
           ·
            have hd00:d.toNat=0:=by rw[<-hwl,hfit];rfl
            have hrun:(Builtin.copy_ (List.toArray [t,t']) ty (List.toArray [.slice (some ⟨n0,k0,none⟩) m.toNat c0,.slice (some ⟨n1,k1,none⟩) m'.toNat c1])).run P X.w=.ok (goInt 0) X.w:=by
             have hl:=run_loadCells_list (P:=P) X.w ⟨n1,k1,none⟩ ws hcell;cases hq:P.info? e with
             | none=>rw[hq] at hinfo;cases hinfo
             | some ii=>
              have hsize:ii.size=1:=by rw[hq] at hinfo;simpa using hinfo
              have hmz:Nat.min m'.toNat m.toNat=0:=by omega
              rw[hfit] at hl;simp only[qMD] at hl;simp[Builtin.copy_,run_underlying ht,Builtin.lenOf,Builtin.firstCells,sizeOf,typeInfo,hq,hmz,hl,storeCells]
            have hw:X.w=X.w.setRow n0 c:=(setRow_self X.w n0 c T (0,0) e2).symm;have hup:UpdW X n0 c c T X.w:=⟨e2,e2,rfl,fun _ _=>rfl,rfl,rfl,rfl,rfl⟩;have hx:=Ctx.upd_ext hs hb hown hup hkk;refine⟨.value (goInt 0),goInt 0,X.upd b (.big cs k n (qkQ l i l' i' d)) X.w,?_,.inl rfl,?_,hs.upd hb hown hup hkk ?_,rfl,hx⟩
            ·rw[qLX,hrun];rfl
            ·have:goInt 0=.int .i64 d:=by show Value.int .i64 (0:Int)=_;congr 1;omega
             rw[this];exact .int _ _
            ·refine⟨n0,c,T,us,hσ,e2,e3.ext hx,?_,by rw[hrl];exact e5⟩;rw[<-hrow,hfit];simp
     ·cases h
    ·cases h
   ·cases h
  ·cases h
 ·exact qzU hE hs hv h ty
end Go.Eng

namespace Go.Eng
variable {B:Base}{E:Env}{P:Program}{X:Ctx}{a:Act}{r:Res}{st:St}
theorem Move.transl {X Y Z:Ctx}{f:Nat->Option Nat}(h:Ext X Y)(k:Move Y Z f):Move X Z f:=by refine Move.of (fun n hn=>k.M n (h.M n hn)) (fun a ha=>(k.w a (h.M _ ha)).trans (h.w a ha)) (fun b1 b2 hb1 hf=>?_) (k.y.trans h.y) (k.kept.trans h.kept);have k1:=h.b b1 b1 hb1 rfl;have k2:=k.b b1 b2 k1.lt hf;refine⟨k2.lt,k2.σ.trans k1.σ,fun sh m hv=>k1.vec sh m (k2.vec sh m hv),fun sh m hv n hn c T fr hc=>?_⟩;obtain⟨c1,T1,fr1,e1,e2⟩:=k1.size sh m (k2.vec sh m hv) n hn c T fr hc;obtain⟨c2,T2,fr2,e3,e4⟩:=k2.size sh m hv n (by rw[k1.σ];exact hn) c1 T1 fr1 e1;exact⟨c2,T2,fr2,e3,e4.trans e2⟩
theorem qH.frozen {X X1:Ctx}{h':List Blk}{m:Sem Next}(fz:Frozen B X X1 h')(h:qH P B X1 m r):qH P B X m r:=by
 obtain⟨nx,v,X',g1,g2,g3,g4,g5⟩:=h;refine⟨nx,v,X',by rw[<-fz.w];exact g1,g2,g3,g4,?_⟩;cases hn:r.2.2 with
 | none=>rw[hn] at g5;exact⟨g5.1,fz.ext.trans g5.2⟩
 | some b=>rw[hn] at g5;exact⟨g5.1,Move.transl fz.ext g5.2⟩
theorem qJj (hs:HSim B X){x:AV}{vx:Value}(h2:Rep X x vx){sh:List Sh}{m:R}(hm:ve X.h x=some (sh,m)) :∃X1,Frozen B X X1 (jM X.h x)/\Src P X1 sh m vx:=by
 cases h2 with
 | imm sh' l v himm=>
  simp only[ve,qLS,qMs] at hm;obtain⟨rfl,rfl⟩:=hm;exact⟨X,⟨rfl,rfl,rfl,hs,Ext.refl X⟩,qu0 himm⟩
 | vec b p n c hb hv=>
  obtain⟨e0,hh⟩:=qd5 hm;obtain⟨X1,fz⟩:=qhw hs b;have hfr:X1.h[b]?=some (.frz e0 sh m):=by rw[fz.h];exact qho hh
  exact⟨X1,fz,qu0 (qi5 fz.hs hfr ((Rep.vec b p n c hb hv).ext fz.ext))⟩
 | _=>simp[ve] at hm
theorem qem (hs:HSim B X){t e ty:TypeId}{sh:List Sh}{s x:AV}{vs vx:Value}{i:TypeInfo}{z:Value}(ht:P.underlying t=some (.slice e))(hc2:0<P.cellsOf e)(hc1:sh.length=P.cellsOf e) {rm:Int} (he:ElemOk rm P e (P.cellsOf e) i z) (h1:Rep X s vs) (h2:Rep X x vx) {r:Res} (hh:(qkt rm X.h e sh s x).run=some r) :qH P B X (do pure (.value (<-Builtin.append_ #[t,t] ty #[vs,vx]))) r:=by
 unfold qkt at hh;cases hr:ve X.h x with
 | none=>rw[hr] at hh;cases hh
 | some q=>
  obtain⟨sh',m⟩:=q;rw[hr] at hh;simp only at hh;by_cases hbq:Sh.beqL sh sh'=true
  ·rw[if_pos hbq] at hh;obtain rfl:=Sh.beqL_eq _ _ hbq;obtain⟨X1,fz,hsrc⟩:=qJj (P:=P) hs h2 hr;have hlen:X1.h.length=X.h.length:=by rw[fz.h];cases x<;>simp[jM,qbT]
   cases h1 with
   | nils=>
    simp only at hh;obtain⟨g1,g2⟩:=vT hh;cases g2;have:=qgb (ty:=ty) fz.hs ht hc2 hc1 he hsrc (of_decide_eq_true g1);rw[hlen,fz.h] at this;exact this.frozen fz
   | vec b p n c hb hv=>
    simp only at hh;cases hbk:X.h[b]? with
    | none=>rw[hbk] at hh;cases hh
    | some k=>
     rw[hbk] at hh;cases k<;>try (cases hh)
     rename_i e' sh'' l;simp only at hh;by_cases hq:Sh.beqL sh sh''=true/\e=e'
     ·rw[if_pos hq] at hh;obtain rfl:=Sh.beqL_eq _ _ hq.1;obtain rfl:=hq.2;have hrep:Rep X (.vec b) (.slice p n c):=.vec b p n c hb hv;by_cases hxv:∃b',x=AV.vec b'
      ·obtain⟨b',rfl⟩:=hxv;simp only[qEB] at hh;by_cases hbb:b=b'
       ·rw[if_pos hbb] at hh;cases hh
       rw[if_neg hbb] at hh;obtain⟨g1,g2⟩:=vT hh;cases g2;have hb1:X1.h[b]?=some (.vec e sh l):=by
        rw[fz.h];simp only[jM,zC];split
        ·rw[qLV (qMl hbb)];exact hbk
        ·exact hbk
       have:=qfW (ty:=ty) fz.hs ht hc2 hc1 he hb1 (hrep.ext fz.ext) hsrc (of_decide_eq_true g1);rw[fz.h] at this;exact this.frozen fz
      ·have hh':(Tree.br (ile (qg l+qg m) rm) (.leaf ((.vec b,X.h.set b (.vec e sh (zE l m)),some b):Res)) .fail).run=some r:=by cases x<;>first|exact hh|exact absurd ⟨_,rfl⟩ hxv
       obtain⟨g1,g2⟩:=vT hh';cases g2;have hx1:X1.h=X.h:=by rw[fz.h];cases x<;>first|rfl|exact absurd ⟨_,rfl⟩ hxv
       have:=qfW (ty:=ty) fz.hs ht hc2 hc1 he (by rw[hx1];exact hbk) (hrep.ext fz.ext) hsrc (of_decide_eq_true g1);rw[hx1] at this;exact this.frozen fz
     ·rw[if_neg hq] at hh;cases hh
   | full sh'' l p n himm=>
    simp only at hh;by_cases hq:Sh.beqL sh sh''=true
    ·rw[if_pos hq] at hh;obtain rfl:=Sh.beqL_eq _ _ hq;have hrep:=(Rep.full (X:=X) sh l p n himm).ext fz.ext;cases hrep with
     | full _ _ _ _ himm'=>
      cases hlt:ilt 0 (qg m) with
      | true=>
       rw[hlt] at hh;obtain⟨g3,g4⟩:=vT (show (Tree.br _ _ _).run=some r from hh);cases g4;have:=qoN (ty:=ty) fz.hs ht hc2 hc1 he himm' hsrc (of_decide_eq_true hlt) (of_decide_eq_true g3);rw[hlen,fz.h] at this;exact this.frozen fz
      | false=>
       rw[hlt] at hh;obtain⟨g3,g4⟩:=vT (show (Tree.br _ _ _).run=some r from hh);cases g4;have hm0:m=[]:=by have:¬(0:Int)<qg m:=of_decide_eq_false hlt;unfold qg at this;exact qNp (by omega)
       subst hm0;have hn0:n=0:=by
        have hl0:qg l<=0:=of_decide_eq_true g3;unfold qg at hl0;rcases himm' with⟨q1,_⟩|⟨_,_,q1,_⟩
        ·cases q1;rfl
        ·cases q1;omega
       subst hn0;have:=qoy (ty:=ty) fz.hs ht hc2 hsrc (p:=p);rw[hlen,fz.h] at this;exact this.frozen fz
    ·rw[if_neg hq] at hh;cases hh
   | _=>simp only at hh;cases hh
  ·rw[if_neg hbq] at hh;cases hh
theorem qvn (hE:E.tok P)(hs:HSim B X){t ty:TypeId}{s x:AV}{vs vx:Value}(h1:Rep X s vs)(h2:Rep X x vx)(h:(qvO E X.h t s x).run=some r):qH P B X (do pure (.value (<-Builtin.append_ #[t,t] ty #[vs,vx]))) r:=by
 unfold qvO at h;cases hd:(E.ty t).d<;>rw[hd] at h<;>try (cases h)
 rename_i e es;obtain⟨ht,rfl⟩:=q0d hE hd;simp only at h;cases hsh:E.shape 16 e with
 | none=>rw[hsh] at h;cases h
 | some sh=>
  rw[hsh] at h;simp only at h;by_cases hc:sh.length=P.cellsOf e/\0<P.cellsOf e/\(E.ty e).zero.length=P.cellsOf e
  ·rw[if_pos hc] at h;obtain⟨hc1,hc2,hc4⟩:=hc;obtain⟨i,z,he⟩:=qEU hE hc2 hc4;cases x with
   | nils=>
    simp only at h;cases h1<;>simp only[okv] at h<;>cases h;cases h2;exact qH.ofV hs (ug ht hc2 (qLU 0)) .nils
   | _=>exact qem hs ht hc2 hc1 he h1 h2 h
  ·rw[if_neg hc] at h;cases h
inductive RepLL (X:Ctx):List (List AV)->List (List Value)->Prop
 | nil:RepLL X [] []
 | cons {a:List AV} {v:List Value} {l:List (List AV)} {m:List (List Value)} (h:RepL X a v) (t:RepLL X l m):RepLL X (a::l) (v::m)
theorem RepLL.ren {X X':Ctx}{f:Nat->Option Nat}(hm:Move0 X X' f):∀{l:List (List AV)} {m:List (List Value)},RepLL X l m->RepLL X' (l.map (AV.renL f)) m
 | _,_,.nil=>.nil
 | _,_,.cons h t=>.cons (h.ren hm) (t.ren hm)
theorem RepLL.ext {X X':Ctx}(hm:Ext X X'):∀{l:List (List AV)} {m:List (List Value)},RepLL X l m->RepLL X' l m
 | _,_,.nil=>.nil
 | _,_,.cons h t=>.cons (h.ext hm) (t.ext hm)
theorem RepLL.ext0 {X X':Ctx}(hm:Move0 X X' some):∀{l:List (List AV)} {m:List (List Value)},RepLL X l m->RepLL X' l m
 | _,_,.nil=>.nil
 | _,_,.cons h t=>.cons (h.ext0 hm) (t.ext0 hm)
def qji(D:Nat):Deferred:={ target:=.collected D,args:=#[] }
def qz8(kept pin:List (Nat×Obj))(ds:List Deferred):Prop:=∃Ds:List Nat,ds=Ds.map qji/\Ds.Nodup/\∀D,D∈Ds->(D,.deferred (some []))∈kept/\∀p,p∈pin->p.1≠D
theorem qz8.nil {kept pin:List (Nat×Obj)}:qz8 kept pin []:=⟨[],rfl,.nil,fun _ h=>by cases h⟩
def AV.span:AV->Nat
 | .eptr sh l _ _=>sh.length*l.length
 | _=>0
def qFR(X:Ctx)(x:Nat×AV):Prop:=Rep X x.2 (.pointer (some ⟨x.1,0,none⟩))/\X.M x.1/\X.w.cell? ⟨x.1,x.2.span,none⟩=none
theorem qFR.move {X X':Ctx}{x:Nat×AV}(h:qFR X x)(hM:∀n,X.M n->X'.M n)(hw:∀a:Addr,X.M a.block->X'.w.cell? a=X.w.cell? a)(hr:Rep X' x.2 (.pointer (some ⟨x.1,0,none⟩))):qFR X' x:=⟨hr,hM _ h.2.1,by rw[hw _ h.2.1];exact h.2.2⟩
def q4o(gl:List (Nat×AV))(X:Ctx):Prop:=∀x,x∈gl->(∃sh l i off,x.2=.eptr sh l i off)/\qFR X x
structure Sim (E:Env) (B:Base) (X:Ctx) (st:St) (a:Act):Prop where
 hs:HSim B X
 h:X.h=st.h
 t:RepL X st.t a.tmps.toList
 fs:RepLL X st.fs B.fs
 glob:∀x,x∈E.glob->(∃sh l i off,x.2=.eptr sh l i off)/\qFR X x
 df:qz8 X.kept (B.pin st.pend) a.defers
 ni:B.imps.length<=E.nimp
 y:X.y=B.y
 pin:∀p,p∈B.pin st.pend->p∈X.kept
theorem q7E (hs:Sim E B X st a)(x:Operand):Rep X (E.opd st.t x) (a.eval x):=by
 cases x with
 | tmp i=>
  have:=hs.t.getD i;simpa[Env.opd,Act.eval,qNb,qLT] using this
 | const v=>exact qIX X v
 | global g=>
  simp only[Env.opd,Act.eval];cases hg:E.glob.find? fun x=>x.1==g with
  | none=>exact .undef _
  | some x=>
   have h1:=qN7 hg;have h2:x.1=g:=by simpa using h1
   have:=(hs.glob x (qMO hg)).2.1;rw[h2] at this;exact this
 | func f=>exact .fn f [] [] [] [] .nil .nil
theorem q3p{E:Env}{B:Base}{X:Ctx}{st:St}{a:Act}(hs:Sim E B X st a):∀l:List Operand,RepL X (l.map (E.opd st.t)) (l.map a.eval)
 | []=>.nil
 | x::l=>.cons (q7E hs x) (q3p hs l)
theorem qqi{E:Env}{B:Base}{X:Ctx}{st:St}{a:Act}(hs:Sim E B X st a):∀l:List (Nat×Operand),RepP X (l.map fun p=>(p.1,E.opd st.t p.2)) (l.map fun p=>(p.1,a.eval p.2))
 | []=>.nil
 | (_,x)::l=>.cons (q7E hs x) (qqi hs l)
theorem qv8 (hs:Sim E B X st a)(x:Option Operand):RepO X (x.map (E.opd st.t)) (x.map a.eval):=by
 cases x with
 | none=>exact .none
 | some x=>exact .some (q7E hs x)
theorem qu1 (hs:HSim B X){f:Int->Int->Int}{g:Value->Value->Sem Value}(hg:∀k k' x y w,(g (.int k x) (.int k' y)).run P w=.ok (.int k (f x y)) w){azz:List AV} {vs:List Value} (hv:RepL X azz vs) {r:Res} (h:(quw f X.h azz).run=some r) {m:Sem Value} (hm:∀x rest,vs=x::rest->m=rest.foldlM g x):qH P B X (do pure (.value (<-m))) r:=by
 cases hv with
 | nil=>cases h
 | cons hx ht=>
  rename_i a v azz vs;simp only[quw] at h;cases h1:asI a with
  | none=>rw[h1] at h;cases h
  | some p=>
   obtain⟨k,n⟩:=p;rw[h1] at h;simp only at h;cases h2:qzN f k n azz with
   | none=>rw[h2] at h;cases h
   | some q=>
    rw[h2] at h;simp only at h;obtain rfl:=q2M hx h1;have hr:=qqd (P:=P) hg k azz n q vs h2 ht;rw[hm _ _ rfl];split at h<;>cases h
    ·exact qH.ofV hs hr (.ilit _ _)
    ·exact qH.ofV hs hr (.int _ _)
theorem qse (hE:E.tok P)(hs:HSim B X){b:Builtin}{ts:Array TypeId}{azz:List AV}{vs:List Value}(hv:RepL X azz vs)(h:(q75 E X.h b ts.toList azz).run=some r) (ty:TypeId) (cs:Array Bool):qH P B X (builtin b ts ty cs vs.toArray) r:=by
 obtain⟨ts⟩:=ts;cases b with
 | append=>
  simp only[q75] at h;unfold qxy at h;split at h
  ·rename_i t t' s x;by_cases htt:t=t'
   ·subst htt;rw[if_pos rfl] at h;cases hv with
    | cons h1 hv=>cases hv with
     | cons h2 hv=>cases hv;exact qvn hE hs h1 h2 h
   ·rw[if_neg htt] at h;cases h
  ·cases h
 | len=>
  simp only[q75] at h;unfold qqo at h;split at h
  ·rename_i t rest x;cases hv with
   | cons h1 hv=>
    cases hv;obtain⟨av,u,rfl,g1,g2⟩:=qyL (P:=P) (t:=t) (ty:=ty) (ts:=(t::rest:List TypeId).toArray) hE hs (by simp) h1 h;exact qH.ofV hs g1 g2
  ·cases h
 | max=>
  simp only[q75] at h;exact qu1 hs (f:=qoO) (g:=Builtin.max2) (fun _ _ _ _ _=>qG2) hv h (m:=Builtin.max_ ts.toArray ty vs.toArray) (fun x rest e=>by subst e;rfl)
 | min=>
  simp only[q75] at h;exact qu1 hs (f:=qfN) (g:=Builtin.min2) (fun _ _ _ _ _=>qGf) hv h (m:=Builtin.min_ ts.toArray ty vs.toArray) (fun x rest e=>by subst e;rfl)
 | copy=>
  simp only[q75] at h;exact qx0 hE hs hv h ty
 | _=>simp only[q75] at h;cases h
theorem qlD (hE:E.tok P)(hs:Sim E B X st a){o:Oper}(h:(qpc E st.h (E.opd st.t) o.op).run=some r):qH P B X (execOp a.eval o) r:=by
 have ro:=q7E hs;rw[<-hs.h] at h;unfold qpc at h;unfold execOp;cases hop:o.op with
 | move x=>rw[hop] at h;cases h;exact qH.val hs.hs rfl (ro x)
 | assign x=>rw[hop] at h;cases h;exact qH.val hs.hs rfl (ro x)
 | pick c x y=>
  rw[hop] at h;simp only at h ⊢;have hc:=ro c;generalize E.opd st.t c=ac at *;generalize a.eval c=vc at *;cases hc<;>simp only at h<;>try (cases h)
  ·rename_i b;refine qH.val hs.hs (v:=if b then a.eval x else a.eval y) rfl ?_;cases b<;>exact ro _
  ·rename_i b;cases b
   ·cases h;exact qH.val hs.hs (v:=a.eval y) rfl (ro y)
   ·cases h;exact qH.val hs.hs (v:=a.eval x) rfl (ro x)
 | box t x=>
  rw[hop] at h;simp only at h ⊢;obtain⟨z,hz,rfl⟩:=qtm h;exact qFc hs.hs (ro x) hz
 | alloc t=>
  rw[hop] at h;simp only at h ⊢;obtain⟨z,hz,rfl⟩:=qtm h;exact qyJ hE hs.hs hz
 | load t x=>
  rw[hop] at h;obtain⟨av,u,rfl,g1,g2⟩:=que hE hs.hs (ro x) h;exact qH.ofV hs.hs g1 g2
 | store t x y=>rw[hop] at h;exact qvG hE hs.hs (ro x) (ro y) h
 | build t parts=>
  rw[hop] at h;obtain⟨av,u,rfl,g1,g2⟩:=qrW (vparts:=parts.map fun p=>(p.1,a.eval p.2)) hE (by simpa using qqi hs parts.toList) h;exact qH.ofV hs.hs g1 g2
 | buildSlice t len parts=>
  rw[hop] at h;have h:(q7i E X.h t len (parts.toList.map fun p=>(p.1,E.opd st.t p.2))).run=some r:=h;have hp:RepP X (parts.toList.map fun p=>(p.1,E.opd st.t p.2)) (parts.map fun p=>(p.1,a.eval p.2)).toList:=by rw[Array.toList_map];exact qqi hs parts.toList
  have hg:=qmd hE hs.hs hp h;exact hg
 | nilCheck x=>
  rw[hop] at h;simp only at h ⊢;have hx:=ro x;generalize E.opd st.t x=ax at *;generalize a.eval x=vx at *;cases hx<;>simp only at h<;>try (cases h)
  ·rename_i b off n hb hσ;split at h
   ·cases h;exact qH.val hs.hs rfl (.ptr b off n hb hσ)
   ·cases h;exact qH.val hs.hs rfl (.ptr b off n hb hσ)
   ·cases h
  ·rename_i sh l i off ad h1 h2 h3 h4;exact qH.val hs.hs rfl (.eptr sh l i off ad h1 h2 h3 h4)
  ·rename_i sh l i off ad h1 h2 h3 h4;exact qH.val hs.hs rfl (.eptr sh l i off ad h1 h2 h3 h4)
 | binOp op t x y ty=>
  rw[hop] at h;simp only at h ⊢;have hx:=ro x;have hy:=ro y;generalize E.opd st.t x=ax at *;generalize E.opd st.t y=ay at *;unfold qjv at h;split at h
  ·obtain⟨av,u,rfl,g1,g2⟩:=qup (x:=x) (y:=y) hE hx hy h;exact qH.ofV hs.hs g1 g2
  ·obtain⟨av,u,rfl,g1,g2⟩:=qyE (x:=x) (y:=y) hE hs.hs hx hy h;exact qH.ofV hs.hs g1 g2
 | unOp op t x=>
  rw[hop] at h;obtain⟨av,u,rfl,g1,g2⟩:=qCj (P:=P) (ro x) h;exact qH.ofV hs.hs g1 g2
 | convert s d x=>
  rw[hop] at h;obtain⟨av,u,rfl,g1,g2⟩:=qvz hE hs.hs (ro x) h;exact qH.ofV hs.hs g1 g2
 | makeSlice t n m=>rw[hop] at h;exact qzn hE hs.hs (ro n) (ro m) h
 | makeFunc fn first caps=>
  rw[hop] at h;simp only at h ⊢;cases fn<;>simp only at h<;>try (cases h)
  rename_i f;have:Rep X (.fn f (first.toList.map (E.opd st.t)) (caps.toList.map (E.opd st.t))) (.func (.func f) (first.toList.map a.eval).toArray (caps.toList.map a.eval).toArray):=
   .fn f _ _ _ _ (q3p hs _) (q3p hs _)
  refine qH.val hs.hs (v:=.func (.func f) (first.map a.eval) (caps.map a.eval)) rfl ?_;have e1:(first.toList.map a.eval).toArray=first.map a.eval:=by apply qN8;simp
  have e2:(caps.toList.map a.eval).toArray=caps.map a.eval:=by apply qN8;simp
  rwa [e1,e2] at this
 | slice t x lo hi mx=>
  rw[hop] at h;exact qwe hE hs.hs (ro x) (qv8 hs lo) (qv8 hs hi) (qv8 hs mx) h
 | fieldAddr s x f=>
  rw[hop] at h;obtain⟨av,u,rfl,g1,g2⟩:=qnm hE (ro x) h;exact qH.ofV hs.hs g1 g2
 | field s x f=>
  rw[hop] at h;obtain⟨av,u,rfl,g1,g2⟩:=quP hE (ro x) h;exact qH.ofV hs.hs g1 g2
 | indexAddr t x i=>
  rw[hop] at h;obtain⟨av,u,rfl,g1,g2⟩:=qkw hE hs.hs (ro x) (ro i) h;exact qH.ofV hs.hs g1 g2
 | index t x i=>
  rw[hop] at h;obtain⟨av,u,rfl,g1,g2⟩:=qvC hE (ro x) (ro i) h;exact qH.ofV hs.hs g1 g2
 | extract x i=>
  rw[hop] at h;simp only at h ⊢;have hx:=ro x;generalize E.opd st.t x=ax at *;generalize a.eval x=vx at *;cases hx<;>simp only at h<;>try (cases h)
  rename_i vs us hv;cases hi:vs[i]? with
  | none=>rw[hi] at h;cases h
  | some v=>
   rw[hi] at h;cases h;obtain⟨u,g1,g2⟩:=hv.get i v hi;refine qH.ofV hs.hs (v:=u) ?_ g2;simp[Instr.extract,g1]
 | call c=>
  rw[hop] at h;obtain⟨callee,args,argTypes⟩:=c;cases callee with
  | value x=>simp only at h;cases h
  | invoke x n=>simp only at h;cases h
  | builtin b=>
   simp only at h ⊢;have hargs:=q3p hs args.toList;have hrun:∀ty,(do let d <-resolve a.eval { callee:=.builtin b,args,argTypes } ty;invoke d.target d.args:Sem Next) =
     builtin b argTypes ty (args.map fun|.const _=>true|_=>false) (args.map a.eval):=by
    intro ty;rfl
   rw[hrun];have hA:args.map a.eval=(args.toList.map a.eval).toArray:=by apply qN8;simp
   rw[hA];generalize args.toList.map (E.opd st.t)=als at *;generalize args.toList.map a.eval=avs at *;exact qse hE hs.hs hargs h _ _
 | _=>rw[hop] at h;simp only at h;cases h
end Go.Eng

namespace Go.Eng
variable {P:Program}{n:Nat}{w:World}
def q3J(ro:Option Nat):Fence:={ Fence.wide with round:=ro }
theorem qed (ro:Option Nat):(q3J ro).depth.isSome=true->1<=n:=fun h=>by simp[q3J,Fence.wide] at h
theorem qEC {ro:Option Nat}{f:FuncId}{args:Array Value}{R:Ending->World->Prop}:CallsIn (q3J ro) n P f args w R↔Calls P f args w R:=(callsIn_wide (n:=n))
theorem qLa {ro:Option Nat}{row:String}{args:Array Value}{R:Value->World->Prop}(h:Go.Rows P row args w R):RowsIn (q3J ro) n P row args w R:=by intro c cs _;obtain⟨v,w',h1,h2⟩:=h c cs;exact⟨v,w',h1,stepsIn_wide.2 h2⟩
theorem qpw (ro:Option Nat)(n:Nat){o:Oper}{a:Act}{next:Act->World->Prop}{Q:Exit->Act->World->Prop}(h:o.wp P a w next Q)(hd:∀c,o.op≠.defer c) :o.wpIn (q3J ro) n P a w next Q:=by
 refine⟨fun _ _=>trivial,?_⟩;rw[show (q3J ro).round=ro from rfl,Oper.semAt_eq _ _ _ hd];unfold Oper.wp at h;generalize (execOp a.eval o).run P w=r at h;cases r with
 | ok x w'=>
  cases x with
  | value v=>exact h
  | skip=>exact h
  | defer d=>exact h
  | enter f args=>exact⟨qed ro,qEC.2 h⟩
  | row row args=>exact⟨qed ro,qLa h⟩
  | round l f tmps assign body=>exact h.elim
  | _=>exact h
 | halt x w'=>cases x<;>exact h
end Go.Eng

namespace Go.Eng
variable {B:Base}{E:Env}{X:Ctx}{a:Act}{o:Oper}{st:St}{v:Value}
structure CallOK (E:Env) (P:Program) (callH:q7F) (B:Base):Prop where
 fn:∀(f:FuncId) (args:List AV) (st:St) (r:AV×St) (X:Ctx) (a:Act) (vargs:List Value),Sim E B X st a->RepL X args vargs->(callH (some f) args st).run=some r ->
  (∀w,(callFunc f vargs.toArray).run P w=.ok (.enter f vargs.toArray) w) /\
  Calls P f vargs.toArray X.w fun e w'=>∃v X',e=.returned v/\X'.w=w'/\Rep X' r.1 v/\Sim E B X' r.2 a
 yld:∀(args:List AV) (st:St) (r:AV×St) (X:Ctx) (a:Act) (vargs:List Value),Sim E B X st a->RepL X args vargs->(callH none args st).run=some r ->
  ∃(l:Nat) (f:FuncId) (tmps:Array Value) (assign body:Code),(Instr.yield X.y vargs.toArray).run P X.w=.ok (.round l f tmps assign body) X.w /\
  ∀n,RoundIn (q3J B.ro) n P l f tmps assign body X.w fun e w'=>∃v X',e=.returned v/\X'.w=w'/\Rep X' r.1 v/\Sim E B X' r.2 a
theorem qAb {t:List AV}(h:RepL X t a.tmps.toList){av:AV}(hv:Rep X av v)(dst:Option Tmp):RepL X (qiv t dst av) (a.put dst v).tmps.toList:=by
 cases dst with
 | none=>exact h
 | some d=>
  simp only[qiv,Act.put,Array.toList_setIfInBounds];exact RepL.set hv h d
theorem qu2 (a:Act)(dst:Option Tmp)(v:Value):(a.put dst v).defers=a.defers:=by cases dst<;>rfl
theorem Sim.put (hs:Sim E B X st a){av:AV}(hv:Rep X av v)(dst:Option Tmp) :Sim E B X { st with t:=qiv st.t dst av } (a.put dst v):=⟨hs.hs,hs.h,qAb hs.t hv dst,hs.fs,hs.glob,by rw[qu2];exact hs.df,hs.ni,hs.y,hs.pin⟩
theorem Sim.ext {X X':Ctx}(hs:Sim E B X st a)(hx:Ext X X')(hs':HSim B X'):Sim E B X' { st with h:=X'.h } a:=⟨hs',rfl,hs.t.ext hx,hs.fs.ext hx,fun x hx'=>⟨(hs.glob x hx').1,(hs.glob x hx').2.move hx.M hx.w ((hs.glob x hx').2.1.ext hx)⟩,hx.kept▸hs.df,hs.ni,hx.y.trans hs.y,fun p hp=>hx.kept▸hs.pin p hp⟩
theorem Sim.apply {X X':Ctx}(hs:Sim E B X st a){r:Res}(hv:Rep X' r.1 v)(hs':HSim B X')(hm:match r.2.2 with|none=>X'.h=r.2.1/\Ext X X'|some b=>X'.h=r.2.1.map (Blk.ren (qbW b))/\Move X X' (qbW b)) (dst:Option Tmp) :Sim E B X' (st.apply dst r) (a.put dst v):=by
 unfold St.apply;cases hn:r.2.2 with
 | none=>
  rw[hn] at hm;obtain⟨h1,h2⟩:=hm;have:=(hs.ext h2 hs').put hv dst;rw[h1] at this;exact this
 | some b=>
  rw[hn] at hm;obtain⟨h1,h2⟩:=hm;refine⟨hs',h1,qAb (hs.t.ren h2.toMove0) hv dst,hs.fs.ren h2.toMove0,fun x hx=>?_,by rw[qu2];exact h2.kept▸hs.df,hs.ni,h2.y.trans hs.y,fun p hp=>h2.kept▸hs.pin p hp⟩;obtain⟨⟨sh,l,i,off,he⟩,hr⟩:=hs.glob x hx;refine⟨⟨sh,l,i,off,he⟩,hr.move h2.M h2.w ?_⟩;have:=hr.1.ren h2.toMove0;rw[he] at this ⊢;exact this
theorem qso {callH:q7F}{st s:St}(h:(qqr E callH o st).run=some s):∀c,o.op≠.defer c:=by intro c hc;unfold qqr at h;rw[hc] at h;simp[qpc,Tree.bind,Tree.run] at h
theorem qnA {P:Program}(hE:E.tok P){callH:q7F}(hc:CallOK E P callH B){st st':St}(hs:Sim E B X st a)(h:(qqr E callH o st).run=some st') {next:Act->World->Prop} {Q:Exit->Act->World->Prop} (hq:∀X' a',Sim E B X' st' a'->next a' X'.w) {n:Nat}:o.wpIn (q3J B.ro) n P a X.w next Q:=by
 have hnd:=qso h;have plain:∀(_:((qpc E st.h (E.opd st.t) o.op).bind fun r=>.leaf (st.apply o.dst r)).run=some st'),o.wp P a X.w next Q:=by
  intro hh;obtain⟨r,h1,h2⟩:=bind_some hh;cases h2;obtain⟨nx,v,X',g1,g2,g3,g4,g5⟩:=qlD hE hs h1;unfold Oper.wp;rw[g1];rcases g2 with rfl|⟨rfl,rfl⟩
  ·exact hq X' _ (hs.apply g3 g4 g5 o.dst)
  ·exact hq X' _ (hs.apply g3 g4 g5 o.dst)
 unfold qqr at h;split at h
 ·rename_i x args tys hop;cases hx:E.opd st.t x with
  | fn f first caps=>
   rw[hx] at h;obtain⟨r,h1,h2⟩:=bind_some h;cases h2;have hv:=q7E hs x;rw[hx] at hv;generalize hev:a.eval x=vx at hv;cases hv with
   | fn _ _ _ vf vc q1 q2=>
    have hargs:=q3p hs args.toList;have hall:RepL X (first++args.toList.map (E.opd st.t)++caps) (vf++args.toList.map a.eval++vc):=(q1.append hargs).append q2;obtain⟨g1,g2⟩:=hc.fn f _ st r X a _ hs hall h1;refine qpw B.ro n ?_ hnd;unfold Oper.wp;have hrun:(execOp a.eval o).run P X.w=.ok (.enter f (vf++args.toList.map a.eval++vc).toArray) X.w:=by
     simp only[execOp,hop,resolve,hev,Deferred.ofValue,qLX,qMp,qM4,invoke];have:vf.toArray++args.map a.eval++vc.toArray=(vf++args.toList.map a.eval++vc).toArray:=by apply qN8;simp
     rw[this];exact g1 X.w
    rw[hrun];refine g2.mono fun e w' ⟨v,X',e1,e2,e3,e4⟩=>?_;subst e1 e2;exact hq X' _ (e4.put e3 o.dst)
  | yld=>
   rw[hx] at h;obtain⟨r,h1,h2⟩:=bind_some h;cases h2;have hv:=q7E hs x;rw[hx] at hv;generalize hev:a.eval x=vx at hv;cases hv;obtain⟨l,f,tmps,assign,body,g1,g2⟩:=hc.yld _ st r X a _ hs (q3p hs args.toList) h1;refine⟨fun _ _=>trivial,?_⟩;rw[Oper.semAt_eq _ _ _ hnd];have hrun:(execOp a.eval o).run P X.w=.ok (.round l f tmps assign body) X.w:=by
    simp only[execOp,hop,resolve,hev,Deferred.ofValue,qLX,qMp,qM4,invoke];have:#[]++args.map a.eval=(args.toList.map a.eval).toArray:=by apply qN8;simp
    rw[this];exact g1
   rw[hrun];refine⟨qed B.ro,(g2 (n-1)).mono fun e w' ⟨v,X',e1,e2,e3,e4⟩=>?_⟩;subst e1 e2;exact hq X' _ (e4.put e3 o.dst)
  | _=>rw[hx] at h;cases h
 ·exact qpw B.ro n (plain h) hnd
theorem Sim.lit (hs:Sim E B X st a){d:Nat}{b:Bool}(hd:st.t[d]?=some (.bool b)):Sim E B X { st with t:=st.t.set d (.blit b) } a:=by
 refine⟨hs.hs,hs.h,?_,hs.fs,hs.glob,hs.df,hs.ni,hs.y,hs.pin⟩;obtain⟨v,h1,h2⟩:=hs.t.get d _ hd;have hv:v=.bool b:=by cases h2;rfl
 subst hv;have:=RepL.set (X:=X) (a:=.blit b) (v:=.bool b) (.blit b) hs.t d;have e:a.tmps.toList.set d (.bool b)=a.tmps.toList:=by
  apply qML;intro i;by_cases hi:i=d
  ·subst hi;rw[qM6 (qo h1),h1]
  ·rw[qLV (qMl hi)]
 rwa [e] at this
theorem qqv {st st':St}(hs:Sim E B X st a){all:Array Oper}{k:Nat}(h:(qrT all k o st).run=some st'):Sim E B X st' a:=by
 unfold qrT at h;split at h
 ·split at h
  ·rename_i d _;split at h
   ·rename_i b hd;cases b
    ·cases h;exact hs.lit hd
    ·cases h;exact hs.lit hd
   ·cases h;exact hs
  ·cases h;exact hs
 ·cases h;exact hs
theorem q8z {t:List AV}(ht:RepL X t a.tmps.toList){all:Array Oper}{b:Bool}(h:q58 all o t=some b):Region.wanted o (yielded all a.tmps)=b:=by
 unfold q58 at h;unfold Region.wanted;cases hg:o.guard with
 | none=>rw[hg] at h;cases h;rfl
 | some p=>
  obtain⟨j,want⟩:=p;rw[hg] at h;simp only at h ⊢;cases hj:(all[j]?).bind (·.dst) with
  | none=>rw[hj] at h;cases h
  | some d=>
   rw[hj] at h;simp only at h;unfold yielded;rw[hj,qMk];split at h
   ·rename_i c hd;cases h;obtain⟨v,h1,h2⟩:=ht.get d _ hd;have h1':a.tmps[d]?=some v:=by simpa using h1
    cases h2;rw[h1'];cases c<;>cases want<;>rfl
   ·rename_i hd;cases h;obtain⟨v,h1,h2⟩:=ht.get d _ hd;have h1':a.tmps[d]?=some v:=by simpa using h1
    cases h2;rw[h1'];rfl
   ·cases h
theorem qk8{E:Env}{P:Program}(hE:E.tok P){callH:q7F}{B:Base}(hc:CallOK E P callH B){all:Array Oper}{st':St}{Q:Exit->Act->World->Prop}{n:Nat}
  (hq:∀X' a',Sim E B X' st' a'->Q .normal a' X'.w):∀(l:List Oper) (k:Nat) {X:Ctx} {st:St} {a:Act},Sim E B X st a->(qjY E callH all k l st).run=some st'->wpListIn (q3J B.ro) n P all Q l a X.w
 | [],k,X,st,a,hs,h=>by
  simp only[qjY,Tree.run,qLS] at h;subst h;exact hq X a hs
 | o::rest,k,X,st,a,hs,h=>by
  simp only[qjY] at h;simp only[wpListIn];cases hw:q58 all o st.t with
  | none=>rw[hw] at h;cases h
  | some b=>
   rw[hw] at h;rw[q8z hs.t hw];cases b with
   | true=>
    simp only[if_true];obtain⟨s1,h1,h2⟩:=bind_some h;obtain⟨s2,h3,h4⟩:=bind_some h2;refine qnA hE hc hs h1 fun X' a' hs'=>?_;exact qk8 hE hc hq rest (k+1) (qqv hs' h3) h4
   | false=>
    simp only[qMv,if_false];exact⟨fun _ _=>trivial,qk8 hE hc hq rest (k+1) (hs.put (av:=.skip) .skip o.dst) h⟩
theorem qrY {P:Program}(hE:E.tok P){callH:q7F}(hc:CallOK E P callH B){id:Nat}{ops:Array Oper}{st st':St}(hs:Sim E B X st a)(h:(qjY E callH ops 0 ops.toList st).run=some st') {Q:Exit->Act->World->Prop} {n:Nat} (hq:∀X' a',Sim E B X' st' a'->Q .normal a' X'.w):(Code.region id ops false).wpIn (q3J B.ro) n P Q a X.w:=wpIn_region_list (qk8 hE hc hq ops.toList 0 hs h)
end Go.Eng

namespace Go.Eng
variable {B:Base}{X:Ctx}
structure Entry (B:Base) (X:Ctx):Prop where
 w0:B.w0=X.w
 imps:B.imps=(List.range X.h.length).map X.σ
 M0:∀n,X.M n->B.M0 n
def qaF(P:Program)(f:FuncId):Prop:=∀(args:Array Value) (w:World),(callFunc f args).run P w=.ok (.enter f args) w
def qW(P:Program)(gl:List (Nat×AV))(f:FuncId)(G:z8):Prop:=
 qaF P f/\∀(B:Base) (X:Ctx) (args:List AV) (vargs:List Value) (r:AV×List Blk),HSim B X->Entry B X->q4o gl X->RepL X args vargs->(G args X.h).run=some r ->
  Calls P f vargs.toArray X.w fun e w'=>∃v X',e=.returned v/\X'.w=w'/\Rep X' r.1 v/\X'.h=r.2/\HSim B X'/\X'.y=X.y
mutual
theorem qAx{B:Base}{X:Ctx}(hs:HSim B X):∀{av:AV} {v:Value},Rep X av v->Rep X (av.lend X.h) v
 | .vec b,v,h=>by
  unfold AV.lend;split
  ·rename_i e sh l hb;exact .imm _ _ _ (qi5 hs hb h)
  ·exact .undef v
 | .agg cs,_,.agg _ vs h=>.agg _ vs (qcM hs h)
 | .tuple cs,_,.tuple _ vs h=>.tuple _ vs (qcM hs h)
 | .undef,_,h|.skip,_,h|.yld,_,h|.blit _,_,h|.bool _,_,h|.ilit _ _,_,h|.int _ _,_,h|.str _,_,h|.nilp,_,h|.ptr _ _,_,h|.eptr _ _ _ _,_,h|.mptr _ _ _ _ _,_,h|.vptr _ _ _,_,h|.vsub _ _,_,h|.aptr _ _ _,_,h|.asub _ _ _ _ _,_,h|.bagg _ _ _ _,_,h
 | .nils,_,h|.imm _ _,_,h|.full _ _,_,h|.nilf,_,h|.fn _ _ _,_,h=>h
theorem qcM{B:Base}{X:Ctx}(hs:HSim B X):∀{azz:List AV} {vs:List Value},RepL X azz vs->RepL X (AV.lendL X.h azz) vs
 | _,_,.nil=>.nil
 | _,_,.cons h t=>.cons (qAx hs h) (qcM hs t)
end
def Wk(X:Ctx)(k k':Blk):Prop:=k'=.dead\/k'=k\/(∃cs cs',k=.cells cs/\k'=.cells cs'/\∀vs,RepL X cs vs->RepL X cs' vs)\/∃cs cs' kk n l,k=.big cs kk n l/\k'=.big cs' kk n l/\∀vs,RepL X cs vs->RepL X cs' vs
theorem q9J (hs:HSim B X){h':List Blk}(hl:h'.length=X.h.length)(hw:∀(b:Nat) (k':Blk),h'[b]?=some k'->∃k0,X.h[b]?=some k0/\Wk X k0 k')(hc:∀b:Nat,b<B.imps.length->∀k':Blk,h'[b]?=some k'->k'.solid=true):HSim B { X with h:=h' }/\Ext X { X with h:=h' }:=by
 have hvec:∀b sh m,({ X with h:=h' }:Ctx).isVec b sh m->X.isVec b sh m:=by
  intro b sh m ⟨e,l,h1,h2⟩;refine⟨e,l,?_,h2⟩;rcases h1 with h1|h1
  ·obtain⟨k0,h3,h4⟩:=hw b _ h1;rcases h4 with h4|h4|⟨_,_,_,h4,_⟩|⟨_,_,_,_,_,_,h4,_⟩
   ·cases h4
   ·exact .inl (h4▸h3)
   ·cases h4
   ·cases h4
  ·obtain⟨k0,h3,h4⟩:=hw b _ h1;rcases h4 with h4|h4|⟨_,_,_,h4,_⟩|⟨_,_,_,_,_,_,h4,_⟩
   ·cases h4
   ·exact .inr (h4▸h3)
   ·cases h4
   ·cases h4
 have hx:Ext X { X with h:=h' }:=by refine Move.of (fun _ h=>h) (fun _ _=>rfl) (fun b b' hb hf=>?_);cases hf;exact⟨by show b<h'.length;omega,rfl,hvec b,fun sh m _ k hk c T fr hc=>⟨c,T,fr,hc,rfl⟩⟩
 have hown:∀b m,({ X with h:=h' }:Ctx).own b m->X.own b m:=by
  intro b m ⟨h1,k,h2,h3⟩;obtain⟨k0,h4,h5⟩:=hw b k h2;refine⟨h1,k0,h4,?_⟩;rcases h5 with h5|h5|⟨_,_,h5,_,_⟩|⟨_,_,_,_,_,h5,_,_⟩
  ·subst h5;cases h3
  ·exact h5▸h3
  ·subst h5;rfl
  ·subst h5;rfl
 refine⟨⟨?_,fun b b' m h h'=>hs.inj b b' m (hown _ _ h) (hown _ _ h'),fun b m h=>hs.notM b m (hown _ _ h),hs.ltM,hs.M0,hs.newM,hs.os,hs.tape,hs.output,hs.size,hs.frame,hs.imps,?_,fun b m h=>hs.fresh b m (hown _ _ h),hs.kept⟩,hx⟩
 ·intro b k hk;obtain⟨k0,h1,h2⟩:=hw b k hk;have h3:=hs.blk b k0 h1;rcases h2 with h2|h2|⟨cs,cs',h2,h4,h5⟩|⟨cs,cs',kk,N,l,h2,h4,h5⟩
  ·subst h2;trivial
  ·subst h2;exact j5.ext hx rfl (fun _ _=>rfl) h3
  ·subst h2 h4;obtain⟨m,c,T,e1,e2,e3⟩:=h3;exact⟨m,c,T,e1,e2,(h5 _ e3).ext hx⟩
  ·subst h2 h4;obtain⟨m,c,T,vs,e1,e2,e3,e4,e5⟩:=h3;exact⟨m,c,T,vs,e1,e2,(h5 _ e3).ext hx,e4,e5⟩
 ·intro b hb;have hlt:b<h'.length:=by have:=hs.hlen;omega
  exact⟨_,qM0 hlt,hc b hb _ (qM0 hlt)⟩
theorem Frozen.trans {X Y Z:Ctx}{h h':List Blk}(f:Frozen B X Y h)(g:Frozen B Y Z h'):Frozen B X Z h':=⟨g.h,g.w.trans f.w,g.σ.trans f.σ,g.hs,Move.trans f.ext g.ext⟩
theorem qk3{B:Base}:∀(l:List Nat) {X:Ctx} (_:HSim B X),∃X',Frozen B X X' (qaJ X.h l)
 | [],X,hs=>⟨X,rfl,rfl,rfl,hs,Ext.refl X⟩
 | b::l,X,hs=>by
  simp only[qaJ];split
  ·rename_i cs hb;obtain⟨d1,d2⟩:=q9J hs (h':=X.h.set b (.cells (AV.lendL X.h cs))) (by simp) (fun b' k' hk=>by
    by_cases hbb:b'=b
    ·subst hbb;rw[qM6 (qo hb)] at hk;exact⟨.cells cs,hb,.inr (.inr (.inl ⟨cs,_,rfl,(qMx hk).symm,fun vs hv=>qcM hs hv⟩))⟩
    ·rw[qLV (qMl hbb)] at hk;exact⟨k',hk,.inr (.inl rfl)⟩) (fun b' hb' k' hk=>by
    by_cases hbb:b'=b
    ·subst hbb;rw[qM6 (qo hb)] at hk;rw[<-qMx hk];rfl
    ·rw[qLV (qMl hbb)] at hk;obtain⟨cs',h1,h2⟩:=hs.impc b' hb';rw[h1] at hk;rw[<-qMx hk];exact h2)
   obtain⟨X2,f⟩:=qk3 l d1;have f0:Frozen B X { X with h:=X.h.set b (.cells (AV.lendL X.h cs)) } (X.h.set b (.cells (AV.lendL X.h cs))):=⟨rfl,rfl,rfl,d1,d2⟩;exact⟨X2,f0.trans f⟩
  ·exact qk3 l hs
theorem quL (args:List AV)(hs:HSim B X):∃X',Frozen B X X' (va X.h args):=by unfold va;obtain⟨X1,f1⟩:=q4d (args.flatMap zM) hs;simp only;rw[<-f1.h];obtain⟨X2,f2⟩:=q4d (q6R X1.h (AV.menL (AV.lendL X1.h args))) f1.hs;rw[<-f2.h];obtain⟨X3,f3⟩:=qk3 (AV.menL (AV.lendL X1.h args)) f2.hs;exact⟨X3,(f1.trans f2).trans f3⟩
mutual
theorem AV.ren_of_men(f:Nat->Option Nat):∀av:AV,av.men=[]->av.ren f=av
 | .undef,_|.skip,_|.yld,_|.blit _,_|.bool _,_|.ilit _ _,_|.int _ _,_|.str _,_|.nilp,_|.eptr _ _ _ _,_|.mptr _ _ _ _ _,_|.nils,_|.imm _ _,_|.full _ _,_|.nilf,_=>rfl
 | .ptr _ _,h=>by simp[AV.men] at h
 | .vptr _ _ _,h=>by simp[AV.men] at h
 | .vsub _ _,h=>by simp[AV.men] at h
 | .aptr _ _ _,h=>by simp[AV.men] at h
 | .asub _ _ _ _ _,h=>by simp[AV.men] at h
 | .bagg cs k n l,h=>by simp only[AV.men] at h;simp only[AV.ren,AV.renL_of_men f cs h]
 | .vec _,h=>by simp[AV.men] at h
 | .fn g a b,h=>by
  simp only[AV.men,List.append_eq_nil_iff] at h;simp only[AV.ren,AV.renL_of_men f a h.1,AV.renL_of_men f b h.2]
 | .agg cs,h=>by simp only[AV.men] at h;simp only[AV.ren,AV.renL_of_men f cs h]
 | .tuple cs,h=>by simp only[AV.men] at h;simp only[AV.ren,AV.renL_of_men f cs h]
theorem AV.renL_of_men(f:Nat->Option Nat):∀l:List AV,AV.menL l=[]->AV.renL f l=l
 | [],_=>rfl
 | a::l,h=>by
  simp only[AV.menL,List.append_eq_nil_iff] at h;simp only[AV.renL,AV.ren_of_men f a h.1,AV.renL_of_men f l h.2]
end
theorem RepL.noMen {X X':Ctx}{azz:List AV}{vs:List Value}(h:RepL X azz vs)(hm:AV.menL azz=[])(hM:∀n,X.M n->X'.M n)(hw:∀a:Addr,X.M a.block->X'.w.cell? a=X.w.cell? a)(hy:X'.y=X.y:=by rfl):RepL X' azz vs:=by
 have:=h.ren (X':=X') (f:=fun _=>none) ⟨hM,hw,(fun _ _ _ h=>by cases h),hy⟩
 rwa [AV.renL_of_men _ _ hm] at this
theorem Rep.noMen {X X':Ctx}{a:AV}{v:Value}(h:Rep X a v)(hm:a.men=[])(hM:∀n,X.M n->X'.M n)(hw:∀a:Addr,X.M a.block->X'.w.cell? a=X.w.cell? a)(hy:X'.y=X.y:=by rfl):Rep X' a v:=by
 have:=h.ren (X':=X') (f:=fun _=>none) ⟨hM,hw,(fun _ _ _ h=>by cases h),hy⟩
 rwa [AV.ren_of_men _ _ hm] at this
theorem qju:∀l:List Nat,(qkd l).Nodup
 | []=>List.nodup_nil
 | a::l=>by
  simp only[qkd];split
  ·exact qju l
  ·rename_i h;exact List.nodup_cons.2 ⟨by simpa using h,qju l⟩
theorem qBM {l:List Nat}{b k:Nat}(h:qF3 l b=some k):l[k]?=some b:=by
 simp only[qF3] at h;split at h
 ·rename_i hlt;cases h;rw[qM0 hlt];have:=List.findIdx_getElem (p:=(·==b)) (w:=hlt);simpa using this
 ·cases h
theorem qle:∀{fp:List Nat} {h:List Blk} {hin:List Blk},q5a h fp=some hin->hin.length=fp.length /\
  ∀(k:Nat) (b:Nat),fp[k]?=some b->∃cs,h[b]?=some cs/\hin[k]?=some cs/\cs.plain=true
 | [],h,hin,e=>by simp[q5a] at e;subst e;exact⟨rfl,fun k b hk=>by simp at hk⟩
 | b::l,h,hin,e=>by
  simp only[q5a] at e;split at e
  ·rename_i cs r h1 h2;split at e
   ·rename_i hm;cases e;obtain⟨g1,g2⟩:=qle h2;refine⟨by simp[g1],fun k b' hk=>?_⟩;cases k with
    | zero=>simp at hk;subst hk;exact⟨cs,h1,by simp,hm⟩
    | succ k=>
     obtain⟨cs',q1,q2,q3⟩:=g2 k b' (by simpa using hk);exact⟨cs',q1,by simpa using q2,q3⟩
   ·cases e
  ·cases e
theorem qnB:∀{fp:List Nat} {h hout h2:List Blk},q0B h fp hout=some h2->fp.Nodup->(∀b∈fp,b<h.length)->h2.length=h.length/\fp.length<=hout.length /\
  (∀b,b∉fp->h2[b]?=h[b]?)/\∀(k:Nat) (b:Nat),fp[k]?=some b->∃cs,hout[k]?=some cs/\h2[b]?=some cs/\cs.plain=true
 | [],h,hout,h2,e,_,_=>by
  simp[q0B] at e;subst e;exact⟨rfl,by simp,fun _ _=>rfl,fun k b hk=>by simp at hk⟩
 | b::l,h,hout,h2,e,hn,hl=>by
  cases hout with
  | nil=>simp[q0B] at e
  | cons cs r=>
    simp only[q0B] at e;by_cases hm:cs.plain=true
    ·rw[if_pos hm] at e;cases hp:q0B h l r with
     | none=>rw[hp] at e;cases e
     | some h'=>
      rw[hp] at e;simp only[qMt,qLS] at e;subst e;obtain⟨hn1,hn2⟩:=List.nodup_cons.1 hn;obtain⟨g1,g2,g3,g4⟩:=qnB hp hn2 (fun x hx=>hl x (qMh _ hx));have hb:=hl b qMf;refine⟨by simp[g1],by simp;omega,fun x hx=>?_,fun k b' hk=>?_⟩
      ·have:x≠b:=fun e=>hx (e▸qMf);rw[qLV (qMl this)];exact g3 x fun h=>hx (qMh _ h)
      ·cases k with
       | zero=>simp at hk;subst hk;exact⟨cs,by simp,by rw[qM6 (by omega)],hm⟩
       | succ k=>
        have hk':l[k]?=some b':=by simpa using hk
        obtain⟨cs',q1,q2,q3⟩:=g4 k b' hk';have:b'≠b:=fun e=>hn1 (e▸qMH hk');exact⟨cs',by simpa using q1,by rw[qLV (qMl this)];exact q2,q3⟩
    ·rw[if_neg hm] at e;cases e
theorem qCD {b:Nat}{k:Blk}(hp:k.plain=true)(h:j5 X b k):∃n,X.σ b=some n:=by
 cases k with
 | cells cs=>obtain⟨n,_,_,e,_⟩:=h;exact⟨n,e⟩
 | big cs k N l=>obtain⟨n,_,_,_,e,_⟩:=h;exact⟨n,e⟩
 | _=>cases hp
theorem qtC {X X':Ctx}{b b':Nat}{k:Blk}(hp:k.plain=true)(h:j5 X b k)(hσ:X'.σ b'=X.σ b)(hw:∀n,X.σ b=some n->X'.w.heap[n]?=X.w.heap[n]?)(hM:∀n,X.M n->X'.M n) (hc:∀a:Addr,X.M a.block->X'.w.cell? a=X.w.cell? a) (hy:X'.y=X.y):j5 X' b' k:=by
 cases k with
 | cells cs=>
  obtain⟨n,c,T,e1,e2,e3⟩:=h;exact⟨n,c,T,by rw[hσ];exact e1,by rw[hw n e1];exact e2,e3.noMen (by simpa[Blk.plain] using hp) hM hc hy⟩
 | big cs k N l=>
  obtain⟨n,c,T,vs,e1,e2,e3,e4,e5⟩:=h;exact⟨n,c,T,vs,by rw[hσ];exact e1,by rw[hw n e1];exact e2,e3.noMen (by simpa[Blk.plain] using hp) hM hc hy,e4,e5⟩
 | _=>cases hp
theorem qjU {k:Blk}(hp:k.plain=true):k.solid=true/\k.mut=true/\(∀e sh l,k≠.vec e sh l/\k≠.frz e sh l):=by cases k<;>first|(cases hp;done)|exact⟨rfl,rfl,fun _ _ _=>⟨(nomatch ·),(nomatch ·)⟩⟩
theorem q71 {E:Env}{P:Program}{f:FuncId}{G:z8}(hG:qW P E.glob f G){args:List AV}{st:St}{r:AV×St}{a:Act}{vargs:List Value}(hsim:Sim E B X st a) (hargs:RepL X args vargs) (h:(q0G G args st).run=some r) :Calls P f vargs.toArray X.w fun e w'=>∃v X',e=.returned v/\X'.w=w'/\Rep X' r.1 v/\Sim E B X' r.2 a:=by
 unfold q0G at h;obtain⟨X1,fz⟩:=quL args hsim.hs;rw[<-hsim.h] at h;rw[<-fz.h] at h;simp only at h;have hs1:=fz.hs;generalize hfp:qkd (AV.menL (AV.lendL X1.h args))=fp at h;have hnd:fp.Nodup:=hfp▸qju _;cases htk:q5a X1.h fp with
 | none=>rw[htk] at h;cases h
 | some hin=>
  rw[htk] at h;obtain⟨r0,h1,h2⟩:=bind_some h;cases hput:q0B X1.h fp r0.2 with
  | none=>rw[hput] at h2;cases h2
  | some hh2=>
   rw[hput] at h2;cases h2;obtain⟨k1,k2⟩:=qle htk;have hfpl:∀b∈fp,b<X1.h.length:=by intro b hb;obtain⟨k,hk⟩:=qO6 hb;obtain⟨cs,q1,_⟩:=k2 k b hk;exact qo q1
   obtain⟨p1,p2,p3,p4⟩:=qnB hput hnd hfpl;have hcell:∀(k b:Nat),fp[k]?=some b->∃cs n,X1.h[b]?=some cs/\hin[k]?=some cs/\cs.plain=true/\X1.σ b=some n/\X1.own b n:=by intro k b hk;obtain⟨cs,q1,q2,q3⟩:=k2 k b hk;obtain⟨n,e1⟩:=qCD q3 (hs1.blk b _ q1);exact⟨cs,n,q1,q2,q3,e1,e1,_,q1,(qjU q3).2.1⟩
   let X0:Ctx:={ σ:=fun k=>(fp[k]?).bind X1.σ,h:=hin,w:=X1.w,M:=X1.M,y:=X1.y }
   let B0:Base:={ w0:=X1.w,imps:=(List.range hin.length).map X0.σ,M0:=X1.M,fs:=[] }
   have hget0:∀(k:Nat) (blk:Blk),X0.h[k]?=some blk->∃(b:Nat) (cs:Blk) (n:Nat),fp[k]?=some b/\blk=cs/\X1.h[b]?=some cs/\cs.plain=true/\X1.σ b=some n/\X1.own b n:=by
    intro k blk hk;have hlt:k<fp.length:=by rw[<-k1];exact qo hk
    have hfk:fp[k]?=some fp[k]:=qM0 hlt;obtain⟨cs,n,q1,q2,q3,q4,q5⟩:=hcell k _ hfk;have:blk=cs:=by have hk':hin[k]?=some blk:=hk;rw[q2] at hk';exact(qMx hk').symm
    exact⟨fp[k],cs,n,hfk,this,q1,q3,q4,q5⟩
   have hσ0:∀(k b:Nat),fp[k]?=some b->X0.σ k=X1.σ b:=by intro k b hk;show (fp[k]?).bind X1.σ=_;rw[hk];rfl
   have hown0:∀(k n:Nat),X0.own k n->∃b:Nat,fp[k]?=some b/\X1.own b n:=by intro k n ⟨e1,blk,e2,e3⟩;obtain⟨b,cs,n',q1,q2,q3,q4,q5,q6⟩:=hget0 k blk e2;rw[hσ0 k b q1,q5] at e1;cases e1;exact⟨b,q1,q6⟩
   have hs0:HSim B0 X0:=by
    constructor
    ·intro k blk hk;obtain⟨b,cs,n,q1,q2,q3,q4,q5,q6⟩:=hget0 k blk hk;subst q2;exact qtC q4 (hs1.blk b _ q3) (hσ0 k b q1) (fun _ _=>rfl) (fun _ h=>h) (fun _ _=>rfl) rfl
    ·intro k k' n hk hk';obtain⟨b,q1,q2⟩:=hown0 k n hk;obtain⟨b',q3,q4⟩:=hown0 k' n hk';have:=hs1.inj b b' n q2 q4;subst this;have hlt:=qo q1;exact(List.getElem?_inj hlt hnd).1 (q1.trans q3.symm)
    ·intro k n hk;obtain⟨b,_,q2⟩:=hown0 k n hk;exact hs1.notM b n q2
    ·exact hs1.ltM
    ·exact fun n hn=>hn
    ·exact fun n hn=>.inl hn
    ·rfl
    ·rfl
    ·rfl
    ·exact qLU _
    ·intro _ _ _;rfl
    ·intro k hk;have hk':k<hin.length:=by simpa[B0] using hk
     simp[B0,hk']
    ·intro k hk;have hk':k<hin.length:=by simpa[B0] using hk
     obtain⟨b,cs,n,q1,q2,q3,q4,q5,q6⟩:=hget0 k _ (qM0 hk');exact⟨cs,by rw[<-q2];exact qM0 hk',(qjU q4).1⟩
    ·intro k n hk hk2;obtain⟨b,q1,_⟩:=hown0 k n hk;have:k<hin.length:=by rw[k1];exact qo q1
     simp[B0] at hk2;omega
    ·intro p hp;cases hp
   have hent:Entry B0 X0:=⟨rfl,rfl,fun _ h=>h⟩;have hgl:q4o E.glob X0:=by intro x hx;obtain⟨⟨sh,l,i,off,he⟩,hr⟩:=hsim.glob x hx;refine⟨⟨sh,l,i,off,he⟩,hr.move fz.ext.M fz.ext.w ?_⟩;have h3:=hr.1.ext fz.ext;rw[he] at h3 ⊢;exact h3.noMen rfl (fun _ h=>h) (fun _ _=>rfl)
   have hmove:Move0 X1 X0 (qF3 fp):=by
    refine⟨fun _ h=>h,fun _ _=>rfl,fun b k hb hk=>?_,rfl⟩;have hfk:=qBM hk;have hnv:∀sh m,¬X0.isVec k sh m:=by intro sh m ⟨e,l,q1,_⟩;rcases q1 with q1|q1<;>obtain⟨_,_,_,_,q2,_,q4,_⟩:=hget0 k _ q1<;>subst q2<;>cases q4
    exact⟨by show k<hin.length;rw[k1];exact qo hfk,hσ0 k b hfk,fun sh m hv=>absurd hv (hnv sh m),fun sh m hv=>absurd hv (hnv sh m)⟩
   have hrep0:RepL X0 (AV.renL (qF3 fp) (AV.lendL X1.h args)) vargs:=(qcM hs1 (hargs.ext fz.ext)).ren hmove;have hcalls:=hG.2 B0 X0 _ vargs r0 hs0 hent hgl hrep0 h1;have hw1:X0.w=X.w:=fz.w;rw[hw1] at hcalls;refine hcalls.mono fun e w' ⟨v,X0',e1,e2,e3,e4,e5,e6⟩=>?_;have hB0:B0.imps.length=fp.length:=by simp[B0,k1]
   have hσ0':∀(k b:Nat),fp[k]?=some b->X0'.σ k=X1.σ b:=by
    intro k b hk;have hlt:=qo hk;have:=e5.imps k (by rw[hB0];exact hlt);rw[this,<-hσ0 k b hk];have hk':k<hin.length:=by omega
    simp[B0,hk']
   let X':Ctx:={ σ:=fun b=>if b<X1.h.length then X1.σ b else X0'.σ (fp.length+(b-X1.h.length)),h:=hh2++(r0.2.drop fp.length).map (Blk.ren (qnH fp X1.h.length)),w:=X0'.w,M:=X0'.M,kept:=X1.kept,y:=X1.y }
   have hM01:∀n,X1.M n->X0'.M n:=fun n hn=>e5.M0 n hn;have himp:∀n,some n∈B0.imps->∃(k b:Nat),fp[k]?=some b/\X1.own b n:=by
    intro n hn;obtain⟨k,hk,hk2⟩:=qMJ.1 hn;have hk':k<fp.length:=by rw[<-k1];simpa using hk
    have hfk:fp[k]?=some fp[k]:=qM0 hk';obtain⟨cs,n',q1,q2,q3,q4,q5⟩:=hcell k _ hfk;rw[hσ0 k _ hfk,q4] at hk2;cases hk2;exact⟨k,_,hfk,q5⟩
   have hkeep:∀n,n<X1.w.heap.size->(∀(k b:Nat),fp[k]?=some b->¬X1.own b n)->X0'.w.heap[n]?=X1.w.heap[n]?:=by intro n hn hno;refine e5.frame n hn fun hm=>?_;obtain⟨k,b,q1,q2⟩:=himp n hm;exact hno k b q1 q2
   have hh2l:hh2.length=X1.h.length:=p1;have hget':∀(b:Nat) (blk:Blk),X'.h[b]?=some blk ->
     (b<X1.h.length/\b∉fp/\X1.h[b]?=some blk)\/(b<X1.h.length/\∃(k:Nat) (cs:Blk),fp[k]?=some b/\blk=cs/\X0'.h[k]?=some cs/\cs.plain=true) \/
     (X1.h.length<=b/\∃k0,X0'.h[fp.length+(b-X1.h.length)]?=some k0/\blk=k0.ren (qnH fp X1.h.length)):=by
    intro b blk hb;have hb':(hh2++(r0.2.drop fp.length).map (Blk.ren (qnH fp X1.h.length)))[b]?=some blk:=hb;rcases qM1 b X1.h.length with hlt|hge
    ·rw[qM5 (by omega)] at hb';by_cases hbf:b∈fp
     ·obtain⟨k,hk⟩:=qO6 hbf;obtain⟨cs,q1,q2,q3⟩:=p4 k b hk;rw[q2] at hb';cases hb';exact .inr (.inl ⟨hlt,k,blk,hk,rfl,by rw[e4];exact q1,q3⟩)
     ·rw[p3 b hbf] at hb';exact .inl ⟨hlt,hbf,hb'⟩
    ·rw[qMd (by omega),qM2,qMY] at hb';refine .inr (.inr ⟨hge,?_⟩);rw[hh2l] at hb';cases hq:r0.2[fp.length+(b-X1.h.length)]? with
     | none=>rw[hq] at hb';cases hb'
     | some k0=>
      rw[hq] at hb';simp only[qMt,qLS] at hb';exact⟨k0,by rw[e4];exact hq,hb'.symm⟩
   have hσlt:∀b,b<X1.h.length->X'.σ b=X1.σ b:=fun b hb=>by show (if b<X1.h.length then _ else _)=_;rw[if_pos hb]
   have hσge:∀b,X1.h.length<=b->X'.σ b=X0'.σ (fp.length+(b-X1.h.length)):=fun b hb=>by show (if b<X1.h.length then _ else _)=_;rw[if_neg (by omega)]
   have hnotin:∀b n,b∉fp->X1.own b n->∀(k b':Nat),fp[k]?=some b'->¬X1.own b' n:=by intro b n hb ho k b' hk ho';exact hb (hs1.inj b b' n ho ho'▸qMH hk)
   have hMnot:∀n,X1.M n->∀(k b':Nat),fp[k]?=some b'->¬X1.own b' n:=fun n hn k b' _ ho=>hs1.notM b' n ho hn;have hsz:=e5.size;have hback:Move0 X0' X' (qnH fp X1.h.length):=by
    refine⟨fun _ h=>h,fun _ _=>rfl,fun k b hk hf=>?_,e6.symm⟩;simp only[qnH] at hf;by_cases hlt:k<fp.length
    ·rw[if_pos hlt] at hf;have hbl:=hfpl b (qMH hf);have hnv:∀sh m,¬X'.isVec b sh m:=by
      intro sh m ⟨e,l,q1,_⟩;rcases q1 with q1|q1<;>rcases hget' b _ q1 with⟨_,h3,_⟩|⟨_,_,_,_,h3,_,h3p⟩|⟨h3,_⟩ <;>
       first|omega|exact absurd (qMH hf) h3|(subst h3;cases h3p)
     exact⟨by show b<List.length (_++_);simp;omega,by rw[hσlt b hbl,hσ0' k b hf],fun sh m hv=>absurd hv (hnv sh m),fun sh m hv=>absurd hv (hnv sh m)⟩
    ·rw[if_neg hlt] at hf;cases hf;have hk2:k<r0.2.length:=by rw[<-e4];exact hk
     have hidx:fp.length+(X1.h.length+(k-fp.length)-X1.h.length)=k:=by omega
     refine⟨?_,?_,fun sh m ⟨e,l,q1,q2⟩=>?_,fun sh m _ n hn c T fr hc=>⟨c,T,fr,hc,rfl⟩⟩
     ·show _<List.length (_++_);simp;omega
     ·rw[hσge _ (by omega),hidx]
     ·rcases q1 with q1|q1<;>rcases hget' _ _ q1 with⟨h3,_⟩|⟨h3,_⟩|⟨_,k0,h3,h4⟩<;>first|omega|skip
      ·rw[hidx] at h3;rcases qn1 (.inl h4) with rfl|rfl
       ·exact⟨e,l,.inl h3,q2⟩
       ·exact⟨e,l,.inr h3,q2⟩
      ·rw[hidx] at h3;rcases qn1 (.inr h4) with rfl|rfl
       ·exact⟨e,l,.inl h3,q2⟩
       ·exact⟨e,l,.inr h3,q2⟩
   have hext:Ext X1 X':=by
    refine Move.of hM01 (fun ad had=>qMW (hkeep _ (hs1.ltM _ had) (hMnot _ had))) (fun b b' hb hf=>?_);cases hf;have hvec:∀sh m,X'.isVec b sh m->b∉fp/\X1.isVec b sh m:=by
     intro sh m ⟨e,l,q1,q2⟩;rcases q1 with q1|q1<;>rcases hget' b _ q1 with⟨_,h3,h4⟩|⟨_,_,_,_,h3,_,h3p⟩|⟨h3,_⟩<;>first|omega|(subst h3;cases h3p;done)|skip
     ·exact⟨h3,e,l,.inl h4,q2⟩
     ·exact⟨h3,e,l,.inr h4,q2⟩
    refine⟨by show _<List.length (_++_);simp;omega,hσlt b hb,fun sh m hv=>(hvec sh m hv).2,fun sh m hv n hn c T fr hc=>⟨c,T,fr,?_,rfl⟩⟩;obtain⟨h3,e,l,h4,_⟩:=hvec sh m hv;refine(hkeep n (qLY.1 hc).1 ?_).trans hc;rcases h4 with h4|h4
    ·exact hnotin b n h3 ⟨hn,_,h4,rfl⟩
    ·rcases hs1.blk b _ h4 with⟨h5,_⟩|⟨n',c',h5,_,_,h6⟩
     ·rw[hn] at h5;cases h5
     ·rw[hn] at h5;cases h5;exact hMnot n h6
   have hown':∀(b n:Nat),X'.own b n->(b<X1.h.length/\X1.own b n)\/(X1.h.length<=b/\X0'.own (fp.length+(b-X1.h.length)) n):=by
    intro b n ⟨q1,blk,q2,q3⟩;rcases hget' b blk q2 with⟨h3,_,h4⟩|⟨h3,k,cs,h4,h5,_,_⟩|⟨h3,k0,h4,h5⟩
    ·exact .inl ⟨h3,by rw[<-hσlt b h3];exact q1,blk,h4,q3⟩
    ·obtain⟨cs',n',w1,_,_,w4,w5⟩:=hcell k b h4;rw[hσlt b h3,w4] at q1;cases q1;exact .inl ⟨h3,w5⟩
    ·subst h5;exact .inr ⟨h3,by rw[<-hσge b h3];exact q1,k0,h4,by rwa [Blk.mut_ren] at q3⟩
   have hnewge:∀k n,fp.length<=k->X0'.own k n->X1.w.heap.size<=n:=fun k n hk ho=>e5.fresh k n ho (by rw[hB0];exact hk);have hs':HSim B X':=by
    constructor
    ·intro b blk hb;rcases hget' b blk hb with⟨h3,h4,h5⟩|⟨h3,k,cs,h4,h5,h6,h7⟩|⟨h3,k0,h4,h5⟩
     ·by_cases hd:blk=.dead
      ·subst hd;trivial
      ·refine j5.ext hext (hσlt b h3) (fun n hn=>hkeep n (hs1.lt h5 hd hn) ?_) (hs1.blk b blk h5);by_cases hm1:blk.mut=true
       ·exact hnotin b n h4 ⟨hn,blk,h5,hm1⟩
       ·cases blk with
        | cells=>exact absurd rfl hm1
        | big=>exact absurd rfl hm1
        | vec=>exact absurd rfl hm1
        | dead=>exact absurd rfl hd
        | frz e sh l=>
         rcases hs1.blk b _ h5 with⟨h6,_⟩|⟨n',c',h6,_,_,h7⟩
         ·rw[hn] at h6;cases h6
         ·rw[hn] at h6;cases h6;exact hMnot n h7
     ·subst h5;exact qtC h7 (e5.blk k _ h6) (by rw[hσlt b h3,<-hσ0' k b h4]) (fun _ _=>rfl) (fun _ h=>h) (fun _ _=>rfl) e6.symm
     ·subst h5;exact j5.move hback (hσge b h3) (fun _ _=>rfl) (e5.blk _ k0 h4)
    ·intro b b' n h3 h4;rcases hown' b n h3 with⟨w1,w2⟩|⟨w1,w2⟩<;>rcases hown' b' n h4 with⟨w3,w4⟩|⟨w3,w4⟩
     ·exact hs1.inj b b' n w2 w4
     ·have:=hnewge _ n (by omega) w4;have:=Ctx.own.lt hs1 w2;omega
     ·have:=hnewge _ n (by omega) w2;have:=Ctx.own.lt hs1 w4;omega
     ·have:=e5.inj _ _ n w2 w4;omega
    ·intro b n h3 h4;rcases hown' b n h3 with⟨w1,w2⟩|⟨w1,w2⟩
     ·rcases e5.newM n h4 with h5|h5
      ·exact hs1.notM b n w2 h5
      ·have h6:X1.w.heap.size<=n:=h5;have:=Ctx.own.lt hs1 w2;omega
     ·exact e5.notM _ n w2 h4
    ·exact e5.ltM
    ·exact fun n hn=>hM01 n (hs1.M0 n hn)
    ·intro n hn;rcases e5.newM n hn with h5|h5
     ·exact hs1.newM n h5
     ·have h6:X1.w.heap.size<=n:=h5;have:=hs1.size;exact .inr (by omega)
    ·exact e5.os.trans hs1.os
    ·exact e5.tape.trans hs1.tape
    ·exact e5.output.trans hs1.output
    ·have h6:X1.w.heap.size<=X0'.w.heap.size:=hsz;have:=hs1.size;show B.w0.heap.size<=X0'.w.heap.size;omega
    ·intro n hn hni;have h6:=hs1.size;have:X0'.w.heap[n]?=X1.w.heap[n]?:=by
      refine hkeep n (by omega) fun k b hk ho=>?_;rcases qM1 b B.imps.length with hlt|hge
      ·have h7:=hs1.imps b hlt;rw[ho.1,qM0 hlt] at h7;simp at h7;exact hni (h7▸qMy hlt)
      ·have:=hs1.fresh b n ho hge;omega
     exact this.trans (hs1.frame n hn hni)
    ·intro b hb;have:=hs1.hlen;rw[hσlt b (by omega)];exact hs1.imps b hb
    ·intro b hb;have:=hs1.hlen;obtain⟨cs,h3,h3s⟩:=hs1.impc b hb;by_cases hbf:b∈fp
     ·obtain⟨k,hk⟩:=qO6 hbf;obtain⟨cs',q1,q2,q3⟩:=p4 k b hk;exact⟨cs',by show (_++_)[b]?=_;rw[qM5 (by omega)];exact q2,(qjU q3).1⟩
     ·exact⟨cs,by show (_++_)[b]?=_;rw[qM5 (by omega),p3 b hbf];exact h3,h3s⟩
    ·intro b n h3 h4;rcases hown' b n h3 with⟨w1,w2⟩|⟨w1,w2⟩
     ·exact hs1.fresh b n w2 h4
     ·have:=hnewge _ n (by omega) w2;have:=hs1.size;omega
    ·intro p hp;obtain⟨q1,q2,q3⟩:=hs1.kept p hp;refine⟨(hkeep p.1 (qLY.1 q1).1 fun k b _ ho=>?_).trans q1,q2,q3⟩;obtain⟨c,T,fr,hc⟩:=ho.cells hs1;rw[hc] at q1;exact q2 _ _ _ (qMx q1).symm
   exact⟨v,X',e1,e2,e3.ren hback,(hsim.ext fz.ext hs1).ext hext hs'⟩
end Go.Eng

namespace Go.Eng
variable {E:Env}{t:TypeId}
def yM(h:List Blk):Tree Res->Prop
 | .leaf r=>r.2=(h,none)
 | .br _ t e=>yM h t/\yM h e
 | .fail=>True
theorem yM.run {h:List Blk}{t:Tree Res}{r:Res}(ht:yM h t)(hr:t.run=some r):r.2=(h,none):=by
 induction t with
 | leaf x=>cases hr;exact ht
 | br b t e iht ihe=>cases b<;>simp only[Tree.run] at hr<;>first|exact iht ht.1 hr|exact ihe ht.2 hr
 | fail=>cases hr
theorem qlI (h:List Blk)(k:IntKind)(f:Int->Int->Int)(l:Bool)(x y:Int):yM h (q5W h k f l x y):=by unfold q5W;split<;>rfl
theorem qyN (h:List Blk)(f:Int->Int->Bool)(l:Bool)(x y:Int):yM h (qCE h f l x y):=by unfold qCE;split<;>rfl
theorem qBu (E:Env)(h:List Blk)(t:TypeId)(p:AV):yM h (qeQ E h t p):=by
 unfold qeQ;dsimp only
 repeat' (first|exact rfl|exact trivial|split)
theorem qz1 (E:Env)(h:List Blk)(t:TypeId)(ps:List (Nat×AV)):yM h (qgL E h t ps):=by
 unfold qgL
 repeat' (first|exact rfl|exact trivial|split)
theorem qA0 (E:Env)(h:List Blk)(t:TypeId)(p:AV):yM h (qce E h t p):=by
 unfold qce qDp
 repeat' (first|exact qBu _ _ _ _|exact rfl|exact trivial|exact⟨rfl,trivial⟩|split)
theorem qx7 (E:Env)(h:List Blk)(t:TypeId)(ps:List (Nat×AV)):yM h (qaR E h t ps):=by
 unfold qaR
 repeat' (first|exact qz1 _ _ _ _|exact rfl|exact trivial|split)
theorem qqA (E:Env)(h:List Blk)(s:TypeId)(x:AV)(f:Nat):yM h (q1K E h s x f):=by
 unfold q1K
 repeat' (first|exact rfl|exact trivial|split)
theorem qn8 (E:Env)(h:List Blk)(t:TypeId)(cs:List AV)(o:Nat):yM h (qgg E h t cs o):=by
 unfold qgg
 repeat' (first|exact rfl|exact trivial|split)
theorem qzb (E:Env)(h:List Blk)(s:TypeId)(x:AV)(f:Nat):yM h (qhs E h s x f):=by
 unfold qhs
 repeat' (first|exact rfl|exact trivial|exact qn8 _ _ _ _ _|split)
theorem qlh(h:List Blk)(i:Int)(f:Nat->AV):∀n,yM h (qgp h i f n)
 | 0=>trivial
 | n+1=>⟨rfl,qlh h i f n⟩
theorem qqT (E:Env)(h:List Blk)(t:TypeId)(x i:AV):yM h (yx E h t x i):=by
 unfold yx
 repeat' (first|exact qlh _ _ _ _|exact rfl|exact trivial|exact⟨rfl,trivial⟩|split)
theorem qok (E:Env)(h:List Blk)(t:TypeId)(x i:AV):yM h (q0a E h t x i):=by
 unfold q0a
 repeat' (first|exact qqT _ _ _ _ _|exact rfl|exact trivial|exact⟨rfl,trivial⟩|split)
theorem qtB(E:Env)(h:List Blk)(e:TypeId)(cs:List AV)(es:Nat)(i:Int):∀m j,yM h (qnW E h e cs es i j m)
 | 0,_=>trivial
 | m+1,j=>⟨qn8 _ _ _ _ _,qtB E h e cs es i m (j+1)⟩
theorem qzd (E:Env)(h:List Blk)(t:TypeId)(x i:AV):yM h (qfV E h t x i):=by
 unfold qfV
 repeat' (first|exact rfl|exact trivial|exact⟨rfl,trivial⟩|exact qn8 _ _ _ _ _|exact qtB _ _ _ _ _ _ _ _|split)
theorem qE0 (d:TD)(h:List Blk)(op:BinOp)(x y:AV):yM h (qyb d h op x y):=by
 unfold qyb
 repeat' (first|exact rfl|exact trivial|exact qlI _ _ _ _ _ _|exact qyN _ _ _ _ _|exact⟨rfl,trivial⟩|exact⟨qlI _ _ _ _ _ _,trivial⟩|split)
theorem qyr (E:Env)(h:List Blk)(op:BinOp)(t:TypeId)(x y:AV):yM h (qjv E h op t x y):=by
 unfold qjv;split
 ·unfold qpv
  repeat' (first|exact rfl|exact trivial|split)
 ·exact qE0 _ _ _ _ _
theorem qGm (h:List Blk)(op:UnOp)(x:AV):yM h (qIp h op x):=by
 unfold qIp
 repeat' (first|exact rfl|exact trivial|split)
theorem qC0 (E:Env)(h:List Blk)(s d:TypeId)(x:AV):yM h (qnV E h s d x):=by
 unfold qnV
 repeat' (first|exact rfl|exact trivial|split)
theorem qzC (E:Env)(h:List Blk)(s d:TypeId)(x:AV):yM h (qgu E h s d x):=by
 unfold qgu;split
 ·split
  ·unfold qql
   repeat' (first|exact rfl|exact trivial|split)
  ·trivial
 ·exact qC0 _ _ _ _ _
theorem qFb (E:Env)(h:List Blk)(ts:List TypeId)(azz:List AV):yM h (qqo E h ts azz):=by
 unfold qqo;split
 ·unfold qEO
  repeat' (first|exact rfl|exact trivial|split)
 ·trivial
theorem qAE (f:Int->Int->Int)(h:List Blk)(azz:List AV):yM h (quw f h azz):=by
 unfold quw
 repeat' (first|exact rfl|exact trivial|split)
theorem qyS (ht:(E.ty t).d=.str)(h:List Blk)(x:AV)(lo hi mx:Option AV):yM h (qbL E h t x lo hi mx):=by
 unfold qbL;rw[ht];cases mx with
 | some _=>trivial
 | none=>
  cases x<;>first|trivial|skip
  simp only;split
  ·exact⟨⟨rfl,trivial⟩,trivial⟩
  ·trivial
theorem qxl (ht:(E.ty t).d=.str)(h:List Blk)(x:AV)(lo hi mx:Option AV):yM h (yJ E h t x lo hi mx):=by unfold yJ;rw[ht];exact qyS ht _ _ _ _ _
theorem qwS {n:Nat}{e:TypeId}{es:Nat}(ht:(E.ty t).d=.array n e es)(h:List Blk)(x:AV)(lo hi mx:Option AV):yM h (yJ E h t x lo hi mx):=by
 unfold yJ;rw[ht];simp only;unfold qGF qxL
 repeat' (first|exact rfl|exact trivial|exact⟨⟨rfl,trivial⟩,trivial⟩|exact⟨⟨⟨rfl,trivial⟩,trivial⟩,trivial⟩|split)
theorem qxw {e:TypeId}{es:Nat}(ht:(E.ty t).d=.slice e es)(h:List Blk)(x:AV)(lo hi:Option AV){mx:Option AV}(hm:mx.isSome=true):yM h (yJ E h t x lo hi mx):=by
 unfold yJ;rw[ht];simp only;unfold qbL;cases mx with
 | none=>cases hm
 | some m=>
  simp only;rw[ht]
  repeat' (first|exact rfl|exact trivial|exact⟨⟨⟨rfl,trivial⟩,trivial⟩,trivial⟩|split)
theorem qtu {h:List Blk}{ev:Operand->AV}{op:Op}(hs:qcf E op=true){r:Res}(hr:(qpc E h ev op).run=some r):r.2=(h,none):=by
 have key:yM h (qpc E h ev op):=by
  unfold qpc;cases op<;>simp only[qcf] at hs<;>try (cases hs)
  case move=>rfl
  case assign=>rfl
  case pick=>simp only;split<;>first|rfl|exact⟨rfl,rfl⟩|trivial
  case build=>exact qx7 _ _ _ _
  case load=>exact qA0 _ _ _ _
  case nilCheck=>simp only;repeat' (first|exact rfl|exact⟨rfl,trivial⟩|exact trivial|split)
  case binOp=>exact qyr _ _ _ _ _ _
  case unOp=>exact qGm _ _ _
  case convert=>exact qzC _ _ _ _ _
  case makeFunc fn _ _=>cases fn<;>first|rfl|trivial
  case slice t x lo hi mx=>
   split at hs
   ·rename_i ht;exact qxl ht _ _ _ _ _
   ·rename_i ht;exact qwS ht _ _ _ _ _
   ·rename_i ht;exact qxw ht _ _ _ _ (by simpa using hs)
   ·cases hs
  case fieldAddr=>exact qqA _ _ _ _ _
  case field=>exact qzb _ _ _ _ _
  case indexAddr=>exact qok _ _ _ _ _
  case index=>exact qzd _ _ _ _ _
  case extract=>simp only;repeat' (first|exact rfl|exact trivial|split)
  case call c=>
   obtain⟨callee,args,tys⟩:=c;cases callee with
   | builtin b=>
    cases b<;>simp only at hs<;>try (cases hs)
    ·exact qFb _ _ _ _
    ·exact qAE _ _ _
    ·exact qAE _ _ _
   | value x=>simp only at hs;cases hs
   | invoke x n=>simp only at hs;cases hs
 exact key.run hr
end Go.Eng

namespace Go.Eng
variable {E:Env}
theorem qw9 {callS:q6h}{h:List Blk}{f g:Operand->AV}{op:Op}(hfg:∀x∈op.operands.toList,f x=g x):qc6 E callS h f op=qc6 E callS h g op:=by
 have hmap:∀(l:List Operand),(∀x∈l,x∈op.operands.toList)->l.map f=l.map g:=fun l hl=>qN4 fun x hx=>hfg x (hl x hx);have hop:qcf E op=true->qpc E h f op=qpc E h g op:=by
  intro hst;unfold qpc;cases op<;>simp only[qcf] at hst<;>try (cases hst)
  case move x=>simp only;rw[hfg x (by simp[Op.operands])]
  case assign x=>simp only;rw[hfg x (by simp[Op.operands])]
  case pick c a b=>simp only;rw[hfg c (by simp[Op.operands]),hfg a (by simp[Op.operands]),hfg b (by simp[Op.operands])]
  case build t ps=>
   simp only;have:(ps.toList.map fun p=>(p.1,f p.2))=ps.toList.map fun p=>(p.1,g p.2):=qN4 fun p hp=>by rw[hfg p.2 (by simp only[Op.operands];exact List.mem_map_of_mem hp)]
   rw[this]
  case load t a=>simp only;rw[hfg a (by simp[Op.operands])]
  case nilCheck a=>simp only;rw[hfg a (by simp[Op.operands])]
  case binOp o t x y ty=>simp only;rw[hfg x (by simp[Op.operands]),hfg y (by simp[Op.operands])]
  case unOp o t x=>simp only;rw[hfg x (by simp[Op.operands])]
  case convert s d x=>simp only;rw[hfg x (by simp[Op.operands])]
  case makeFunc fn a b=>cases fn<;>simp only;rw[hmap a.toList (fun x hx=>by simp only[Op.operands,qNU];exact qMN _ hx),hmap b.toList (fun x hx=>by simp only[Op.operands,qNU];exact qMC _ hx)]
  case slice t x lo hi mx=>
   simp only;have hlo:∀y,lo=some y->f y=g y:=fun y hy=>hfg y (by subst hy;simp[Op.operands]);have hhi:∀y,hi=some y->f y=g y:=fun y hy=>hfg y (by subst hy;simp[Op.operands]);have hmx:∀y,mx=some y->f y=g y:=fun y hy=>hfg y (by subst hy;simp[Op.operands]);have e1:lo.map f=lo.map g:=by
    cases lo with
    | none=>rfl
    | some y=>exact congrArg some (hlo y rfl)
   have e2:hi.map f=hi.map g:=by
    cases hi with
    | none=>rfl
    | some y=>exact congrArg some (hhi y rfl)
   have e3:mx.map f=mx.map g:=by
    cases mx with
    | none=>rfl
    | some y=>exact congrArg some (hmx y rfl)
   rw[e1,e2,e3,hfg x (by simp[Op.operands])]
  case fieldAddr s x i=>simp only;rw[hfg x (by simp[Op.operands])]
  case field s x i=>simp only;rw[hfg x (by simp[Op.operands])]
  case indexAddr t x i=>simp only;rw[hfg x (by simp[Op.operands]),hfg i (by simp[Op.operands])]
  case index t x i=>simp only;rw[hfg x (by simp[Op.operands]),hfg i (by simp[Op.operands])]
  case extract x i=>simp only;rw[hfg x (by simp[Op.operands])]
  case call c=>
   obtain⟨callee,args,tys⟩:=c;cases callee with
   | builtin b=>
    simp only;rw[hmap args.toList (fun x hx=>by simpa[Op.operands,Call.operands] using hx)]
   | value x=>simp only at hst;cases hst
   | invoke x n=>simp only at hst;cases hst
 unfold qc6;split
 ·rename_i x args tys;rw[hfg x (by simp[Op.operands,Call.operands]),hmap args.toList (fun y hy=>by simp only[Op.operands,Call.operands,qNU];exact qMC _ hy)]
 ·split
  ·rename_i hst;rw[hop hst]
  ·rfl
def qjV(E:Env)(P:Program)(callS:List Blk->q6h):Prop:=
 ∀(f:FuncId) (args:List AV) (st:St) (v:AV) (B:Base) (X:Ctx) (a:Act) (vargs:List Value),Sim E B X st a->RepL X args vargs->(callS st.h f args).run=some v ->
  (∀w,(callFunc f vargs.toArray).run P w=.ok (.enter f vargs.toArray) w) /\
  Calls P f vargs.toArray X.w fun e w'=>∃u X',e=.returned u/\X'.w=w'/\Rep X' v u/\Sim E B X' st a
def q4T(E:Env)(callS:List Blk->q6h):Prop:=∀(h h':List Blk) (f:FuncId) (args:List AV),(qfY E f).isSome=true->(∀b,b∈AV.menL args->h'[b]?=h[b]?)->callS h' f args=callS h f args
def qmF(P:Program)(f:FuncId)(e:TypeId):Prop:=(∀args w,(callFunc f args).run P w=.ok (.enter f args) w) /\
 ∀(w:World) (n len cap i j:Nat) (c:Array Value) (T:TypeId),w.heap[n]?=some (.cells c T (0,0))->c.size=cap*P.cellsOf e->(∀k v,k<len*P.cellsOf e->c[k]?=some v->v.oneCell'=true)->0<P.cellsOf e ->
  len<=cap->cap<=9223372036854775807->i<=j->j<=len ->
  Calls P f #[.slice (some ⟨n,0,none⟩) len cap,.int .i64 i,.int .i64 j] w fun x w'=>x=.returned (.slice (some ⟨n,0,none⟩) (len-(j-i)) cap) /\
   ∃c',w'.heap[n]?=some (.cells c' T (0,0))/\c'.size=c.size/\(∀k,k<(len-(j-i))*P.cellsOf e->c'[k]?=if k<i*P.cellsOf e then c[k]? else c[k+(j-i)*P.cellsOf e]?) /\
    (∀m,m≠n->w'.heap[m]?=w.heap[m]?)/\w'.heap.size=w.heap.size/\w'.os=w.os/\w'.tape=w.tape/\w'.output=w.output
structure Env.specs (E:Env) (P:Program):Prop where
 sp:∀x,x∈E.spec->qW P E.glob x.1 x.2
 dl:∀x,x∈E.dels->qmF P x.1 x.2
theorem qiC:∀(l:List Nat) (h:List Blk),l.all (qk5 h)=true->qF h l=h
 | [],_,_=>rfl
 | b::l,h,hl=>by
  simp only[qNS,qM7] at hl;have:zC h b=h:=by
   unfold zC;have:=hl.1;unfold qk5 at this;split at this
   ·rename_i hb;rw[hb]
   ·cases this
  simp only[qF,this];exact qiC l h hl.2
theorem qvI {P:Program}(hS:E.specs P):qjV E P (q8W E):=by
 intro f args st v B X a vargs hsim hargs h;unfold q8W at h;cases hf:E.spec.find? fun x=>x.1==f with
 | none=>rw[hf] at h;cases h
 | some G=>
  rw[hf] at h;have hG:=hS.sp G (qMO hf);have hfe:G.1=f:=by simpa using qN7 hf
  simp only at h;split at h
  ·rename_i hc;obtain⟨r,h1,h2⟩:=bind_some h;have hr2:r.2=[]/\(r.1.men)=[]/\v=r.1:=by
    split at h2
    ·rename_i he;split at h2
     ·rename_i hm;cases h2;exact⟨he,by simpa using hm,rfl⟩
     ·cases h2
    ·cases h2
   obtain⟨q1,q2,rfl⟩:=hr2;have hfz:qF st.h (args.flatMap zM)=st.h:=qiC _ _ hc.1;have hmen:AV.menL (AV.lendL st.h args)=[]:=by simpa using hc.2
   have hcs:(q0G G.2 args st).run=some (r.1,st):=by
    unfold q0G;have hpr:va st.h args=st.h:=by unfold va;simp only[hfz,hmen,q6R,qF,qaJ]
    simp only[hpr,hmen,qkd,q5a];rw[AV.renL_of_men _ _ hmen,Tree.run_bind,h1];simp only[qMk,q0B,q1,qMD,List.drop_nil,List.map_nil,qMT];rw[AV.ren_of_men _ _ q2];rfl
   rw[hfe] at hG;refine⟨hG.1 _,?_⟩;exact q71 hG hsim hargs hcs
  ·cases h
theorem qvT {P:Program}(hE:E.tok P){callS:List Blk->q6h}(hc:qjV E P callS){B:Base}{X:Ctx}{st:St}{a:Act}(hs:Sim E B X st a){o:Oper}{av:AV}(h:(qc6 E (callS st.h) st.h (E.opd st.t) o.op).run=some av) {next:Act->World->Prop} {Q:Exit->Act->World->Prop}(hq:∀X' v,Sim E B X' st a->Rep X' av v->next (a.put o.dst v) X'.w):o.wp P a X.w next Q:=by
 unfold qc6 at h;split at h
 ·rename_i x args tys hop;cases hx:E.opd st.t x with
  | fn f first caps=>
   rw[hx] at h;have hv:=q7E hs x;rw[hx] at hv;generalize hev:a.eval x=vx at hv;cases hv with
   | fn _ _ _ vf vc q1 q2=>
    have hargs:=q3p hs args.toList;have hall:RepL X (first++args.toList.map (E.opd st.t)++caps) (vf++args.toList.map a.eval++vc):=(q1.append hargs).append q2;obtain⟨g1,g2⟩:=hc f _ st av B X a _ hs hall h;unfold Oper.wp;have hrun:(execOp a.eval o).run P X.w=.ok (.enter f (vf++args.toList.map a.eval++vc).toArray) X.w:=by
     simp only[execOp,hop,resolve,hev,Deferred.ofValue,qLX,qMp,qM4,invoke];have:vf.toArray++args.map a.eval++vc.toArray=(vf++args.toList.map a.eval++vc).toArray:=by apply qN8;simp
     rw[this];exact g1 X.w
    rw[hrun];refine g2.mono fun e w' ⟨v,X',e1,e2,e3,e4⟩=>?_;subst e1 e2;exact hq X' _ e4 e3
  | _=>rw[hx] at h;cases h
 ·split at h
  ·rename_i hst;obtain⟨r,h1,h2⟩:=bind_some h;cases h2;have hr2:=qtu hst h1;obtain⟨nx,v,X',g1,g2,g3,g4,g5⟩:=qlD hE hs h1;have hrn:r.2.2=none:=by rw[hr2]
   rw[hrn] at g5;have hXh:X'.h=st.h:=by rw[g5.1,hr2]
   have hs':Sim E B X' st a:=by have:=hs.ext g5.2 g4;rw[hXh] at this;exact this
   unfold Oper.wp;rw[g1];rcases g2 with rfl|⟨rfl,rfl⟩
   ·exact hq X' _ hs' g3
   ·exact hq X' _ hs' g3
  ·cases h
theorem Sim.drawn {B:Base}{X:Ctx}{st:St}{a:Act}(hs:Sim E B X st a)(n:Nat):Sim E B { X with w:={ X.w with drawn:=n } } st a:=by
 have hx:Ext X { X with w:={ X.w with drawn:=n } }:=
  Move.of (fun _ h=>h) (fun _ _=>rfl) (fun b b' hb h=>by cases h;exact⟨hb,rfl,fun _ _ h=>h,fun _ _ _ _ _ c T fr h=>⟨c,T,fr,h,rfl⟩⟩)
 have h0:=hs.hs;have hs':HSim B { X with w:={ X.w with drawn:=n } }:=
  ⟨fun b k hk=>j5.ext hx rfl (fun _ _=>rfl) (h0.blk b k hk),h0.inj,h0.notM,h0.ltM,h0.M0,h0.newM,h0.os,h0.tape,h0.output,h0.size,h0.frame,h0.imps,h0.impc,h0.fresh,h0.kept⟩
 have:=hs.ext hx hs';have e:({ st with h:=X.h }:St)=st:=by rw[hs.h]
 exact e▸this
end Go.Eng

namespace Go.Eng
def qz3(all:Array Oper)(k:Nat)(v:AV):AV:=if qA3 all k then (match v with|.bool b=>.blit b|v=>v) else v
theorem qrH{X:Ctx}{all:Array Oper}{k:Nat}{v:AV}{u:Value}(h:Rep X v u):Rep X (qz3 all k v) u:=by
 unfold qz3;split
 ·cases h with
  | bool b=>exact .blit b
  | undef=>exact .undef _
  | skip=>exact .skip
  | yld=>exact .yld
  | blit b=>exact .blit b
  | ilit k n=>exact .ilit k n
  | int k n=>exact .int k n
  | str s=>exact .str s
  | nilp=>exact .nilp
  | ptr b off n h1 h2=>exact .ptr b off n h1 h2
  | eptr sh l i off a h1 h2 h3 h4=>exact .eptr sh l i off a h1 h2 h3 h4
  | mnil sh l i off=>exact .mnil sh l i off
  | mptr sh l i off a h1 h2 h3 h4=>exact .mptr sh l i off a h1 h2 h3 h4
  | vptr b i off n k h1 h2 h3=>exact .vptr b i off n k h1 h2 h3
  | vsub b i n k m c h1 h2 h3=>exact .vsub b i n k m c h1 h2 h3
  | aptr b o i n h1 h2 h3=>exact .aptr b o i n h1 h2 h3
  | asub b o N i m n k c h1 h2 h3 h4 h5 h6=>exact .asub b o N i m n k c h1 h2 h3 h4 h5 h6
  | nils=>exact .nils
  | imm sh l _ h=>exact .imm sh l _ h
  | full sh l p n h=>exact .full sh l p n h
  | vec b p n c h1 h2=>exact .vec b p n c h1 h2
  | nilf=>exact .nilf
  | fn f a b c d h1 h2=>exact .fn f a b c d h1 h2
  | agg cs vs h=>exact .agg cs vs h
  | tuple cs vs h=>exact .tuple cs vs h
  | bagg cs k n l vs h hl=>exact .bagg cs k n l vs h hl
 ·exact h
theorem qF9{all:Array Oper}{k:Nat}{o:Oper}{st st':St}{v:AV}(h:(qrT all k o { st with t:=qiv st.t o.dst v }).run=some st') :st'={ st with t:=qiv st.t o.dst (qz3 all k v) }:=by
 unfold qrT at h;unfold qz3;by_cases hg:qA3 all k=true
 ·rw[if_pos hg] at h ⊢;cases hd:o.dst with
  | none=>rw[hd] at h;cases h;rfl
  | some d=>
   rw[hd] at h;simp only[qiv] at h ⊢;rcases qM1 d st.t.length with hlt|hge
   ·rw[qM6 hlt] at h;cases v<;>simp only at h<;>try (cases h;rfl)
    rename_i b;cases b<;>(cases h;simp[List.set_set])
   ·rw[List.set_eq_of_length_le hge] at h;rw[qMg hge] at h;cases h;rw[List.set_eq_of_length_le hge]
 ·rw[if_neg hg] at h ⊢;cases h;rfl
def qd2(V:Nat->AV):Nat->List Oper->List AV->List AV
 | _,[],t=>t
 | k,o::rest,t=>qd2 V (k+1) rest (qiv t o.dst (V k))
theorem qpP{V W:Nat->AV}:∀(l:List Oper) (k:Nat) (t:List AV),(∀j,k<=j->V j=W j)->qd2 V k l t=qd2 W k l t
 | [],_,_,_=>rfl
 | o::l,k,t,h=>by
  simp only[qd2];rw[h k (qLU _)];exact qpP l (k+1) _ fun j hj=>h j (by omega)
section
variable (dst:Nat->Option Tmp) (V:Nat->AV) (T0:List AV)
def TLp(L:Nat->Bool):Nat->List AV
 | 0=>T0
 | m+1=>if L m then qiv (TLp L m) (dst m) (V m) else TLp L m
variable {dst V T0}
theorem qzM(t:List AV)(d:Option Tmp)(v:AV):(qiv t d v).length=t.length:=by cases d<;>simp[qiv]
theorem qcI(L:Nat->Bool):∀m,(TLp dst V T0 L m).length=T0.length
 | 0=>rfl
 | m+1=>by simp only[TLp];split<;>simp[qzM,qcI L m]
theorem q8d{L:Nat->Bool}{t:Tmp}:∀m,(∀j,j<m->L j=true->dst j≠some t)->(TLp dst V T0 L m)[t]?=T0[t]?
 | 0,_=>rfl
 | m+1,h=>by
  simp only[TLp];split
  ·rename_i hl;have:=h m (qNI m) hl;cases hd:dst m with
   | none=>exact q8d m fun j hj=>h j (by omega)
   | some d=>
    rw[hd] at this;simp only[qiv];rw[qLV (fun e=>this (by rw[e]))];exact q8d m fun j hj=>h j (by omega)
  ·exact q8d m fun j hj=>h j (by omega)
theorem qhY{L:Nat->Bool}{t:Tmp}{j:Nat}(hj:L j=true)(hd:dst j=some t):∀m,j<m->(∀k,k<m->k≠j->dst k≠some t) ->
  (TLp dst V T0 L m)[t]?=if t<T0.length then some (V j) else none
 | 0,h,_=>by omega
 | m+1,h,hu=>by
  by_cases hm:j=m
  ·subst hm;simp only[TLp,hj,if_true,hd,qiv];rw[List.getElem?_set];simp[qcI]
  ·simp only[TLp];split
   ·have:=hu m (qNI m) (fun e=>hm e.symm);cases hdm:dst m with
    | none=>exact qhY hj hd m (by omega) fun k hk=>hu k (by omega)
    | some d=>
     rw[hdm] at this;simp only[qiv];rw[qLV (fun e=>this (by rw[e]))];exact qhY hj hd m (by omega) fun k hk=>hu k (by omega)
   ·exact qhY hj hd m (by omega) fun k hk=>hu k (by omega)
theorem qIl{L:Nat->Bool}{i n:Nat}(hi:i<n)(hL:L i=false)(hu:∀k,k<n->k≠i->∀t,dst i=some t->dst k≠some t) :TLp dst V T0 (fun j=>if j=i then true else L j) n=qiv (TLp dst V T0 L n) (dst i) (V i):=by
 apply qML;intro t;cases hd:dst i with
 | none=>
  simp only[qiv];by_cases hex:∃j,j<n/\L j=true/\dst j=some t
  ·
   clear hex;have:∀m,m<=n->TLp dst V T0 (fun j=>if j=i then true else L j) m=TLp dst V T0 L m:=by
    intro m;induction m with
    | zero=>intro _;rfl
    | succ m ih=>
     intro hm;simp only[TLp];by_cases hmi:m=i
     ·subst hmi;rw[ih (by omega)];simp[hL,hd,qiv]
     ·rw[ih (by omega)];simp[hmi]
   rw[this n (qLU _)]
  ·have h1:∀j,j<n->L j=true->dst j≠some t:=fun j hj hl he=>hex ⟨j,hj,hl,he⟩;rw[q8d n h1];refine q8d n fun j hj hl he=>?_;by_cases hji:j=i
   ·subst hji;rw[hd] at he;cases he
   ·simp[hji] at hl;exact h1 j hj hl he
 | some d=>
  simp only[qiv];by_cases htd:t=d
  ·subst htd;rw[qhY (j:=i) (by simp) hd n hi (fun k hk hki=>hu k hk hki t hd),List.getElem?_set];simp[qcI]
  ·rw[qLV (fun e=>htd e.symm)];have:∀m,m<=n->(TLp dst V T0 (fun j=>if j=i then true else L j) m)[t]?=(TLp dst V T0 L m)[t]?:=by
    intro m;induction m with
    | zero=>intro _;rfl
    | succ m ih=>
     intro hm;simp only[TLp];by_cases hmi:m=i
     ·subst hmi;simp only[if_true,hL,qMv,if_false,hd,qiv];rw[qLV (fun e=>htd e.symm)];exact ih (by omega)
     ·simp only[hmi,if_false];split
      ·cases hdm:dst m with
       | none=>exact ih (by omega)
       | some d'=>
        simp only[qiv,List.getElem?_set];rw[qcI,qcI,ih (by omega)]
      ·exact ih (by omega)
   exact this n (qLU _)
end
theorem qHp{V:Nat->AV}{l:List Oper}{T0:List AV}:∀j,j<=l.length->TLp (fun i=>(l[i]?).bind (·.dst)) V T0 (fun _=>true) j=qd2 V 0 (l.take j) T0:=by
 have app:∀(l:List Oper) (o:Oper) (k:Nat) (t:List AV),qd2 V k (l++[o]) t=qiv (qd2 V k l t) o.dst (V (k+l.length)):=by
  intro l;induction l with
  | nil=>intro o k t;simp[qd2]
  | cons a l ih=>intro o k t;simp only[qNi,qd2,ih];congr 2;simp;omega
 intro j;induction j with
 | zero=>intro _;simp[TLp,qd2]
 | succ j ih=>
  intro hj;have hlt:j<l.length:=by omega
  have ht:l.take (j+1)=l.take j++[l[j]]:=by rw[List.take_succ_eq_append_getElem hlt]
  rw[ht,app,<-ih (by omega)];simp only[TLp,if_true];rw[qM0 hlt];simp only[qMk];congr 2;simp;omega
end Go.Eng

namespace Go.Eng
variable {all:Array Oper}
def qyG(acc:List Nat)(o:Oper):Nat:=o.after.toList.foldl (fun s e=>if Region.binds .any e then s ||| 2^e.on ||| acc.getD e.on 0 else s) 0
theorem qqp(acc:List Nat)(x:Nat):∀(es:List Edge) (s:Nat),(es.foldl (fun s e=>if Region.binds .any e then s ||| 2^e.on ||| acc.getD e.on 0 else s) s).testBit x=true ->
  s.testBit x=true\/∃e,e∈es/\Region.binds .any e=true/\(x=e.on\/(acc.getD e.on 0).testBit x=true)
 | [],s,h=>.inl h
 | e::es,s,h=>by
  simp only[qNv] at h;rcases qqp acc x es _ h with h1|⟨e',h1,h2,h3⟩
  ·split at h1
   ·rename_i hb;rw[Nat.testBit_or,Nat.testBit_or,qNj,qNj] at h1;rcases h1 with (h1|h1)|h1
    ·exact .inl h1
    ·rw[Nat.testBit_two_pow] at h1;have h2:e.on=x:=by simpa using h1
     exact .inr ⟨e,qMf,hb,.inl h2.symm⟩
    ·exact .inr ⟨e,qMf,hb,.inr h1⟩
   ·exact .inl h1
  ·exact .inr ⟨e',qMh _ h1,h2,h3⟩
def qJ1(ops:List Oper)(acc:List Nat):Prop:=∀i x,(acc.getD i 0).testBit x=true->∃o e,ops[i]?=some o/\e∈o.after.toList/\Region.binds .any e=true/\(x=e.on\/(acc.getD e.on 0).testBit x=true)
theorem qtl:∀(rest done:List Oper) (acc:List Nat),acc.length=done.length->qJ1 done acc->qJ1 (done++rest) (rest.foldl (fun acc o=>acc++[qyG acc o]) acc)
 | [],done,acc,_,h=>by simpa using h
 | o::rest,done,acc,hl,h=>by
  simp only[qNv];have:=qtl rest (done++[o]) (acc++[qyG acc o]) (by simp[hl]) ?_
  ·simpa using this
  ·intro i x hb;have grow:∀(j x:Nat),(acc.getD j 0).testBit x=true->((acc++[qyG acc o]).getD j 0).testBit x=true:=by
    intro j x hj;rcases qM1 j acc.length with hlt|hge
    ·rw[qLT,qM5 hlt,<-qLT];exact hj
    ·rw[qLT,qMg hge] at hj;simp at hj
   rcases qM1 i acc.length with hlt|hge
   ·rw[qLT,qM5 hlt,<-qLT] at hb;obtain⟨o',e,h1,h2,h3,h4⟩:=h i x hb;refine⟨o',e,by rw[qM5 (by omega)];exact h1,h2,h3,?_⟩;exact h4.elim .inl fun q=>.inr (grow _ _ q)
   ·rcases qNt hge with he|hgt
    ·rw[qLT,<-he,qMd (qLU _)] at hb;simp only[qME,qN9,qMX] at hb;rcases qqp acc x _ _ hb with h1|⟨e,h1,h2,h3⟩
     ·simp at h1
     ·exact⟨o,e,by rw[<-he,qMd (by omega)];simp[hl],h1,h2,h3.elim .inl fun q=>.inr (grow _ _ q)⟩
    ·rw[qLT,qMg (by simp;omega)] at hb;simp at hb
theorem quV (ops:List Oper):qJ1 ops (qfL ops):=by have:=qtl ops [] [] rfl (fun i x h=>by simp at h);exact this
structure DrawOk (all:Array Oper):Prop where
 edge:∀i o,all[i]?=some o->∀e,e∈o.after.toList->Region.binds .any e=true->e.on<i
 dst:∀i j oi oj,all[i]?=some oi->all[j]?=some oj->j≠i->∀t,oj.dst=some t->oi.dst≠some t /\
  (t∈qBx all oi->((qfL all.toList).getD i 0).testBit j=true\/((qfL all.toList).getD j 0).testBit i=true)
theorem qG0 (h:qEa all=true):DrawOk all:=by
 unfold qEa at h;simp only[qMq,qMP] at h;have main:∀i oi,all[i]?=some oi->(∀e,e∈oi.after.toList->Region.binds .any e=true->e.on<i) /\
   ∀j oj,all[j]?=some oj->j≠i->∀t,oj.dst=some t->oi.dst≠some t/\(t∈qBx all oi->((qfL all.toList).getD i 0).testBit j=true\/((qfL all.toList).getD j 0).testBit i=true):=by
  intro i oi hi;have hi':all.toList[i]?=some oi:=by simpa using hi
  have:=h i (qo hi');rw[hi'] at this;simp only[qM7,qMq,qMP,qNj,beq_iff_eq] at this;obtain⟨h1,h2⟩:=this;refine⟨fun e he hb=>?_,fun j oj hj hne t ht=>?_⟩
  ·have:=h1 e he;rw[hb] at this;simpa using this
  ·have hj':all.toList[j]?=some oj:=by simpa using hj
   have:=(h2 j (qo hj')).resolve_left hne;rw[hj'] at this;simp only[ht,qM7,bne_iff_ne,ne_eq,qNj,qNu,List.contains_eq_mem,decide_eq_false_iff_not] at this;refine⟨this.1,fun hm=>?_⟩;rcases this.2 with (h3|h3)|h3
   ·exact absurd hm h3
   ·exact .inl h3
   ·exact .inr h3
 exact⟨fun i o hi=>(main i o hi).1,fun i j oi oj hi hj hne=>(main i oi hi).2 j oj hj hne⟩
theorem qHs (hd:DrawOk all):∀(i x:Nat),((qfL all.toList).getD i 0).testBit x=true->x<i:=by
 intro i;induction i using Nat.strongRecOn with
 | _ i ih=>
  intro x hx;obtain⟨o,e,h1,h2,h3,h4⟩:=quV all.toList i x hx;have he:=hd.edge i o (by simpa using h1) e h2 h3;rcases h4 with rfl|h4
  ·exact he
  ·have:=ih e.on he x h4;omega
def qnQ(all:Array Oper)(L:Nat->Bool):Prop:=∀i o,all[i]?=some o->L i=true->∀e,e∈o.after.toList->Region.binds .any e=true->L e.on=true
theorem qts (hd:DrawOk all){L:Nat->Bool}(hc:qnQ all L):∀(i x:Nat),L i=true->((qfL all.toList).getD i 0).testBit x=true->L x=true:=by
 intro i;induction i using Nat.strongRecOn with
 | _ i ih=>
  intro x hi hx;obtain⟨o,e,h1,h2,h3,h4⟩:=quV all.toList i x hx;have ho:all[i]?=some o:=by simpa using h1
  have he:=hc i o ho hi e h2 h3;rcases h4 with rfl|h4
  ·exact he
  ·exact ih e.on (hd.edge i o ho e h2 h3) x he h4
section
variable {E:Env} {callS:q6h} {h:List Blk} {all:Array Oper} {V:Nat->AV} {T0:List AV}
def yl(all:Array Oper):Nat->Option Tmp:=fun i=>(all[i]?).bind (·.dst)
theorem qI8 (hd:DrawOk all){L:Nat->Bool}(hc:qnQ all L){n i:Nat}{o:Oper}(hi:all[i]?=some o)(hin:i<=n)(hL:L i=false)(hedge:∀e,e∈o.after.toList->Region.binds .any e=true->L e.on=true) {t:Tmp} (ht:t∈qBx all o) :(TLp (yl all) V T0 L n)[t]?=(TLp (yl all) V T0 (fun _=>true) i)[t]?:=by
 by_cases hex:∃j oj,all[j]?=some oj/\j≠i/\oj.dst=some t
 ·obtain⟨j,oj,hj,hne,hjt⟩:=hex;have hdj:yl all j=some t:=by simp[yl,hj,hjt]
  have huniq:∀m k,k<m->k≠j->yl all k≠some t:=by
   intro m k _ hkj he;unfold yl at he;cases hk:all[k]? with
   | none=>rw[hk] at he;cases he
   | some ok=>
    rw[hk] at he;simp only[qMk] at he;exact(hd.dst j k oj ok hj hk hkj t he).1 hjt
  rcases (hd.dst i j o oj hi hj hne t hjt).2 ht with ha|ha
  ·
   have hji:=qHs hd i j ha;have hLj:L j=true:=by
    obtain⟨o',e,h1,h2,h3,h4⟩:=quV all.toList i j ha;have:o'=o:=by
     have h1':all[i]?=some o':=by simpa using h1
     rw[hi] at h1';exact(qMx h1').symm
    subst this;have he:=hedge e h2 h3;rcases h4 with rfl|h4
    ·exact he
    ·exact qts hd hc _ _ he h4
   rw[qhY hLj hdj n (by omega) (huniq n),qhY rfl hdj i hji (huniq i)]
  ·
   have hij:=qHs hd j i ha;have hLj:L j=false:=by
    cases hLj:L j with
    | false=>rfl
    | true=>have:=qts hd hc _ _ hLj ha;rw[hL] at this;cases this
   have e1:(TLp (yl all) V T0 L n)[t]?=T0[t]?:=q8d n fun k hk hLk he=>by
    by_cases hkj:k=j
    ·subst hkj;rw[hLj] at hLk;cases hLk
    ·exact huniq n k hk hkj he
   have e2:(TLp (yl all) V T0 (fun _=>true) i)[t]?=T0[t]?:=q8d i fun k hk _ he=>by
    by_cases hkj:k=j
    ·omega
    ·exact huniq i k hk hkj he
   rw[e1,e2]
 ·have hno:∀k,k≠i->yl all k≠some t:=by
   intro k hki he;unfold yl at he;cases hk:all[k]? with
   | none=>rw[hk] at he;cases he
   | some ok=>
    rw[hk] at he;exact hex ⟨k,ok,hk,hki,he⟩
  have e1:(TLp (yl all) V T0 L n)[t]?=T0[t]?:=q8d n fun k hk hLk=>hno k (fun e=>by subst e;rw[hL] at hLk;cases hLk);have e2:(TLp (yl all) V T0 (fun _=>true) i)[t]?=T0[t]?:=q8d i fun k hk _=>hno k (by omega);rw[e1,e2]
end
def unl(listed:Array Bool):Nat->Nat
 | 0=>0
 | m+1=>unl listed m+if listed.getD m false then 0 else 1
theorem qvM{listed:Array Bool}:∀{m:Nat},unl listed m=0->∀i,i<m->listed.getD i false=true
 | 0,_,i,hi=>by omega
 | m+1,h,i,hi=>by
  simp only[unl] at h;by_cases him:i=m
  ·subst him;cases hl:listed.getD i false with
   | true=>rfl
   | false=>rw[hl] at h;simp at h
  ·exact qvM (Nat.add_eq_zero_iff.1 h).1 i (by omega)
theorem q0g {listed:Array Bool}{i j:Nat}(hi:i<listed.size):(listed.setIfInBounds i true).getD j false=if j=i then true else listed.getD j false:=by
 by_cases h:j=i
 ·subst h;simp[hi]
 ·simp[h,Array.getElem?_setIfInBounds_ne (qMl h)]
theorem qz5{listed:Array Bool}{i:Nat}(hi:i<listed.size)(hl:listed.getD i false=false):∀m,(m<=i->unl (listed.setIfInBounds i true) m=unl listed m)/\(i<m->unl (listed.setIfInBounds i true) m+1=unl listed m)
 | 0=>⟨fun _=>rfl,fun h=>by omega⟩
 | m+1=>by
  obtain⟨h1,h2⟩:=qz5 hi hl m;refine⟨fun h=>?_,fun h=>?_⟩
  ·simp only[unl];rw[h1 (by omega),q0g hi,if_neg (show ¬m=i by omega)]
  ·simp only[unl];rw[q0g hi];by_cases him:m=i
   ·subst him;rw[h1 (qLU _),if_pos rfl,hl];simp
   ·rw[if_neg him];have:=h2 (by omega);omega
end Go.Eng

namespace Go.Eng
variable {E:Env}{op:Op}{t:TypeId}
def kf(h':List Blk):Tree Res->Tree Res->Prop
 | .leaf r,t'=>t'=.leaf (r.1,h',none)
 | .br b t e,.br b' t' e'=>b=b'/\kf h' t t'/\kf h' e e'
 | .fail,_=>True
 | .br _ _ _,_=>False
theorem kf.run{h':List Blk}:∀{t t':Tree Res} {r:Res},kf h' t t'->t.run=some r->t'.run=some (r.1,h',none)
 | .leaf _,t',_,hm,hr=>by cases hr;simp only[kf] at hm;subst hm;rfl
 | .fail,_,_,_,hr=>by cases hr
 | .br b t e,.br b' t' e',r,hm,hr=>by
  simp only[kf] at hm;obtain⟨rfl,h1,h2⟩:=hm;cases b<;>simp only[Tree.run] at hr ⊢
  ·exact kf.run h2 hr
  ·exact kf.run h1 hr
 | .br _ _ _,.leaf _,_,hm,_=>by cases hm
 | .br _ _ _,.fail,_,hm,_=>by cases hm
section
variable {h h':List Blk}
def Agr(h h':List Blk)(p:AV):Prop:=∀b,b∈p.men->h'[b]?=h[b]?
theorem zS (v:AV):kf h' (okv h v) (okv h' v):=rfl
theorem jI {b:Bool}{t t' e e':Tree Res}(h1:kf h' t t')(h2:kf h' e e'):kf h' (.br b t e) (.br b t' e'):=⟨rfl,h1,h2⟩
theorem zd {c:Prop}[Decidable c]{t t' e e':Tree Res}(h1:kf h' t t')(h2:kf h' e e'):kf h' (if c then t else e) (if c then t' else e'):=by split<;>assumption
theorem q96 (kk:IntKind)(f:Int->Int->Int)(l:Bool)(x y:Int):kf h' (q5W h kk f l x y) (q5W h' kk f l x y):=by unfold q5W;cases l<;>rfl
theorem qDt (f:Int->Int->Bool)(l:Bool)(x y:Int):kf h' (qCE h f l x y) (qCE h' f l x y):=by unfold qCE;cases l<;>rfl
theorem qhJ {v:AV}(H:Agr h h' v):ve h' v=ve h v:=by
 cases v<;>first|rfl|skip
 rename_i b;simp only[ve];rw[H b (by simp[AV.men])]
theorem qyh (E:Env)(t:TypeId)(p:AV)(H:Agr h h' p):kf h' (qeQ E h t p) (qeQ E h' t p):=by
 unfold qeQ;dsimp only;refine zd trivial ?_;cases p with
 | ptr b off=>
  simp only;rw[H b (by simp[AV.men])];cases hb:h[b]? with
  | none=>trivial
  | some x=>
   cases x with
   | cells cs=>
    simp only;refine zd (zd (zS _) trivial) ?_;cases cs[off]?<;>first|trivial|rfl
   | _=>trivial
 | eptr sh l i off=>
  simp only;refine zd ?_ ?_
  ·cases q9W sh l i off (E.ty t).size<;>first|trivial|rfl
  ·cases qfo sh l i off<;>first|trivial|rfl
 | vptr b i off=>
  simp only;rw[qhJ (v:=.vec b) H];cases hb:ve h (.vec b) with
  | none=>trivial
  | some x=>
   obtain⟨sh,l⟩:=x;simp only;refine zd ?_ ?_
   ·cases q9W sh l i off (E.ty t).size<;>first|trivial|rfl
   ·cases qfo sh l i off<;>first|trivial|rfl
 | _=>trivial
theorem qCp (E:Env)(t:TypeId)(p:AV)(H:Agr h h' p):kf h' (qce E h t p) (qce E h' t p):=by
 cases p with
 | ptr b off=>
  have hm:=qyh E t (.ptr b off) H;unfold qce;simp only;rw[H b (by simp[AV.men])];cases hb:h[b]? with
  | none=>
   have:qeQ E h t (.ptr b off)=.fail:=by unfold qeQ;simp only[hb];split<;>rfl
   simp only[this];trivial
  | some x=>
   cases x with
   | big cs kk n l=>
    simp only;unfold qDp;refine zd trivial (zd (zd (zS _) trivial) ?_);cases cs[off]? with
    | none=>exact zd (zS _) trivial
    | some v=>exact zS _
   | _=>exact hm
 | aptr b o i=>
  unfold qce;simp only;rw[H b (by simp[AV.men])];cases hb:h[b]? with
  | none=>trivial
  | some x=>
   cases x with
   | big cs kk n l=>exact zd (jI (zS _) trivial) trivial
   | _=>trivial
 | _=>unfold qce;exact qyh _ _ _ H
theorem qC1 (E:Env)(t:TypeId)(ps:List (Nat×AV)):kf h' (qgL E h t ps) (qgL E h' t ps):=by
 unfold qgL;refine zd trivial ?_;cases (E.ty t).d with
 | struct fs=>
  simp only;refine zd ?_ trivial;cases qcU (fun i=>(fs[i]?).map fun f=>(f.1,f.2.2)) ((E.ty t).zero.map j6) ps<;>first|trivial|rfl
 | array n e es=>
  simp only;refine zd trivial ?_;cases qcU (fun i=>some (i*es,es)) ((E.ty t).zero.map j6) ps<;>first|trivial|rfl
 | _=>trivial
theorem qA4 (E:Env)(t:TypeId)(ps:List (Nat×AV)):kf h' (qaR E h t ps) (qaR E h' t ps):=by
 unfold qaR;cases qBN E t with
 | none=>exact qC1 _ _ _
 | some q=>
  obtain⟨o,kk,n⟩:=q;simp only;cases (E.ty t).d with
  | struct fs=>
   simp only;refine zd ?_ trivial;cases qcU (fun i=>(fs[i]?).map fun f=>(f.1,f.2.2)) (((E.ty t).zero.take o).map j6) ps<;>first|trivial|rfl
  | _=>trivial
theorem qsU (E:Env)(s:TypeId)(x:AV)(f:Nat):kf h' (q1K E h s x f) (q1K E h' s x f):=by
 unfold q1K;cases (E.ty s).d with
 | struct fs=>
  simp only;cases fs[f]? with
  | none=>trivial
  | some o=>
   obtain⟨o,tt,sz⟩:=o;simp only;refine zd trivial ?_;cases x<;>first|rfl|trivial
 | _=>trivial
theorem qqK (E:Env)(t:TypeId)(cs:List AV)(o:Nat):kf h' (qgg E h t cs o) (qgg E h' t cs o):=by unfold qgg;cases qeE E t cs o<;>first|rfl|trivial
theorem qCO (E:Env)(s:TypeId)(x:AV)(f:Nat):kf h' (qhs E h s x f) (qhs E h' s x f):=by
 unfold qhs;cases (E.ty s).d with
 | struct fs=>
  cases x with
  | agg cs=>
   simp only;cases fs[f]? with
   | none=>trivial
   | some o=>exact qqK _ _ _ _
  | _=>trivial
 | _=>trivial
theorem qg4(i:Int)(f:Nat->AV):∀n,kf h' (qgp h i f n) (qgp h' i f n)
 | 0=>trivial
 | n+1=>⟨rfl,rfl,qg4 i f n⟩
theorem qsQ (E:Env)(t:TypeId)(x i:AV)(H:Agr h h' x):kf h' (yx E h t x i) (yx E h' t x i):=by
 unfold yx;cases (E.ty t).d with
 | slice e es=>
  cases x with
  | imm sh l=>
   cases asI i with
   | none=>trivial
   | some y=>exact zd (jI (zS _) trivial) trivial
  | vec b=>
   cases asI i with
   | none=>trivial
   | some y=>
    simp only;rw[qhJ (v:=.vec b) H];cases hb:ve h (.vec b) with
    | none=>trivial
    | some z=>exact zd (jI (zS _) trivial) trivial
  | _=>trivial
 | array n e es=>
  cases x with
  | ptr b off=>
   simp only;cases i with
   | ilit kk j=>exact zd (zS _) trivial
   | int kk j=>exact zd (qg4 _ _ _) trivial
   | _=>trivial
  | eptr sh l i0 off=>
   simp only;cases i with
   | ilit kk j=>exact zd (zS _) trivial
   | int kk j=>exact zd (qg4 _ _ _) trivial
   | _=>trivial
  | _=>trivial
 | _=>trivial
theorem qrh (E:Env)(t:TypeId)(x i:AV)(H:Agr h h' x):kf h' (q0a E h t x i) (q0a E h' t x i):=by
 have hm:=qsQ E t x i H;unfold q0a;split
 ·split
  ·split
   ·split
    ·exact zd (jI (zS _) trivial) trivial
    ·exact hm
   ·exact hm
  ·exact hm
 ·exact hm
theorem qwy(E:Env)(e:TypeId)(cs:List AV)(es:Nat)(i:Int):∀m j,kf h' (qnW E h e cs es i j m) (qnW E h' e cs es i j m)
 | 0,_=>trivial
 | m+1,j=>jI (qqK _ _ _ _) (qwy E e cs es i m (j+1))
theorem qBr (E:Env)(t:TypeId)(x i:AV):kf h' (qfV E h t x i) (qfV E h' t x i):=by
 unfold qfV;cases (E.ty t).d with
 | array n e es=>
  cases x with
  | agg cs=>
   cases hi:asI i with
   | none=>trivial
   | some y=>
    cases i with
    | ilit kk j=>exact zd (qqK _ _ _ _) trivial
    | int kk j=>
     simp only;cases (E.ty e).d with
     | int k2=>
      simp only;refine zd ?_ trivial;cases qlk k2 cs with
      | none=>trivial
      | some l=>exact jI (zS _) trivial
     | slice e2 es2=>
      simp only;refine zd ?_ trivial;split
      ·exact qwy _ _ _ _ _ _ _
      ·trivial
     | _=>trivial
    | _=>cases hi
  | _=>trivial
 | str=>
  cases x with
  | str s=>
   cases asI i with
   | none=>trivial
   | some y=>exact jI (zS _) trivial
  | _=>trivial
 | _=>trivial
theorem qAQ (d:TD)(op:BinOp)(x y:AV)(H:Agr h h' x):kf h' (qyb d h op x y) (qyb d h' op x y):=by
 unfold qyb;cases hx:asI x with
 | some p=>
  obtain⟨kk,a⟩:=p;cases hy:asI y with
  | some q=>
   obtain⟨kk',b⟩:=q;simp only;refine zd ?_ trivial;cases op<;>simp only<;>first
    | exact q96 _ _ _ _ _
    | exact qDt _ _ _ _
    | trivial
    | skip
   ·cases y<;>simp only<;>first|exact zd trivial (q96 _ _ _ _ _)|exact jI (q96 _ _ _ _ _) trivial
   ·cases y<;>simp only<;>first|exact zd trivial (q96 _ _ _ _ _)|exact jI (q96 _ _ _ _ _) trivial
  | none=>cases x<;>first|cases hx;done|(cases y<;>first|(cases hy;done)|trivial)
 | none=>
  simp only;cases hbx:asB x with
  | some a=>
   cases hby:asB y with
   | some b=>simp only;cases d<;>simp only<;>first|trivial|(cases op<;>first|rfl|trivial)
   | none=>cases x<;>first|(cases hbx;done)|(cases y<;>first|(cases hby;done)|trivial)
  | none=>
   simp only;cases x with
   | str a=>
    cases y with
    | str b=>cases op<;>first|rfl|trivial|exact jI (zS _) trivial
    | _=>trivial
   | nilp=>
    cases y with
    | nilp=>cases d<;>first|trivial|(cases op<;>first|rfl|trivial)
    | _=>trivial
   | ptr b off=>
    cases y with
    | nilp=>
     cases d<;>first|trivial|skip
     simp only;rw[H b (by simp[AV.men])];cases hb:h[b]? with
     | none=>trivial
     | some z=>cases z<;>first|trivial|(cases op<;>first|rfl|trivial)
    | _=>trivial
   | eptr sh l i o=>
    cases y with
    | nilp=>cases d<;>first|trivial|(cases op<;>first|rfl|trivial)
    | _=>trivial
   | imm sh l=>
    cases y with
    | nils=>cases d<;>first|trivial|(cases op<;>first|trivial|exact jI (zS _) trivial)
    | _=>trivial
   | mptr c sh l i o=>
    cases y with
    | nilp=>cases d<;>first|trivial|(cases op<;>first|rfl|trivial)
    | _=>trivial
   | _=>trivial
theorem qBJ (E:Env)(op:BinOp)(t:TypeId)(x y:AV)(H:Agr h h' x):kf h' (qjv E h op t x y) (qjv E h' op t x y):=by
 unfold qjv;cases x with
 | agg xs=>
  cases y with
  | agg ys=>
   simp only;unfold qpv;cases eqT E 32 t (.agg xs) (.agg ys) with
   | none=>trivial
   | some r=>cases op<;>first|rfl|trivial
  | _=>exact qAQ _ _ _ _ H
 | _=>exact qAQ _ _ _ _ H
theorem qIz (op:UnOp)(x:AV):kf h' (qIp h op x) (qIp h' op x):=by cases op<;>cases x<;>first|rfl|trivial
theorem qEg (E:Env)(s d:TypeId)(x:AV):kf h' (qnV E h s d x) (qnV E h' s d x):=by unfold qnV;cases (E.ty s).d<;>cases (E.ty d).d<;>cases x<;>first|rfl|trivial
theorem qBL (E:Env)(s d:TypeId)(x:AV)(H:Agr h h' x):kf h' (qgu E h s d x) (qgu E h' s d x):=by
 unfold qgu;cases (E.ty s).d with
 | slice e es=>
  simp only;cases (E.ty d).d with
  | str=>
   simp only;unfold qql;cases (E.ty e).d with
   | int kk=>
    cases kk<;>first|trivial|skip
    simp only;rw[qhJ H];cases hr:ve h x with
    | none=>trivial
    | some q=>
     obtain⟨sh,l⟩:=q;simp only;split
     ·rfl
     ·trivial
   | _=>trivial
  | _=>trivial
 | _=>exact qEg _ _ _ _
theorem qGx (E:Env)(ts:List TypeId)(azz:List AV)(H:∀x,x∈azz->Agr h h' x):kf h' (qqo E h ts azz) (qqo E h' ts azz):=by
 unfold qqo;cases ts with
 | nil=>trivial
 | cons t ts=>
  cases azz with
  | nil=>trivial
  | cons x azz=>
   cases azz with
   | cons _ _=>trivial
   | nil=>
    simp only;unfold qEO;cases (E.ty t).d with
    | str=>cases x<;>first|rfl|trivial
    | array n e es=>rfl
    | slice e es=>
     cases x with
     | nils=>rfl
     | vec b=>
      simp only;rw[qhJ (v:=.vec b) (H _ qMf)];cases hb:ve h (.vec b) with
      | none=>trivial
      | some z=>rfl
     | imm sh l=>rfl
     | _=>trivial
    | _=>cases x<;>trivial
theorem qIQ (f:Int->Int->Int)(azz:List AV):kf h' (quw f h azz) (quw f h' azz):=by
 unfold quw;cases azz with
 | nil=>trivial
 | cons x l=>
  simp only;cases asI x with
  | none=>trivial
  | some p=>
   obtain⟨kk,n⟩:=p;simp only;cases qzN f kk n l with
   | none=>trivial
   | some m=>exact zd (zS _) (zS _)
theorem qCw (ht:(E.ty t).d=.str)(x:AV)(lo hi mx:Option AV):kf h' (qbL E h t x lo hi mx) (qbL E h' t x lo hi mx):=by
 unfold qbL;rw[ht];cases mx with
 | some _=>trivial
 | none=>
  cases x<;>first|trivial|skip
  rename_i s;simp only;cases qdk lo 0 with
  | none=>trivial
  | some l=>
   cases qdk hi (qq s) with
   | none=>trivial
   | some r=>exact jI (jI (zS _) trivial) trivial
theorem qzk (ht:(E.ty t).d=.str)(x:AV)(lo hi mx:Option AV):kf h' (yJ E h t x lo hi mx) (yJ E h' t x lo hi mx):=by unfold yJ;rw[ht];exact qCw ht _ _ _ _
theorem qzD {n:Nat}{e:TypeId}{es:Nat}(ht:(E.ty t).d=.array n e es)(x:AV)(lo hi mx:Option AV):kf h' (yJ E h t x lo hi mx) (yJ E h' t x lo hi mx):=by
 unfold yJ;rw[ht];simp only;cases x<;>first|trivial|skip
 ·cases mx with
  | some _=>trivial
  | none=>
   simp only;refine zd ?_ trivial;unfold qGF;split
   ·exact jI (jI (zS _) trivial) trivial
   ·trivial
 ·refine zd ?_ trivial;split
  ·unfold qxL;split
   ·split
    ·exact jI (jI (zS _) trivial) trivial
    ·trivial
   ·split
    ·exact jI (jI (jI (zS _) trivial) trivial) trivial
    ·trivial
  ·trivial
theorem qzT {e:TypeId}{es:Nat}(ht:(E.ty t).d=.slice e es)(x:AV)(lo hi:Option AV){mx:Option AV}(hm:mx.isSome=true):kf h' (yJ E h t x lo hi mx) (yJ E h' t x lo hi mx):=by
 unfold yJ;rw[ht];simp only;unfold qbL;cases mx with
 | none=>cases hm
 | some m=>
  simp only;rw[ht];split
  ·split
   ·exact zd (jI (jI (jI (zS _) trivial) trivial) trivial) trivial
   ·trivial
  ·trivial
theorem qEK {ev:Operand->AV}(hs:qcf E op=true)(H:qCV op=true->∀x,x∈op.operands.toList->Agr h h' (ev x)):kf h' (qpc E h ev op) (qpc E h' ev op):=by
 unfold qpc;cases op<;>simp only[qcf] at hs<;>try (cases hs)
 case move=>exact zS _
 case assign=>exact zS _
 case pick c a b=>simp only;cases ev c<;>first|exact zS _|exact jI (zS _) (zS _)|trivial
 case build=>exact qA4 _ _ _
 case load x=>exact qCp _ _ _ (H rfl x (by simp[Op.operands]))
 case nilCheck x=>
  have H:=H rfl x (by simp[Op.operands]);simp only;cases hx:ev x with
  | ptr b o=>
   rw[hx] at H;simp only;rw[H b (by simp[AV.men])];cases hb:h[b]? with
   | none=>trivial
   | some z=>cases z<;>first|rfl|trivial
  | eptr sh l i o=>rfl
  | mptr c sh l i o=>exact jI (zS _) trivial
  | _=>trivial
 case binOp op t x y r=>exact qBJ _ _ _ _ _ (H rfl x (by simp[Op.operands]))
 case unOp=>exact qIz _ _
 case convert s d x=>exact qBL _ _ _ _ (H rfl x (by simp[Op.operands]))
 case makeFunc fn _ _=>cases fn<;>first|rfl|trivial
 case slice t x lo hi mx=>
  split at hs
  ·rename_i ht;exact qzk ht _ _ _ _
  ·rename_i ht;exact qzD ht _ _ _ _
  ·rename_i ht;exact qzT ht _ _ _ (by simpa using hs)
  ·cases hs
 case fieldAddr=>exact qsU _ _ _ _
 case field=>exact qCO _ _ _ _
 case indexAddr t x i=>exact qrh _ _ _ _ (H rfl x (by simp[Op.operands]))
 case index=>exact qBr _ _ _ _
 case extract x i=>
  simp only;cases ev x with
  | tuple vs=>simp only;cases vs[i]?<;>first|rfl|trivial
  | _=>trivial
 case call c=>
  obtain⟨callee,args,tys⟩:=c;cases callee with
  | builtin b=>
   cases b<;>first|exact qGx _ _ _ (fun x hx=>by obtain⟨y,hy,rfl⟩:=qMJ.1 hx;exact H rfl y (by simpa[Op.operands,Call.operands] using hy))|exact qIQ _ _|(cases hs;done)
  | value x=>simp only at hs;cases hs
  | invoke x n=>simp only at hs;cases hs
end
mutual
theorem qFh{h h':List Blk}:∀(a:AV),Agr h h' a->a.lend h'=a.lend h
 | .vec b,H=>by simp only[AV.lend];rw[H b (by simp[AV.men])]
 | .agg cs,H=>by simp only[AV.lend];rw[q16 cs H]
 | .tuple cs,H=>by simp only[AV.lend];rw[q16 cs H]
 | .undef,_|.yld,_|.skip,_|.blit _,_|.bool _,_|.ilit _ _,_|.int _ _,_|.str _,_|.nilp,_|.ptr _ _,_|.eptr _ _ _ _,_|.mptr _ _ _ _ _,_|.vptr _ _ _,_|.vsub _ _,_|.aptr _ _ _,_|.asub _ _ _ _ _,_|.bagg _ _ _ _,_|.nils,_|.imm _ _,_|.full _ _,_|.nilf,_|.fn _ _ _,_=>rfl
theorem q16{h h':List Blk}:∀(l:List AV),(∀b,b∈AV.menL l->h'[b]?=h[b]?)->AV.lendL h' l=AV.lendL h l
 | [],_=>rfl
 | a::l,H=>by
  simp only[AV.lendL];rw[qFh a fun b hb=>H b (by simp only[AV.menL];exact qMN _ hb),q16 l fun b hb=>H b (by simp only[AV.menL];exact qMC _ hb)]
end
theorem qu9:∀(a:AV) (b:Nat),b∈zM a->b∈a.men:=by
 intro a b hb;cases a<;>simp only[zM] at hb<;>first|(cases hb;done)|skip
 case vec c=>simpa[AV.men] using hb
 case agg cs=>
  simp only[AV.men];induction cs with
  | nil=>cases hb
  | cons c cs ih=>
   simp only[AV.menL];simp only[List.filterMap_cons] at hb;cases c<;>simp only at hb<;>first|exact qMC _ (ih hb)|skip
   rcases qMb.1 hb with rfl|hb
   ·exact qMN _ (by simp[AV.men])
   ·exact qMC _ (ih hb)
theorem qp1 {l:List AV}{a:AV}{b:Nat}(ha:a∈l)(hb:b∈a.men):b∈AV.menL l:=by
 induction l with
 | nil=>cases ha
 | cons c l ih=>
  simp only[AV.menL];rcases qMb.1 ha with rfl|ha
  ·exact qMN _ hb
  ·exact qMC _ (ih ha)
theorem qrq {h h':List Blk}{f:FuncId}{args:List AV}(H:∀b,b∈AV.menL args->h'[b]?=h[b]?):q8W E h' f args=q8W E h f args:=by
 unfold q8W;cases hf:E.spec.find? fun x=>x.1==f with
 | none=>rfl
 | some G=>
  simp only;have e1:(args.flatMap zM).all (qk5 h')=(args.flatMap zM).all (qk5 h):=by
   have:∀b,b∈args.flatMap zM->qk5 h' b=qk5 h b:=by intro b hb;obtain⟨a,ha,hb⟩:=qNQ.1 hb;unfold qk5;rw[H b (qp1 ha (qu9 a b hb))]
   generalize args.flatMap zM=l at this;induction l with
   | nil=>rfl
   | cons b l ih=>simp only[qNS];rw[this b qMf,ih fun b hb=>this b (qMh _ hb)]
  rw[e1,q16 args H]
theorem q6z (E:Env):q4T E (q7a E):=by
 intro h h' f args hs H;unfold q7a;unfold qfY at hs;cases hf:E.spec.find? fun x=>x.1==f with
 | none=>rw[hf] at hs;cases hs
 | some G=>simp only;exact qrq H
theorem qwt (E:Env):q4T E quM:=fun _ _ _ _ _ _=>rfl
theorem qwz {callS:List Blk->q6h}(hm:q4T E callS){h h':List Blk}{ev:Operand->AV}{v:AV}{R:List Nat}(hR:qJq E ev op=some R)(H:∀b,b∈R->h'[b]?=h[b]?)(hr:(qc6 E (callS h) h ev op).run=some v):(qc6 E (callS h') h' ev op).run=some v:=by
 unfold qc6 at hr ⊢;split at hr
 ·rename_i x args tys;cases hx:ev x with
  | fn f first caps=>
   rw[hx] at hr;unfold qJq at hR;simp only[qh4,j7,hx] at hR;cases hf:qfY E f with
   | none=>rw[hf] at hR;cases hR
   | some G=>
    rw[hf] at hR;simp only[qLS] at hR;subst hR;simp only;rw[hm h h' f _ (by rw[hf];rfl) H];exact hr
  | _=>rw[hx] at hr;cases hr
 ·rename_i hno;split at hr
  ·rename_i hst;rw[if_pos hst];obtain⟨r,h1,h2⟩:=bind_some hr;cases h2;have hR':qCV op=true->R=AV.menL (op.operands.toList.map ev):=by
    intro hlk;unfold qJq at hR;have:qh4 op=false:=by
     unfold qh4;split
     ·rename_i x args tys;exact absurd rfl (hno x args tys)
     ·rfl
    rw[this,hlk] at hR;simpa using hR.symm
   rw[Tree.run_bind,kf.run (qEK (h':=h') hst fun hlk x hx b hb=>H b (by rw[hR' hlk];exact qp1 (List.mem_map_of_mem hx) hb)) h1];rfl
  ·cases hr
section
variable {h:List Blk}
theorem qgF:∀(cs:List AV),cs.all qCP=true->qa3 h cs=h
 | [],_=>rfl
 | c::cs,hc=>by
  simp only[qNS,qM7] at hc;cases c<;>first|(simp only[qa3];exact qgF cs hc.2)|(cases hc.1)
theorem qF1 {ev:Operand->AV}{v:AV}{z:Blk}(hr:(qje E h ev op).run=some (v,z)):(qpc E h ev op).run=some (v,h++[z],none):=by
 unfold qje at hr;cases op<;>simp only at hr<;>first|(cases hr;done)|skip
 case buildSlice t len parts=>
  unfold qpc;simp only;unfold q7i;cases hd:(E.ty t).d<;>rw[hd] at hr<;>simp only at hr ⊢<;>first|(cases hr;done)|skip
  rename_i e es;split at hr
  ·rename_i hc;rw[if_pos hc];cases hf:qcU (fun i=>some (i*es,es)) ((List.replicate len ((E.ty e).zero.map j6)).flatten) (parts.toList.map fun p=>(p.1,ev p.2)) with
   | none=>rw[hf] at hr;cases hr
   | some cs=>
    cases hs:E.shape 16 e with
    | none=>rw[hf,hs] at hr;cases hr
    | some sh=>
     rw[hf,hs] at hr;simp only at hr ⊢;split at hr
     ·rename_i hl;rw[if_pos hl.1];cases hch:qig h sh len cs with
      | none=>rw[hch] at hr;cases hr
      | some l=>
       rw[hch] at hr;cases hr;simp only[qgF cs hl.2];rfl
     ·cases hr
  ·cases hr
theorem qww {f g:Operand->AV}(hfg:∀x∈op.operands.toList,f x=g x):qje E h f op=qje E h g op:=by
 unfold qje;cases op<;>simp only
 case buildSlice t len ps=>
  have:(ps.toList.map fun p=>(p.1,f p.2))=ps.toList.map fun p=>(p.1,g p.2):=qN4 fun p hp=>by rw[hfg p.2 (by simp only[Op.operands];exact List.mem_map_of_mem hp)]
  rw[this]
end
end Go.Eng

namespace Go.Eng
variable {B:Base}{E:Env}{X:Ctx}{s:Nat}
mutual
theorem AV.ren_void{s:Nat}:∀av:AV,s∉av.men->av.ren (qbW s)=av
 | .undef,_|.skip,_|.yld,_|.blit _,_|.bool _,_|.ilit _ _,_|.int _ _,_|.str _,_|.nilp,_|.eptr _ _ _ _,_|.mptr _ _ _ _ _,_|.nils,_|.imm _ _,_|.full _ _,_|.nilf,_=>rfl
 | .ptr b _,h=>by simp only[AV.men,qMm] at h;simp[AV.ren,qbW,qMl h]
 | .vptr b _ _,h=>by simp only[AV.men,qMm] at h;simp[AV.ren,qbW,qMl h]
 | .vsub b _,h=>by simp only[AV.men,qMm] at h;simp[AV.ren,qbW,qMl h]
 | .aptr b _ _,h=>by simp only[AV.men,qMm] at h;simp[AV.ren,qbW,qMl h]
 | .asub b _ _ _ _,h=>by simp only[AV.men,qMm] at h;simp[AV.ren,qbW,qMl h]
 | .vec b,h=>by simp only[AV.men,qMm] at h;simp[AV.ren,qbW,qMl h]
 | .fn g first caps,h=>by
  simp only[AV.men,qMi,not_or] at h;simp[AV.ren,AV.renL_void first h.1,AV.renL_void caps h.2]
 | .agg cs,h=>by simp only[AV.men] at h;simp[AV.ren,AV.renL_void cs h]
 | .tuple cs,h=>by simp only[AV.men] at h;simp[AV.ren,AV.renL_void cs h]
 | .bagg cs k n l,h=>by simp only[AV.men] at h;simp[AV.ren,AV.renL_void cs h]
theorem AV.renL_void{s:Nat}:∀l:List AV,s∉AV.menL l->AV.renL (qbW s) l=l
 | [],_=>rfl
 | a::l,h=>by
  simp only[AV.menL,qMi,not_or] at h;simp[AV.renL,AV.ren_void a h.1,AV.renL_void l h.2]
end
theorem Blk.ren_void (k:Blk)(h:s∉k.menB):k.ren (qbW s)=k:=by cases k<;>simp only[Blk.menB,Blk.ren] at h ⊢<;>rw[AV.renL_void _ h]
theorem qml{s:Nat}:∀l:List (List AV),s∉qkP l->l.map (AV.renL (qbW s))=l
 | [],_=>rfl
 | a::l,h=>by
  simp only[qkP,qMi,not_or] at h;simp only[qMZ,AV.renL_void a h.1,qml l h.2]
theorem qpk {s b:Nat}{k:Blk}:∀{h:List Blk},s∉qci h->h[b]?=some k->s∉k.menB:=by
 intro h;induction h generalizing b with
 | nil=>intro _ hb;simp at hb
 | cons a h ih=>
  intro hs hb;simp only[qci,qMi,not_or] at hs;cases b with
  | zero=>simp only[qN9,qLS] at hb;subst hb;exact hs.1
  | succ b=>exact ih hs.2 (by simpa using hb)
def Ctx.slot(X:Ctx)(s:Nat)(z:Blk)(o:Obj):Ctx:={ σ:=fun b=>if b=s then some X.w.heap.size else X.σ b,h:=X.h.set s z,w:=X.w.alloc o,M:=X.M,kept:=X.kept,y:=X.y }
theorem qq2 (hs:HSim B X){z:Blk}{o:Obj}:Move X (X.slot s z o) (qbW s):=by
 refine Move.of (fun _ h=>h) (fun a ha=>qMW (zP _ _ (hs.ltM _ ha))) (fun b b' hb h=>?_);unfold qbW at h;split at h
 ·cases h
 ·rename_i hne;cases h;refine⟨by simpa[Ctx.slot] using hb,by simp[Ctx.slot,hne],fun sh m ⟨e,l,h1,h2⟩=>⟨e,l,?_,h2⟩,fun _ _ _ n hn c T fr hc=>⟨c,T,fr,?_,rfl⟩⟩
  ·have e1:(X.slot s z o).h[b]?=X.h[b]?:=qLV (fun e=>hne e.symm);rw[e1] at h1;exact h1
  ·exact(zP _ _ (qLY.1 hc).1).trans hc
theorem qyi (hs:HSim B X){z:Blk}{o:Obj}(hd:X.h[s]?=some .dead)(hmen:s∉qci X.h)(hz:j5 (X.slot s z o) s z):HSim B (X.slot s z o):=by
 have hm:=qq2 hs (s:=s) (z:=z) (o:=o);have hsl:=qo hd;have himp:B.imps.length<=s:=by
  rcases qM1 s B.imps.length with h|h
  ·obtain⟨k,h1,h2⟩:=hs.impc s h;rw[hd] at h1;cases h1;cases h2
  ·exact h
 have hget:∀b k',(X.slot s z o).h[b]?=some k'->b≠s/\X.h[b]?=some k'\/b=s/\k'=z:=by
  intro b k' h;by_cases hb:b=s
  ·subst hb;have:(X.h.set b z)[b]?=some k':=h;rw[qM6 hsl] at this;exact .inr ⟨rfl,(qMx this).symm⟩
  ·have:(X.h.set s z)[b]?=some k':=h;rw[qLV (fun e=>hb e.symm)] at this;exact .inl ⟨hb,this⟩
 have hσ:∀b,b≠s->(X.slot s z o).σ b=X.σ b:=fun b hb=>by simp[Ctx.slot,hb]
 have hσn:(X.slot s z o).σ s=some X.w.heap.size:=by simp[Ctx.slot]
 have hold:∀n,n<X.w.heap.size->(X.slot s z o).w.heap[n]?=X.w.heap[n]?:=fun n hn=>zP _ _ hn;have hsize:X.w.heap.size<=(X.slot s z o).w.heap.size:=by show _<=(X.w.alloc o).heap.size;simp
 have hown:∀b n,(X.slot s z o).own b n->X.own b n\/b=s/\n=X.w.heap.size:=by
  intro b n ⟨h1,k',h2,h3⟩;rcases hget b k' h2 with⟨hb,h4⟩|⟨rfl,rfl⟩
  ·exact .inl ⟨by rw[<-hσ b hb];exact h1,k',h4,h3⟩
  ·rw[hσn] at h1;exact .inr ⟨rfl,(qMx h1).symm⟩
 constructor
 ·intro b k' h;rcases hget b k' h with⟨hb,h4⟩|⟨rfl,rfl⟩
  ·by_cases hdd:k'=.dead
   ·subst hdd;trivial
   ·have:=j5.move hm.toMove0 (b':=b) (hσ b hb) (fun n hn=>hold n (hs.lt h4 hdd hn)) (hs.blk b k' h4)
    rwa [Blk.ren_void k' (qpk hmen h4)] at this
  ·exact hz
 ·intro b b' n h h';rcases hown b n h with h1|⟨g1,g2⟩
  ·rcases hown b' n h' with h2|⟨g3,g4⟩
   ·exact hs.inj b b' n h1 h2
   ·exact absurd (Ctx.own.lt hs h1) (by omega)
  ·rcases hown b' _ h' with h2|⟨g3,_⟩
   ·exact absurd (Ctx.own.lt hs h2) (by omega)
   ·rw[g1,g3]
 ·intro b n h hM;rcases hown b n h with h1|⟨g1,g2⟩
  ·exact hs.notM b n h1 hM
  ·exact absurd (hs.ltM _ hM) (by omega)
 ·intro n h;have:=hs.ltM n h;omega
 ·exact hs.M0
 ·exact hs.newM
 ·exact hs.os
 ·exact hs.tape
 ·exact hs.output
 ·have:=hs.size;omega
 ·intro n hn hni;have:=hs.size;rw[hold _ (by omega)];exact hs.frame n hn hni
 ·intro b hb;rw[hσ b (by omega)];exact hs.imps b hb
 ·intro b hb;obtain⟨cs,h,hc⟩:=hs.impc b hb;exact⟨cs,by show (X.h.set s z)[b]?=_;rw[qLV (by omega)];exact h,hc⟩
 ·intro b n h hb;rcases hown b n h with h1|⟨g1,g2⟩
  ·exact hs.fresh b n h1 hb
  ·have:=hs.size;omega
 ·intro p hp;obtain⟨q1,q2,q3⟩:=hs.kept p hp;exact⟨(hold _ (qLY.1 q1).1).trans q1,q2,q3⟩
theorem qBO {P:Program}(hE:E.tok P)(hs:HSim B X){t:TypeId}{z:Blk}(hz:qej E t=some z)(hd:X.h[s]?=some .dead)(hmen:s∉qci X.h) :∃o:Obj,((do pure (.value (<-Instr.alloc t true (.tuple #[]))):Sem Next)).run P X.w=.ok (.value (.pointer (some ⟨X.w.heap.size,0,none⟩))) (X.w.alloc o)/\HSim B (X.slot s z o)/\Move X (X.slot s z o) (qbW s) /\Rep (X.slot s z o) (.ptr s 0) (.pointer (some ⟨X.w.heap.size,0,none⟩)):=by
 have hsl:=qo hd;have hptr:∀o,Rep (X.slot s z o) (.ptr s 0) (.pointer (some ⟨X.w.heap.size,0,none⟩)):=fun o=>.ptr _ _ _ (by simpa[Ctx.slot] using hsl) (by simp[Ctx.slot]);unfold qej at hz;split at hz
 ·rename_i o k n hb;split at hz
  ·cases hz;obtain⟨b1,b2,b3,b4,_⟩:=qhX hb;obtain⟨v,h1,h2,_⟩:=qdI hE (t:=t) (by omega) X.w;refine⟨.cells v.cells t,by simp[Instr.alloc,h1,q94],qyi hs hd hmen ?_,qq2 hs,hptr _⟩;exact⟨X.w.heap.size,v.cells,t,(E.ty t).zero.take o,by simp[Ctx.slot],zQ _ _,jp _ _,by rw[h2];exact qn4 hb,qqI _ _⟩
  ·cases hz
 ·split at hz
  ·rename_i hc;cases hz;obtain⟨v,h1,h2,_⟩:=qdI hE (t:=t) (by simpa using hc.2) X.w;refine⟨.cells v.cells t,by simp[Instr.alloc,h1,q94],qyi hs hd hmen ?_,qq2 hs,hptr _⟩;exact⟨X.w.heap.size,v.cells,t,by simp[Ctx.slot],zQ _ _,by rw[h2];exact jp _ _⟩
  ·cases hz
theorem qwi {P:Program}(hE:E.tok P){st:St}{a:Act}(hs:Sim E B X st a){o:Oper}{t:TypeId}(hop:o.op=.alloc t){z:Blk}(hz:qej E t=some z)(hd:st.h[s]?=some .dead)(hmen:s∉qci st.h) (ht:s∉AV.menL st.t) (hf:s∉qkP st.fs) {next:Act->World->Prop} {Q:Exit->Act->World->Prop}(hq:∀X' v,Sim E B X' { st with h:=st.h.set s z } a->Rep X' (.ptr s 0) v->next (a.put o.dst v) X'.w):o.wp P a X.w next Q:=by
 rw[<-hs.h] at hd hmen;obtain⟨ob,h1,h2,h3,h4⟩:=qBO hE hs.hs hz hd hmen;unfold Oper.wp;have hrun:(execOp a.eval o).run P X.w=.ok (.value (.pointer (some ⟨X.w.heap.size,0,none⟩))) (X.w.alloc ob):=by rw[<-h1];simp only[execOp,hop]
 rw[hrun];refine hq (X.slot s z ob) _ ⟨h2,?_,?_,?_,fun x hx=>?_,h3.kept▸hs.df,hs.ni,h3.y.trans hs.y,fun p hp=>h3.kept▸hs.pin p hp⟩ h4
 ·show X.h.set s z=st.h.set s z;rw[hs.h]
 ·have:=hs.t.ren h3.toMove0
  rwa [AV.renL_void _ ht] at this
 ·have:=hs.fs.ren h3.toMove0
  rwa [qml _ hf] at this
 ·obtain⟨⟨sh,l,i,off,he⟩,hr⟩:=hs.glob x hx;refine⟨⟨sh,l,i,off,he⟩,hr.move h3.M h3.w ?_⟩;have:=hr.1.ren h3.toMove0;rw[he] at this ⊢;exact this
theorem Sim.pad {st:St}{a:Act}(hs:Sim E B X st a):∃X',X'.w=X.w/\Sim E B X' { st with h:=st.h++[.dead] } a:=by
 have hw:=PushW.same X;have hs1:=HSim.push hs.hs (k:=.dead) hw trivial;have:=hs.ext (Ctx.push_ext hs.hs .dead hw) hs1;refine⟨X.pushW .dead none X.w,rfl,?_⟩;have e:(X.pushW .dead none X.w).h=st.h++[.dead]:=by rw[<-hs.h];rfl
 rw[e] at this;exact this
theorem Sim.padN{E:Env}{B:Base}{a:Act}:∀(n:Nat) {X:Ctx} {st:St},Sim E B X st a->∃X',X'.w=X.w/\Sim E B X' { st with h:=st.h++List.replicate n .dead } a
 | 0,X,st,hs=>⟨X,rfl,by simpa using hs⟩
 | n+1,X,st,hs=>by
  obtain⟨X1,h1,h2⟩:=hs.pad;obtain⟨X2,h3,h4⟩:=Sim.padN n h2;refine⟨X2,h3.trans h1,?_⟩;have e:st.h++[.dead]++List.replicate n .dead=st.h++List.replicate (n+1) .dead:=by simp[qNh]
  simp only at h4;rw[e] at h4;exact h4
end Go.Eng

namespace Go.Eng
variable {E:Env}{args:List AV}{b:Nat}{h:List Blk}{op:Op}
theorem stL{all:Array Oper}{V:Nat->AV}{T0:List AV}{L L':Nat->Bool}:∀n,(∀j,j<n->L j=L' j)->TLp (yl all) V T0 L n=TLp (yl all) V T0 L' n
 | 0,_=>rfl
 | n+1,h=>by
  simp only[TLp];rw[h n (qNI n),stL n fun j hj=>h j (by omega)]
theorem qwB {all:Array Oper}(hd:DrawOk all){listed:Array Bool}(hsz:listed.size=all.size)(h:Region.ready .any all listed=[]):∀i,i<all.size->listed.getD i false=true:=by
 intro i;induction i using Nat.strongRecOn with
 | _ i ih=>
  intro hi;cases hl:listed.getD i false with
  | true=>rfl
  | false=>
   have ho:all[i]?=some all[i]:=qNB hi;have:i∈Region.ready .any all listed:=by
    rw[mem_ready];refine⟨?_,all[i],ho,fun e he hb=>?_⟩
    ·have hi':i<listed.size:=by omega
     simpa[qNb,hi'] using hl
    ·have hlt:=hd.edge i _ ho e (by simpa using he) hb;exact ih e.on hlt (by omega)
   rw[h] at this;cases this
theorem qnc {all:Array Oper}{listed:Array Bool}{i:Nat}{o:Oper}(hsz:listed.size=all.size)(ho:all[i]?=some o)(hc:qnQ all fun j=>listed.getD j false)(hedge:∀e,e∈o.after.toList->Region.binds .any e=true->listed.getD e.on false=true):qnQ all fun j=>(listed.setIfInBounds i true).getD j false:=by
 have hi:i<listed.size:=by rw[hsz];exact(qLY.1 ho).1
 intro j oj hj hL e he hb;show (listed.setIfInBounds i true).getD e.on false=true;rw[q0g hi];split
 ·rfl
 ·by_cases hji:j=i
  ·subst hji;rw[ho] at hj;cases hj;exact hedge e he hb
  ·have hL':(listed.setIfInBounds i true).getD j false=true:=hL;rw[q0g hi,if_neg hji] at hL';exact hc j oj hj hL' e he hb
theorem q95 {b c:Nat}(hb:b≠c):(zC h c)[b]?=h[b]?:=by
 unfold zC;split
 ·rw[qLV (fun e=>hb e.symm)]
 ·rfl
theorem qe8{b:Nat}:∀(l:List Nat) (h:List Blk),b∉l->(qF h l)[b]?=h[b]?
 | [],_,_=>rfl
 | c::l,h,hb=>by
  simp only[qMb,not_or] at hb;simp only[qF];rw[qe8 l _ hb.2,q95 hb.1]
theorem qnb{b:Nat}:∀(l:List Nat) (h:List Blk),b∉l->(qaJ h l)[b]?=h[b]?
 | [],_,_=>rfl
 | c::l,h,hb=>by
  simp only[qMb,not_or] at hb;simp only[qaJ];split
  ·rw[qnb l _ hb.2,qLV (fun e=>hb.1 e.symm)]
  ·exact qnb l _ hb.2
theorem qre{b:Nat}:∀(l:List Nat) (h:List Blk) (ks:List Blk) (h':List Blk),q0B h l ks=some h'->b∉l->h'[b]?=h[b]?
 | [],h,ks,h',hp,_=>by cases ks<;>(simp only[q0B,qLS] at hp;rw[hp])
 | c::l,h,[],h',hp,_=>by simp[q0B] at hp
 | c::l,h,k::ks,h',hp,hb=>by
  simp only[qMb,not_or] at hb;simp only[q0B] at hp;split at hp
  ·cases hq:q0B h l ks with
   | none=>rw[hq] at hp;cases hp
   | some h2=>
    rw[hq] at hp;simp only[qMt,qLS] at hp;rw[<-hp,qLV (fun e=>hb.1 e.symm)];exact qre l h ks h2 hq hb.2
  ·cases hp
theorem qi3{b:Nat}:∀(l:List Nat),b∈qkd l->b∈l
 | [],h=>h
 | a::l,h=>by
  simp only[qkd] at h;split at h
  ·exact qMh _ (qi3 l h)
  ·rcases qMb.1 h with rfl|h
   ·exact qMf
   ·exact qMh _ (qi3 l h)
mutual
theorem qHl:∀(a:AV) (h h':List Blk),(a.lend h).men=(a.lend h').men
 | .vec b,h,h'=>by
  have:∀h,((AV.vec b).lend h).men=[]:=fun h=>by simp only[AV.lend];split<;>rfl
  rw[this,this]
 | .agg cs,h,h'=>by simp only[AV.lend,AV.men];exact qm8 cs h h'
 | .tuple cs,h,h'=>by simp only[AV.lend,AV.men];exact qm8 cs h h'
 | .undef,_,_|.yld,_,_|.skip,_,_|.blit _,_,_|.bool _,_,_|.ilit _ _,_,_|.int _ _,_,_|.str _,_,_|.nilp,_,_|.ptr _ _,_,_|.eptr _ _ _ _,_,_|.mptr _ _ _ _ _,_,_|.vptr _ _ _,_,_|.vsub _ _,_,_|.aptr _ _ _,_,_|.asub _ _ _ _ _,_,_|.bagg _ _ _ _,_,_|.nils,_,_|.imm _ _,_,_|.full _ _,_,_|.nilf,_,_|.fn _ _ _,_,_=>rfl
theorem qm8:∀(l:List AV) (h h':List Blk),AV.menL (AV.lendL h l)=AV.menL (AV.lendL h' l)
 | [],_,_=>rfl
 | a::l,h,h'=>by simp only[AV.lendL,AV.menL];rw[qHl a h h',qm8 l h h']
end
theorem qsx {G:z8}{st:St}{r:AV×St}(h:(q0G G args st).run=some r)(hb:b<st.h.length)(hw:b∉qnC st.h args):r.2.h[b]?=st.h[b]?:=by
 unfold q0G at h;unfold qnC at hw;simp only[qMi,not_or] at hw;obtain⟨⟨w1,w2⟩,w3⟩:=hw;have hpre:(va st.h args)[b]?=st.h[b]?:=by unfold va;simp only;rw[qnb _ _ w3,qe8 _ _ w2,qe8 _ _ w1]
 simp only at h;split at h
 ·cases h
 ·obtain⟨r0,h1,h2⟩:=bind_some h;split at h2
  ·cases h2
  ·rename_i hput;cases h2;have hfp:b∉qkd (AV.menL (AV.lendL (va st.h args) args)):=by intro hm;have hm:=qi3 _ hm;rw[qm8 args (va st.h args) (qF st.h (args.flatMap zM))] at hm;exact w3 hm
   have:=qre _ _ _ _ hput hfp;rw[hpre] at this;have hl:st.h[b]?=some st.h[b]:=qM0 hb;rw[hl] at this;rw[qM5 (qo this),this,hl]
theorem qvb {ev:Operand->AV}{q:FuncId×List AV}(h:j7 ev op=some q):qh4 op=true/\∃x args tys first caps,op=.call { callee:=.value x,args:=args,argTypes:=tys }/\ev x=.fn q.1 first caps/\q.2=first++args.toList.map ev++caps:=by
 unfold j7 at h;split at h
 ·rename_i x args tys;split at h
  ·rename_i f first caps hx
   cases h;exact⟨rfl,x,args,tys,first,caps,rfl,hx,rfl⟩
  ·cases h
 ·cases h
theorem brR {α:Type}{b:Bool}{t:Tree α}{r:α}(h:(Tree.br b t .fail).run=some r):b=true/\t.run=some r:=by
 cases b
 ·cases h
 ·exact⟨rfl,h⟩
theorem jF:∀(l:List Nat) (h:List Blk),(qF h l).length=h.length
 | [],_=>rfl
 | c::l,h=>by
  simp only[qF];rw[jF l];unfold zC;split<;>simp
theorem qvx (hb:b∈args.flatMap zM):b∈AV.menL args:=by obtain⟨a,ha,hb⟩:=qNQ.1 hb;exact qp1 ha (qu9 a b hb)
theorem qD0 {h h':List Blk}{s:Sh}{a:AV}(hv:qCP a=true):toU h s a=toU h' s a:=by cases a<;>first|(cases hv;done)|(cases s<;>rfl)
theorem qmD{h h':List Blk}:∀(sh:List Sh) (azz:List AV),azz.all qCP=true->qpj h sh azz=qpj h' sh azz
 | [],[],_=>rfl
 | [],_::_,_=>rfl
 | _::_,[],_=>rfl
 | s::sh,a::azz,hv=>by
  simp only[qNS,qM7] at hv;simp only[qpj];rw[qD0 (h':=h') hv.1,qmD (h':=h') sh azz hv.2]
theorem qGe {p:AV->Bool}{l:List AV}(h:l.all p=true)(n:Nat):(l.take n).all p=true:=by rw[qMq] at h ⊢;exact fun x hx=>h x (qO1 hx)
theorem qGb {p:AV->Bool}{l:List AV}(h:l.all p=true)(n:Nat):(l.drop n).all p=true:=by rw[qMq] at h ⊢;exact fun x hx=>h x (qO2 hx)
theorem qqg{h h':List Blk}{sh:List Sh}:∀(n:Nat) (cs:List AV),cs.all qCP=true->qig h sh n cs=qig h' sh n cs
 | 0,[],_=>rfl
 | 0,_::_,_=>rfl
 | n+1,cs,hv=>by
  simp only[qig];rw[qmD (h':=h') _ _ (qGe hv _),qqg (h':=h') n _ (qGb hv _)]
theorem qxa {t:TypeId}{p v:AV}{r:Res}(hr:(kl E h t p v).run=some r) :∃b x,p.men=[b]/\r=(.skip,h.set b x,none)/\∀h',h'[b]?=h[b]?->(kl E h' t p v).run=some (.skip,h'.set b x,none):=by
 have plain:∀{p:AV} {r:Res},(qeg E h t p v).run=some r->∃b x,p.men=[b]/\r=(.skip,h.set b x,none)/\∀h',h'[b]?=h[b]?->(qeg E h' t p v).run=some (.skip,h'.set b x,none):=by
  intro p r hr;unfold qeg at hr;simp only at hr;split at hr
  case isFalse=>cases hr
  rename_i hc;cases p<;>simp only at hr<;>first|(cases hr;done)|skip
  case ptr b off=>
   split at hr
   case h_2=>cases hr
   split at hr
   case isFalse=>cases hr
   rename_i cs hb hc2;cases hr;refine⟨b,_,rfl,rfl,fun h' e=>?_⟩;unfold qeg;simp only;rw[if_pos hc,e,hb];simp only;rw[if_pos hc2];rfl
  case vptr b i off=>
   split at hr
   case h_2=>cases hr
   split at hr
   case isFalse=>cases hr
   split at hr
   case h_2=>cases hr
   rename_i e0 sh l hb hm _ us hu;cases hr;refine⟨b,_,rfl,rfl,fun h' e=>?_⟩;unfold qeg;simp only;have hu':qpj h' ((sh.drop off).take v.cells.length) v.cells=some us:=by
    rw[<-hu];refine qmD _ _ (qMq.2 fun x hx=>?_);cases x<;>first|rfl|skip
    rename_i b';exact absurd (qp1 hx (b:=b') (by simp[AV.men])) (by rw[List.isEmpty_iff.1 hm];simp)
   rw[if_pos hc,e,hb];simp only;rw[if_pos hm,hu'];rfl
 unfold kl at hr;split at hr
 ·rename_i b off;split at hr
  ·rename_i cs k n l hb;unfold quq at hr;split at hr
   ·split at hr
    case isFalse=>cases hr
    rename_i hc;cases hr;refine⟨b,_,rfl,rfl,fun h' e=>?_⟩;unfold kl;simp only[e,hb];unfold quq;simp only;rw[if_pos hc];rfl
   ·rename_i hno;split at hr
    case isFalse=>cases hr
    rename_i hc;have fin:∀(x:Blk),(quq E h t b off cs k n l v).run=some (.skip,h.set b x,none)->(∀h':List Blk,(quq E h' t b off cs k n l v).run=some (.skip,h'.set b x,none))->∃b_1 x_1,(AV.ptr b off).men=[b_1]/\((AV.skip,h.set b x,none):Res)=(.skip,h.set b_1 x_1,none)/\∀h',h'[b_1]?=h[b_1]?->(kl E h' t (.ptr b off) v).run=some (.skip,h'.set b_1 x_1,none):=by intro x _ h2;refine⟨b,x,rfl,rfl,fun h' e=>?_⟩;unfold kl;simp only[e,hb];exact h2 h'
    split at hr
    ·rename_i hle;cases hr;refine⟨b,_,rfl,rfl,fun h' e=>?_⟩;unfold kl;simp only[e,hb];unfold quq;cases v<;>first|exact absurd rfl (hno _ _ _ _)|(simp only;rw[if_pos hc,hle];rfl)
    ·rename_i hle;split at hr
     case h_2=>cases hr
     split at hr
     case isFalse=>cases hr
     rename_i k' x hx hc2;cases hr;refine⟨b,_,rfl,rfl,fun h' e=>?_⟩;unfold kl;simp only[e,hb];unfold quq;cases v<;>first|exact absurd rfl (hno _ _ _ _)|(simp only;rw[if_pos hc,hle];simp only[hx];rw[if_pos hc2];rfl)
  ·rename_i hno;obtain⟨b',x,h1,h2,h3⟩:=plain hr;refine⟨b',x,h1,h2,fun h' e=>?_⟩;simp only[AV.men,qNk,and_true] at h1;subst h1;unfold kl;simp only;rw[e];split
   ·rename_i cs k n l hb;exact absurd hb (hno _ _ _ _)
   ·exact h3 h' e
 ·rename_i b o i;split at hr
  case h_2=>cases hr
  split at hr
  case h_2=>cases hr
  split at hr
  case isFalse=>cases hr
  rename_i cs k n l hb _ k' x hx hc;obtain⟨g1,g2⟩:=brR hr;cases g2;refine⟨b,_,rfl,rfl,fun h' e=>?_⟩;unfold kl;simp only[e,hb,hx];rw[if_pos hc];simp only[Tree.run,g1]
 ·rename_i hn1 hn2;obtain⟨b',x,h1,h2,h3⟩:=plain hr;refine⟨b',x,h1,h2,fun h' e=>?_⟩;unfold kl;split
  ·rename_i b off;exact absurd rfl (hn1 _ _)
  ·rename_i b o i;exact absurd rfl (hn2 _ _ _)
  ·exact h3 h' e
theorem qrF {h h':List Blk}{ev:Operand->AV}{v:AV}(hr:(qmX E h ev op).run=some (v,h'))(hb:b<h.length)(hw:b∉qyx h ev op):h'[b]?=h[b]?:=by
 unfold qmX at hr;unfold qyx at hw;cases hc:j7 ev op with
 | some q=>
  obtain⟨f,args⟩:=q;rw[hc] at hr hw;simp only at hr hw;cases hs:qfY E f with
  | none=>rw[hs] at hr;cases hr
  | some G=>
   rw[hs] at hr;obtain⟨r,h1,h2⟩:=bind_some hr;cases h2;exact qsx (st:={ t:=[],fs:=[],h:=h,pend:=none }) h1 hb hw
 | none=>
  rw[hc] at hr hw;simp only at hr hw;cases hst:qmx op with
  | true=>
   rw[hst] at hr;obtain⟨r,h1,h2⟩:=bind_some hr;cases op<;>first|(cases hst;done)|skip
   rename_i t x y;simp only at hw;obtain⟨b',z,q1,rfl,_⟩:=qxa (show (kl E h t (ev x) (ev y)).run=some r from h1);cases h2;rw[q1] at hw;exact qLV (fun e=>hw (by simp[e]))
  | false=>rw[hst] at hr;cases hr
theorem qsW {f g:Operand->AV}(hfg:∀x∈op.operands.toList,f x=g x):j7 f op=j7 g op:=by
 unfold j7;split
 ·rename_i x args tys;rw[hfg x (by simp[Op.operands,Call.operands])];have:args.toList.map f=args.toList.map g:=qN4 fun y hy=>hfg y (by simp only[Op.operands,Call.operands,qNU];exact qMC _ hy);rw[this]
 ·rfl
theorem qqy {f g:Operand->AV}(hfg:∀x∈op.operands.toList,f x=g x):ql7 E h f op=ql7 E h g op/\qmX E h f op=qmX E h g op:=by
 have hc:=qsW hfg;constructor
 ·unfold ql7;rw[hc]
 ·unfold qmX;rw[hc];cases j7 g op with
  | some q=>rfl
  | none=>
   simp only;cases hs:qmx op with
   | true=>
    cases op<;>first|(cases hs;done)|skip
    rename_i t x y;have e:qpc E h f (.store t x y)=qpc E h g (.store t x y):=by unfold qpc;simp only;rw[hfg x (by simp[Op.operands]),hfg y (by simp[Op.operands])]
    simp only[e]
   | false=>rfl
theorem qyu {P:Program}(hE:E.tok P)(hS:E.specs P){B:Base}{X:Ctx}{st:St}{a:Act}(hs:Sim E B X st a){o:Oper}{av:AV}{h':List Blk}(h:(qmX E st.h (E.opd st.t) o.op).run=some (av,h')) {next:Act->World->Prop} {Q:Exit->Act->World->Prop}(hq:∀X' v,Sim E B X' { st with h:=h' } a->Rep X' av v->next (a.put o.dst v) X'.w):o.wp P a X.w next Q/\∀c,o.op≠.defer c:=by
 unfold qmX at h;cases hcl:j7 (E.opd st.t) o.op with
 | some q=>
  obtain⟨f,aargs⟩:=q;rw[hcl] at h;simp only at h;obtain⟨_,x,args,tys,first,caps,hop,hx,ha⟩:=qvb hcl;simp only at hx ha;refine⟨?_,fun c hc=>by rw[hop] at hc;cases hc⟩;cases hsp:qfY E f with
  | none=>rw[hsp] at h;cases h
  | some G=>
   rw[hsp] at h;obtain⟨r,h1,h2⟩:=bind_some h;simp only[Tree.run,qLS,qMs] at h2;obtain⟨rfl,rfl⟩:=h2;unfold qfY at hsp;cases hf:E.spec.find? fun x=>x.1==f with
   | none=>rw[hf] at hsp;cases hsp
   | some G'=>
    rw[hf] at hsp;simp only[qMt,qLS] at hsp;subst hsp;have hG:=hS.sp G' (qMO hf);have hfe:G'.1=f:=by simpa using qN7 hf
    rw[hfe] at hG;have hv:=q7E hs x;rw[hx] at hv;generalize hev:a.eval x=vx at hv;cases hv with
    | fn _ _ _ vf vc q1 q2=>
     have hargs:=q3p hs args.toList;have hall:RepL X aargs (vf++args.toList.map a.eval++vc):=by rw[ha];exact(q1.append hargs).append q2
     have hcs:(q0G G'.2 aargs st).run=some (r.1,{ st with h:=r.2.h }):=by
      unfold q0G at h1 ⊢;simp only at h1 ⊢;split at h1
      ·cases h1
      ·obtain⟨r0,k1,k2⟩:=bind_some h1;rw[Tree.run_bind,k1];simp only[qMk];split at k2
       ·cases k2
       ·cases k2;rfl
     have g2:=q71 hG hs hall hcs;have g1:=hG.1 (vf++args.toList.map a.eval++vc).toArray;unfold Oper.wp;have hrun:(execOp a.eval o).run P X.w=.ok (.enter f (vf++args.toList.map a.eval++vc).toArray) X.w:=by
      simp only[execOp,hop,resolve,hev,Deferred.ofValue,qLX,qMp,qM4,invoke];have:vf.toArray++args.map a.eval++vc.toArray=(vf++args.toList.map a.eval++vc).toArray:=by apply qN8;simp
      rw[this];exact g1 X.w
     rw[hrun];refine g2.mono fun e w' ⟨v,X',e1,e2,e3,e4⟩=>?_;subst e1 e2;exact hq X' _ e4 e3
 | none=>
  rw[hcl] at h;simp only at h;have hop:(qpc E st.h (E.opd st.t) o.op).run=some (av,h',none)/\∀c,o.op≠.defer c:=by
   cases hst:qmx o.op with
   | true=>
    rw[hst] at h;obtain⟨r,h1,h3⟩:=bind_some h;refine⟨?_,fun c hc=>by rw[hc] at hst;cases hst⟩;split at h3
    ·rename_i hn;simp only[Tree.run,qLS,qMs] at h3;rw[h1];obtain⟨r1,r2,r3⟩:=r;simp only at hn h3;rw[hn,h3.1,h3.2]
    ·cases h3
   | false=>rw[hst] at h;cases h
  refine⟨?_,hop.2⟩;obtain⟨nx,v,X',g1,g2,g3,g4,g5⟩:=qlD hE hs hop.1;have hs2:Sim E B X' { st with h:=h' } a:=by have:=hs.ext g5.2 g4;rw[g5.1] at this;exact this
  unfold Oper.wp;rw[g1];rcases g2 with rfl|⟨rfl,rfl⟩
  ·exact hq X' _ hs2 g3
  ·exact hq X' _ hs2 g3
mutual
theorem qH2:∀(a:AV) (h:List Blk) (b:Nat),b∈(a.lend h).men->b∈a.men
 | .vec c,h,b,hb=>by
  simp only[AV.lend] at hb;split at hb<;>cases hb
 | .agg cs,h,b,hb=>by simp only[AV.lend,AV.men] at hb ⊢;exact qde cs h b hb
 | .tuple cs,h,b,hb=>by simp only[AV.lend,AV.men] at hb ⊢;exact qde cs h b hb
 | .undef,_,_,hb|.yld,_,_,hb|.skip,_,_,hb|.blit _,_,_,hb|.bool _,_,_,hb|.ilit _ _,_,_,hb|.int _ _,_,_,hb|.str _,_,_,hb|.nilp,_,_,hb|.ptr _ _,_,_,hb|.eptr _ _ _ _,_,_,hb|.mptr _ _ _ _ _,_,_,hb|.vptr _ _ _,_,_,hb|.vsub _ _,_,_,hb|.aptr _ _ _,_,_,hb|.asub _ _ _ _ _,_,_,hb|.bagg _ _ _ _,_,_,hb|.nils,_,_,hb|.imm _ _,_,_,hb|.nilf,_,_,hb|.fn _ _ _,_,_,hb=>hb
theorem qde:∀(l:List AV) (h:List Blk) (b:Nat),b∈AV.menL (AV.lendL h l)->b∈AV.menL l
 | [],_,_,hb=>hb
 | a::l,h,b,hb=>by
  simp only[AV.lendL,AV.menL,qMi] at hb ⊢;exact hb.imp (qH2 a h b) (qde l h b)
end
theorem qhk {h h':List Blk}{s c:Nat}{k:Blk}(hl:h'.length=h.length)(hc:c≠s->h'[c]?=h[c]?):(h'.set s k)[c]?=(h.set s k)[c]?:=by
 by_cases e:c=s
 ·subst e;simp only[List.getElem?_set,if_true,hl]
 ·rw[qLV (fun e'=>e e'.symm),qLV (fun e'=>e e'.symm)];exact hc e
theorem qCm {h h':List Blk}{b c:Nat}(hl:h'.length=h.length)(hc:h'[c]?=h[c]?):(zC h' b)[c]?=(zC h b)[c]?:=by
 by_cases e:c=b
 ·subst e;unfold zC;rw[hc];split
  ·exact qhk hl fun h=>absurd rfl h
  ·exact hc
 ·rw[q95 e,q95 e,hc]
theorem qhG{c:Nat}:∀(l:List Nat) (h h':List Blk),h'.length=h.length->h'[c]?=h[c]?->(qF h' l)[c]?=(qF h l)[c]?
 | [],_,_,_,hc=>hc
 | b::l,h,h',hl,hc=>qhG l _ _ (by have:=jF [b] h;have:=jF [b] h';simp only[qF] at *;omega) (qCm hl hc)
theorem qzS{p q:Nat->Bool}:∀{l:List Nat},(∀b,b∈l->p b=q b)->l.all p=l.all q
 | [],_=>rfl
 | a::l,h=>by simp only[qNS];rw[h a qMf,qzS fun b hb=>h b (qMh _ hb)]
theorem qm3{b:Nat}{cs:List AV}:∀(l:List Nat) (h:List Blk),(qF h l)[b]?=some (.cells cs)->h[b]?=some (.cells cs)
 | [],_,hc=>hc
 | a::l,h,hc=>by
  have:=qm3 l _ hc;by_cases e:b=a
  ·subst e;unfold zC at this;split at this
   ·rename_i hk;rw[qM6 (qo hk)] at this;cases this
   ·exact this
  ·rwa [q95 e] at this
theorem qlN{h:List Blk}{b c:Nat}{k:Blk}(hk:h[b]?=some k)(hc:c∈k.menB):∀(l:List Nat),b∈l->c∈qzc h l
 | a::l,hb=>by
  simp only[qzc,qMi];rcases qMb.1 hb with rfl|hb
  ·rw[hk];exact .inl hc
  ·exact .inr (qlN hk hc l hb)
theorem qqZ{h h':List Blk}:∀(l:List Nat),(∀b,b∈l->h'[b]?=h[b]?)->q6R h' l=q6R h l
 | [],_=>rfl
 | b::l,H=>by
  simp only[q6R];rw[H b qMf,qqZ l fun c hc=>H c (qMh _ hc)]
theorem qqh{h h':List Blk}:∀(l:List Nat),(∀b,b∈l->h'[b]?=h[b]?)->q5a h' l=q5a h l
 | [],_=>rfl
 | b::l,H=>by
  simp only[q5a];rw[H b qMf,qqh l fun c hc=>H c (qMh _ hc)]
theorem qtF{h h':List Blk}(hl:h'.length=h.length):∀(l:List Nat) (ks g:List Blk),q0B h l ks=some g->g.length=h.length/\∃g':List Blk,q0B h' l ks=some g'/\g'.length=h.length/\∀c:Nat,h'[c]?=h[c]?->g'[c]?=g[c]?
 | [],_,g,hg=>by cases hg;exact⟨rfl,h',rfl,hl,fun _ h=>h⟩
 | b::l,[],g,hg=>by cases hg
 | b::l,k::ks,g,hg=>by
  simp only[q0B] at hg ⊢;split at hg
  case isFalse=>cases hg
  rename_i hk;cases hp:q0B h l ks with
  | none=>rw[hp] at hg;cases hg
  | some g0=>
   rw[hp] at hg;simp only[qMt,qLS] at hg;subst hg;obtain⟨q0,g',q1,q2,q3⟩:=qtF hl l ks g0 hp;refine⟨by simp[q0],g'.set b k,by rw[if_pos hk,q1];rfl,by simp[q2],fun c hc=>qhk (by rw[q0,q2]) fun _=>q3 c hc⟩
theorem qi6:∀(l:List Nat) (h:List Blk),(qaJ h l).length=h.length
 | [],_=>rfl
 | b::l,h=>by
  simp only[qaJ];split
  ·rw[qi6 l];simp
  ·rw[qi6 l]
theorem qlq{R:List Nat}:∀(l:List Nat) (h h':List Blk),h'.length=h.length->(∀b,b∈R->h'[b]?=h[b]?)->(∀b,b∈l->b∈R/\∀cs,h[b]?=some (.cells cs)->∀c,c∈AV.menL cs->c∈R) ->
  ∀b,b∈R->(qaJ h' l)[b]?=(qaJ h l)[b]?
 | [],_,_,_,H,_=>H
 | a::l,h,h',hl,H,hR=>by
  obtain⟨ha,hcs⟩:=hR a qMf;have hR':=fun b hb=>hR b (qMh _ hb);simp only[qaJ];rw[H a ha];cases hk:h[a]? with
  | none=>exact qlq l h h' hl H hR'
  | some k=>
   cases k<;>simp only<;>first|exact qlq l h h' hl H hR'|skip
   rename_i cs;have hm:=hcs cs hk;rw[q16 cs fun c hc=>H c (hm c hc)];refine qlq l _ _ (by simp[hl]) (fun b hb=>qhk hl fun _=>H b hb) fun b hb=>⟨(hR' b hb).1,fun cs' hcs' c hc=>?_⟩;by_cases e:b=a
   ·subst e;rw[qM6 (qo hk)] at hcs';cases hcs';exact hm c (qde cs h c hc)
   ·rw[qLV (fun e'=>e e'.symm)] at hcs';exact(hR' b hb).2 cs' hcs' c hc
theorem qzo {G:z8}{h h':List Blk}{R:List Nat}(hl:h'.length=h.length)(H:∀b,b∈R->h'[b]?=h[b]?)(h1:∀b,b∈AV.menL args->b∈R)(h2:∀b,b∈qzc (qF h (args.flatMap zM)) (AV.menL (AV.lendL (qF h (args.flatMap zM)) args))->b∈R) {r:AV×St} (hr:(q0G G args { t:=[],fs:=[],h:=h,pend:=none }).run=some r) :qnC h' args=qnC h args/\∃g',(q0G G args { t:=[],fs:=[],h:=h',pend:=none }).run=some (r.1,{ t:=[],fs:=[],h:=g',pend:=none })/\g'.length=r.2.h.length/\∀b,b∈R->b<h.length->g'[b]?=r.2.h[b]?:=by
 have l1:(qF h' (args.flatMap zM)).length=(qF h (args.flatMap zM)).length:=by rw[jF,jF,hl]
 have H1:∀b,b∈R->(qF h' (args.flatMap zM))[b]?=(qF h (args.flatMap zM))[b]?:=fun b hb=>qhG _ _ _ hl (H b hb);have e1:AV.lendL (qF h' (args.flatMap zM)) args=AV.lendL (qF h (args.flatMap zM)) args:=q16 args fun b hb=>H1 b (h1 b hb);have hfp:∀b,b∈AV.menL (AV.lendL (qF h (args.flatMap zM)) args)->b∈R:=fun b hb=>h1 b (qde args _ b hb);have e2:=qqZ (h:=qF h (args.flatMap zM)) (h':=qF h' (args.flatMap zM)) _ fun b hb=>H1 b (hfp b hb);have hw:qnC h' args=qnC h args:=by unfold qnC;simp only[e1,e2]
 have Hp:∀b,b∈R->(va h' args)[b]?=(va h args)[b]?:=by unfold va;simp only[e1,e2];refine qlq _ _ _ (by simp only[jF,hl]) (fun b hb=>qhG _ _ _ l1 (H1 b hb)) fun b hb=>⟨hfp b hb,fun cs hcs c hc=>?_⟩;refine h2 c (qlN (k:=.cells cs) (b:=b) ?_ hc _ hb);exact qm3 _ _ hcs
 have lp:(va h' args).length=(va h args).length:=by unfold va;simp only[qi6,jF,hl]
 refine⟨hw,?_⟩;unfold q0G at hr ⊢;simp only at hr ⊢;have e3:AV.lendL (va h' args) args=AV.lendL (va h args) args:=q16 args fun b hb=>Hp b (h1 b hb);have hfp2:∀b,b∈qkd (AV.menL (AV.lendL (va h args) args))->b∈R:=fun b hb=>h1 b (qde args _ b (qi3 _ hb));rw[e3,qqh _ fun b hb=>Hp b (hfp2 b hb),lp];split at hr
 ·cases hr
 ·obtain⟨r0,k1,k2⟩:=bind_some hr;split at k2
  ·cases k2
  ·rename_i g hput;cases k2;obtain⟨q0,g',q1,q2,q3⟩:=qtF lp _ _ _ hput;refine⟨g'++(r0.2.drop (qkd (AV.menL (AV.lendL (va h args) args))).length).map (Blk.ren (qnH (qkd (AV.menL (AV.lendL (va h args) args))) (va h args).length)),?_,?_,fun b hb hbl=>?_⟩
   ·rw[Tree.run_bind,k1];simp only[qMk,q1];rfl
   ·simp[q2,q0]
   ·have hbg:b<g.length:=by rw[q0];unfold va;simp only[qi6,jF];exact hbl
    rw[qM5 (by rw[q2,<-q0];exact hbg),qM5 hbg];exact q3 b (Hp b hb)
theorem qyX {h h' g:List Blk}{ev:Operand->AV}{v:AV}(hr:(qmX E h ev op).run=some (v,g))(hl:h'.length=h.length)(H:∀b,b∈qDu h ev op++qyx h ev op->h'[b]?=h[b]?)(hg:g.length=h.length) :∃g',(qmX E h' ev op).run=some (v,g')/\g'.length=h'.length/\(∀b,b∈qyx h ev op->g'[b]?=g[b]?)/\∀b,b∉qyx h ev op->g'[b]?=h'[b]?:=by
 have out:∀{h g:List Blk},(qmX E h ev op).run=some (v,g)->g.length=h.length->∀b,b∉qyx h ev op->g[b]?=h[b]?:=by
  intro h g hr hg b hb;rcases qM1 b h.length with hlt|hge
  ·exact qrF hr hlt hb
  ·rw[qMg hge,qMg (by omega)]
 suffices hs:qyx h' ev op=qyx h ev op/\∃g',(qmX E h' ev op).run=some (v,g')/\g'.length=g.length/\∀b,b∈qyx h ev op->g'[b]?=g[b]? by obtain⟨e,g',q1,q2,q3⟩:=hs;refine⟨g',q1,by omega,q3,fun b hb=>out q1 (by omega) b (by rw[e];exact hb)⟩
 unfold qmX at hr ⊢;unfold qDu qyx at H;unfold qyx;cases hc:j7 ev op with
 | some q=>
  obtain⟨f,args⟩:=q;rw[hc] at hr H;simp only at hr H ⊢;cases hsp:qfY E f with
  | none=>rw[hsp] at hr;cases hr
  | some G=>
   rw[hsp] at hr;simp only at hr ⊢;obtain⟨r,k1,k2⟩:=bind_some hr;simp only[Tree.run,qLS,qMs] at k2;obtain⟨rfl,rfl⟩:=k2;obtain⟨e,g',q1,q2,q3⟩:=qzo hl H (fun b hb=>qMN _ (qMN _ hb)) (fun b hb=>qMN _ (qMC _ hb)) k1;refine⟨e,g',by rw[Tree.run_bind,q1];rfl,q2,fun b hb=>?_⟩;rcases qM1 b h.length with hlt|hge
   ·exact q3 b (qMC _ hb) hlt
   ·rw[qMg (by omega),qMg (by omega)]
 | none=>
  rw[hc] at hr H;simp only at hr H ⊢;cases hst:qmx op with
  | false=>rw[hst] at hr;cases hr
  | true=>
   rw[hst] at hr;simp only at hr ⊢;obtain⟨r,k1,k2⟩:=bind_some hr;cases op<;>first|(cases hst;done)|skip
   rename_i t x y;obtain⟨b',z,q1,rfl,q3⟩:=qxa (show (kl E h t (ev x) (ev y)).run=some r from k1);simp only[Tree.run,qLS,qMs] at k2;obtain⟨rfl,rfl⟩:=k2;refine⟨trivial,h'.set b' z,?_,by simp[hl],fun b hb=>qhk hl fun _=>H b (qMC _ hb)⟩;rw[Tree.run_bind];have:=q3 h' (H b' (qMC _ (by simp only;rw[q1];exact List.mem_singleton_self _)));unfold qpc;simp only;rw[this];rfl
theorem qHh {h h':List Blk}{ev:Operand->AV}(he:ql7 E h ev op=true)(H:∀b,b∈qDu h ev op++qyx h ev op->h'[b]?=h[b]?):ql7 E h' ev op=true:=by
 unfold ql7 at *;unfold qDu at H;cases hv:qh4 op with
 | false=>rw[hv] at he;exact he
 | true=>
  rw[hv] at he;simp only at he ⊢;cases hc:j7 ev op with
  | none=>rw[hc] at he;cases he
  | some q=>
   obtain⟨f,args⟩:=q;rw[hc] at he H;simp only at he H ⊢;have hm:∀b,b∈AV.menL args->h'[b]?=h[b]?:=fun b hb=>H b (qMN _ (qMN _ hb));rw[q16 args hm];have:(args.flatMap zM).all (qk5 h')=(args.flatMap zM).all (qk5 h):=qzS fun b hb=>by unfold qk5;rw[hm b (qvx hb)]
   rw[this];exact he
end Go.Eng

namespace Go.Eng
theorem qxM{s:Nat}:∀(l:List AV) (i:Nat) (v:AV),s∉AV.menL l->s∉v.men->s∉AV.menL (l.set i v)
 | [],_,_,h,_=>by simpa using h
 | a::l,0,v,h,hv=>by
  simp only[AV.menL,qMi,not_or] at h;simp only[qM8,AV.menL,qMi,not_or];exact⟨hv,h.2⟩
 | a::l,i+1,v,h,hv=>by
  simp only[AV.menL,qMi,not_or] at h;simp only[qMa,AV.menL,qMi,not_or];exact⟨h.1,qxM l i v h.2 hv⟩
theorem qFm{dst:Nat->Option Tmp}{V:Nat->AV}{T0:List AV}{L:Nat->Bool}{s:Nat}(h0:s∉AV.menL T0):∀n,(∀j,j<n->L j=true->s∉(V j).men)->s∉AV.menL (TLp dst V T0 L n)
 | 0,_=>h0
 | n+1,h=>by
  have ih:=qFm (dst:=dst) (V:=V) (L:=L) h0 n fun j hj=>h j (by omega);simp only[TLp];split
  ·rename_i hl;cases hd:dst n with
   | none=>exact ih
   | some d=>exact qxM _ _ _ ih (h n (qNI n) hl)
  ·exact ih
theorem qDb{all:Array Oper}{k:Nat}{v:AV}{s:Nat}(h:s∉v.men):s∉(qz3 all k v).men:=by
 unfold qz3;split
 ·split
  ·simp[AV.men]
  ·exact h
 ·exact h
theorem qvR{n:Nat}(i:Nat):(Array.replicate n false).getD i false=false:=by rcases qM1 i n with h|h<;>simp[h]
theorem qHt(listed:Array Bool):∀n,unl listed n<=n
 | 0=>qLU _
 | n+1=>by simp only[unl];have:=qHt listed n;split<;>omega
theorem qGM(all:Array Oper):uN all<=all.size:=by
 unfold uN;simp only;cases hf:(List.range all.toList.length).find? _ with
 | none=>simp
 | some m=>
  have:=qMO hf;simp at this;simp;omega
theorem qmJ(all:Array Oper){i j:Nat}(hj:uN all<=j)(hjn:j<all.size)(hij:i<j):((qfL all.toList).getD j 0).testBit i=true:=by
 unfold uN at hj;simp only at hj;cases hf:(List.range all.toList.length).find? (fun m=>(List.range all.toList.length).all fun j=>decide (j<m)||(List.range j).all fun i=>((qfL all.toList).getD j 0).testBit i) with
 | none=>rw[hf] at hj;simp at hj;omega
 | some m=>
  rw[hf] at hj;simp only[qMX] at hj;have h:=qN7 hf;rw[qMq] at h;have h2:=h j (qMP.2 (by simpa using hjn));simp only[qNj,decide_eq_true_eq,qMq,qMP] at h2;rcases h2 with h2|h2
  ·omega
  ·exact h2 i hij
section
variable {E:Env} {P:Program} {B:Base} {all:Array Oper} {Q:Exit->Act->World->Prop} {callH:q7F} {n0:Nat}
theorem qDE(hE:E.tok P)(hcH:CallOK E P callH B)(hd:DrawOk all){st':St}(hq:∀X' a',Sim E B X' st' a'->Q .normal a' X'.w):∀(l:List Oper) (i:Nat),all.toList.drop i=l->uN all<=i ->∀(fuel:Nat) (listed:Array Bool) (X:Ctx) (a:Act) (st:St),listed.size=all.size->(∀j,j<i->j<all.size->listed.getD j false=true)->(∀j,i<=j->listed.getD j false=false)->unl listed all.size<=fuel ->Sim E B X st a->(qjY E callH all i l st).run=some st'->wpAnyIn (q3J B.ro) n0 P .any all Q fuel listed a X.w:=by
 intro l;induction l with
 | nil=>
  intro i hl hm fuel listed X a st hsz hlo hhi hun hs h;simp only[qjY,Tree.run,qLS] at h;subst h;have hi:all.size<=i:=by simpa using List.drop_eq_nil_iff.1 hl
  have hr:Region.ready .any all listed=[]:=by
   apply List.eq_nil_iff_forall_not_mem.2;intro j hj;rw[mem_ready] at hj;obtain⟨q1,o',q2,_⟩:=hj;have hj':=(qLY.1 q2).1;have hjt:=hlo j (by omega) hj';have hj2:j<listed.size:=by omega
   rw[qNb,qNB hj2] at hjt q1;simp only[qMX] at hjt q1;rw[hjt] at q1;cases q1
  cases fuel with
  | zero=>exact⟨hr,hq X a hs⟩
  | succ fuel=>exact⟨fun _=>hq X a hs,fun j hj=>by rw[hr] at hj;cases hj⟩
 | cons o rest ih=>
  intro i hl hm fuel listed X a st hsz hlo hhi hun hs h;have hin:i<all.size:=by
   rcases qM1 i all.size with h1|h1
   ·exact h1
   ·rw[qNA (by simpa using h1)] at hl;cases hl
  have ho:all[i]?=some o:=by have:=qMY (xs:=all.toList) (i:=i) (j:=0);rw[hl] at this;simpa using this.symm
  have hrest:all.toList.drop (i+1)=rest:=by rw[<-List.drop_drop,hl];rfl
  have hil:i<listed.size:=by omega
  have hcl:qnQ all fun j=>listed.getD j false:=by
   intro j oj hj hL e he hb;have hj':=(qLY.1 hj).1;have hji:j<i:=by
    rcases qM1 j i with h1|h1
    ·exact h1
    ·have hL':listed.getD j false=true:=hL;rw[hhi j h1] at hL';cases hL'
   have:=hd.edge j oj hj e he hb;exact hlo e.on (by omega) (by omega)
  have hpos:0<unl listed all.size:=by
   rcases qN0 (unl listed all.size) with h0|h0
   ·have:=qvM h0 i hin;rw[hhi i (qLU _)] at this;cases this
   ·exact h0
  obtain⟨fuel,rfl⟩:∃f,fuel=f+1:=⟨fuel-1,by omega⟩;have hLi:=hhi i (qLU _);have hone:∀j,j∈Region.ready .any all listed->j=i:=by
   intro j hj;rw[mem_ready] at hj;obtain⟨q1,oj,q2,gedge⟩:=hj;have hj':=(qLY.1 q2).1;have hj2:j<listed.size:=by omega
   have hLj:listed.getD j false=false:=by simpa[qNb,hj2] using q1
   rcases Nat.lt_trichotomy j i with h1|h1|h1
   ·rw[hlo j h1 hj'] at hLj;cases hLj
   ·exact h1
   ·have hedge':∀e,e∈oj.after.toList->Region.binds .any e=true->listed.getD e.on false=true:=fun e he hb=>gedge e (by simpa using he) hb;have hcl':=qnc hsz q2 hcl hedge';have hb':=qmJ all (by omega) hj' h1;have:=qts hd hcl' j i (by show (listed.setIfInBounds j true).getD j false=true;rw[q0g hj2,if_pos rfl]) hb';have h':(listed.setIfInBounds j true).getD i false=true:=this;rw[q0g hj2,if_neg (by omega),hLi] at h';cases h'
  refine⟨fun hr=>?_,fun j hj=>?_⟩
  ·
   exfalso;have:=qwB hd hsz hr i hin;rw[hLi] at this;cases this
  ·obtain rfl:=hone j hj;have hgo:∀(X'':Ctx) (a'':Act) (s'':St),Sim E B X'' s'' a''->(qjY E callH all (j+1) rest s'').run=some st'->wpAnyIn (q3J B.ro) n0 P .any all Q fuel (listed.setIfInBounds j true) a'' X''.w:=by
    intro X'' a'' s'' hs'' h'';refine ih (j+1) hrest (by omega) fuel _ X'' a'' s'' (by simp[hsz]) (fun k hk hk2=>?_) (fun k hk=>?_) ?_ hs'' h''
    ·rw[q0g hil];split
     ·rfl
     ·exact hlo k (by omega) hk2
    ·rw[q0g hil,if_neg (by omega)];exact hhi k (by omega)
    ·have:=(qz5 hil hLi all.size).2 hin;omega
   simp only[qjY] at h;unfold wpOpIn;rw[ho];simp only;cases hwa:q58 all o st.t with
   | none=>rw[hwa] at h;cases h
   | some b=>
    rw[hwa] at h;rw[q8z hs.t hwa];cases b with
    | true=>
     simp only[if_true];obtain⟨s1,k1,k2⟩:=bind_some h;obtain⟨s2,k3,k4⟩:=bind_some k2;exact qnA hE hcH hs k1 fun X'' a'' hs''=>hgo X'' a'' s2 (qqv hs'' k3) k4
    | false=>
     simp only[qMv,if_false];exact⟨fun _ _=>trivial,hgo X _ (qDl o st) (hs.put (av:=.skip) .skip o.dst) h⟩
end
theorem qAR(h h':List Blk):qci (h++h')=qci h++qci h':=by
 induction h with
 | nil=>rfl
 | cons k h ih=>simp[qci,ih]
theorem qCq{zs:List Blk}(h:∀z,z∈zs->z.menB=[]){s:Nat}:s∉qci zs:=by
 induction zs with
 | nil=>intro h;cases h
 | cons z zs ih=>
  simp only[qci,qMi,not_or];exact⟨by rw[h z qMf];simp,ih fun z hz=>h z (qMh _ hz)⟩
end Go.Eng

namespace Go.Eng
variable {B:Base}{E:Env}{P:Program}{X:Ctx}{a:Act}{args:List AV}{b:Nat}{e:TypeId}{f:FuncId}{h:List Blk}{k:Nat}{o:Oper}{op:Op}{s:Nat}{sh:List Sh}{st:St}
theorem HSim.renum {X X':Ctx}{f:Nat->Option Nat}(hs:HSim B X)(hm:Move X X' f)(hw:X'.w=X.w)(hM:X'.M=X.M)(g:Nat->Nat)(hget:∀b k,X'.h[b]?=some k->k=.dead\/(X.h[g b]?=some k/\X'.σ b=X.σ (g b)/\k.ren f=k))(hinj:∀b b',g b=g b'->b=b'\/X'.h[b]?=some .dead\/X'.h[b']?=some .dead)(hi:∀b,b<B.imps.length->X'.σ b=X.σ b/\X'.h[b]?=X.h[b]?) (hg:∀b,B.imps.length<=b->B.imps.length<=g b):HSim B X':=by
 have hown:∀b n,X'.own b n->X.own (g b) n:=by
  intro b n ⟨h1,k,h2,h3⟩;rcases hget b k h2 with rfl|⟨q1,q2,_⟩
  ·cases h3
  ·exact⟨q2▸h1,k,q1,h3⟩
 constructor
 ·intro b k h;rcases hget b k h with rfl|⟨q1,q2,q3⟩
  ·trivial
  ·by_cases hd:k=.dead
   ·subst hd;trivial
   ·have:=j5.move hm.toMove0 (b':=b) q2 (fun n _=>by rw[hw]) (hs.blk (g b) k q1)
    rwa [q3] at this
 ·intro b b' n h h';rcases hinj b b' (hs.inj _ _ n (hown b n h) (hown b' n h')) with e|e|e
  ·exact e
  ·obtain⟨_,k,q1,q2⟩:=h;rw[e] at q1;cases q1;cases q2
  ·obtain⟨_,k,q1,q2⟩:=h';rw[e] at q1;cases q1;cases q2
 ·intro b n h;rw[hM];exact hs.notM _ n (hown b n h)
 ·intro n h;rw[hM] at h;rw[hw];exact hs.ltM n h
 ·intro n h;rw[hM];exact hs.M0 n h
 ·intro n h;rw[hM] at h;exact hs.newM n h
 ·rw[hw];exact hs.os
 ·rw[hw];exact hs.tape
 ·rw[hw];exact hs.output
 ·rw[hw];exact hs.size
 ·intro n h1 h2;rw[hw];exact hs.frame n h1 h2
 ·intro b hb;rw[(hi b hb).1];exact hs.imps b hb
 ·intro b hb;rw[(hi b hb).2];exact hs.impc b hb
 ·intro b n h hb;exact hs.fresh _ n (hown b n h) (hg b hb)
 ·intro p hp;rw[hm.kept] at hp;rw[hw];exact hs.kept p hp
theorem not_imp (hs:HSim B X){k:Blk}(h:X.h[b]?=some k)(hk:k.solid=false):B.imps.length<=b:=by
 rcases qM1 b B.imps.length with hb|hb
 ·obtain⟨k',h1,h2⟩:=hs.impc b hb;rw[h] at h1;cases h1;rw[hk] at h2;cases h2
 ·exact hb
def Ctx.alias(X:Ctx)(b s:Nat)(k:Blk):Ctx:={ σ:=fun x=>if x=s then X.σ b else X.σ x,h:=(X.h.set b .dead).set s k,w:=X.w,M:=X.M,kept:=X.kept,y:=X.y }
theorem qy8 {b s:Nat}{k:Blk}(hb:b<X.h.length)(hsl:s<X.h.length)(x:Nat):(X.alias b s k).h[x]?=if x=s then some k else if x=b then some .dead else X.h[x]?:=by
 show ((X.h.set b .dead).set s k)[x]?=_;by_cases h1:x=s
 ·subst h1;rw[if_pos rfl,qM6 (by simpa using hsl)]
 ·rw[if_neg h1,qLV (fun e=>h1 e.symm)];by_cases h2:x=b
  ·subst h2;rw[if_pos rfl,qM6 hb]
  ·rw[if_neg h2,qLV (fun e=>h2 e.symm)]
theorem qtW (hs:HSim B X){b s:Nat}{l:R}(hb:X.h[b]?=some (.vec e sh l))(hd:X.h[s]?=some .dead)(hmen:s∉qci X.h) :HSim B (X.alias b s (.vec e sh l))/\Move X (X.alias b s (.vec e sh l)) (qbW s)/\∀v,Rep X (.vec b) v->Rep (X.alias b s (.vec e sh l)) (.vec s) v:=by
 have hbl:=qo hb;have hsl:=qo hd;have hbs:b≠s:=fun he=>by rw[he,hd] at hb;cases hb
 have hget:=fun x=>qy8 (X:=X) (k:=.vec e sh l) hbl hsl x;have hlen:(X.alias b s (.vec e sh l)).h.length=X.h.length:=by simp[Ctx.alias]
 have hm:Move X (X.alias b s (.vec e sh l)) (qbW s):=by
  refine Move.of (fun _ h=>h) (fun _ _=>rfl) (fun b1 b2 hb1 h=>?_);have hne:b1≠s:=by intro e;subst e;simp[qbW] at h
  have:b2=b1:=by simp[qbW,hne] at h;exact h.symm
  subst this;refine⟨by rw[hlen];exact hb1,by simp[Ctx.alias,hne],fun sh1 m ⟨e1,l1,h1,h2⟩=>?_,fun _ _ _ n _ c T fr hc=>⟨c,T,fr,hc,rfl⟩⟩;rw[hget,if_neg hne] at h1;by_cases h3:b2=b
  ·rw[if_pos h3] at h1;rcases h1 with h1|h1<;>cases h1
  ·rw[if_neg h3] at h1;exact⟨e1,l1,h1,h2⟩
 refine⟨hs.renum hm rfl rfl (fun x=>if x=s then b else x) (fun x k h=>?_) (fun x x' h=>?_) (fun x hx=>?_) (fun x hx=>?_),hm,fun v hv=>?_⟩
 ·rw[hget] at h;by_cases h1:x=s
  ·rw[if_pos h1] at h;cases h;right;rw[if_pos h1];exact⟨hb,by simp[Ctx.alias,h1],rfl⟩
  ·rw[if_neg h1] at h;by_cases h2:x=b
   ·rw[if_pos h2] at h;cases h;exact .inl rfl
   ·rw[if_neg h2] at h;right;rw[if_neg h1];exact⟨h,by simp[Ctx.alias,h1],Blk.ren_void k (qpk hmen h)⟩
 ·by_cases h1:x=s
  ·by_cases h2:x'=s
   ·exact .inl (h1.trans h2.symm)
   ·rw[if_pos h1,if_neg h2] at h;right;right;rw[hget,if_neg h2,if_pos h.symm]
  ·by_cases h2:x'=s
   ·rw[if_neg h1,if_pos h2] at h;right;left;rw[hget,if_neg h1,if_pos h]
   ·rw[if_neg h1,if_neg h2] at h;exact .inl h
 ·have h1:=not_imp hs hb rfl;have h2:=not_imp hs hd rfl;exact⟨by simp[Ctx.alias,show x≠s by omega],by rw[hget,if_neg (by omega),if_neg (by omega)]⟩
 ·have h1:=not_imp hs hb rfl;split<;>omega
 ·cases hv with
  | vec _ p n c hlt h=>
   refine .vec s p n c (by rw[hlen];exact hsl) fun sh' m ⟨e',l',q1,q2⟩=>?_;rw[hget,if_pos rfl] at q1;have q3:e'=e/\sh'=sh/\l'=l:=by
    rcases q1 with q1|q1
    ·cases q1;exact⟨rfl,rfl,rfl⟩
    ·cases q1
   obtain⟨rfl,rfl,rfl⟩:=q3;have:=h sh' m ⟨e',l',.inl hb,q2⟩;unfold qwk at this ⊢;have hσ:(X.alias b s (.vec e' sh' l')).σ s=X.σ b:=by simp[Ctx.alias]
   rw[hσ];exact this
theorem qC4 (hs:HSim B X){h':List Blk}(hX:X.h=h'++[.dead])(hmen:h'.length∉qci h') :HSim B { X with h:=h' }/\Move X { X with h:=h' } (qbW h'.length):=by
 have hget:∀(x:Nat) (k:Blk),h'[x]?=some k->X.h[x]?=some k:=fun x k h=>by rw[hX,qM5 (qo h)];exact h
 have hm:Move X { X with h:=h' } (qbW h'.length):=by
  refine Move.of (fun _ h=>h) (fun _ _=>rfl) (fun b1 b2 hb1 h=>?_);have hne:b1≠h'.length:=by intro e;subst e;simp[qbW] at h
  have:b2=b1:=by simp[qbW,hne] at h;exact h.symm
  subst this;rw[hX] at hb1;simp only[qMc,qMn,qMD] at hb1;refine⟨by show b2<h'.length;omega,rfl,fun sh1 m ⟨e1,l1,h1,h2⟩=>⟨e1,l1,?_,h2⟩,fun _ _ _ n _ c T fr hc=>⟨c,T,fr,hc,rfl⟩⟩;exact h1.elim (fun h=>.inl (hget _ _ h)) (fun h=>.inr (hget _ _ h))
 refine⟨hs.renum hm rfl rfl id (fun x k h=>.inr ⟨hget x k h,rfl,Blk.ren_void k (qpk hmen h)⟩) (fun x x' h=>.inl h) (fun x hx=>⟨rfl,?_⟩) (fun x hx=>hx),hm⟩;obtain⟨k,h1,h2⟩:=hs.impc x hx;have hxl:x<h'.length:=by
  rcases qM1 x h'.length with h|h
  ·exact h
  ·rw[hX,qMd h] at h1;rcases qNt h with h|h
   ·rw[<-h] at h1;simp at h1;subst h1;cases h2
   ·rw[qMg (by simp;omega)] at h1;cases h1
 show h'[x]?=X.h[x]?;rw[hX,qM5 hxl]
theorem Sim.moved {X X':Ctx}(hs:Sim E B X st a)(h2:HSim B X')(h3:Move X X' (qbW s))(ht:s∉AV.menL st.t)(hf:s∉qkP st.fs):Sim E B X' { st with h:=X'.h } a:=by
 refine⟨h2,rfl,?_,?_,fun x hx=>?_,h3.kept▸hs.df,hs.ni,h3.y.trans hs.y,fun p hp=>h3.kept▸hs.pin p hp⟩
 ·have:=hs.t.ren h3.toMove0
  rwa [AV.renL_void _ ht] at this
 ·have:=hs.fs.ren h3.toMove0
  rwa [qml _ hf] at this
 ·obtain⟨⟨sh,l,i,off,he⟩,hr⟩:=hs.glob x hx;refine⟨⟨sh,l,i,off,he⟩,hr.move h3.M h3.w ?_⟩;have:=hr.1.ren h3.toMove0;rw[he] at this ⊢;exact this
theorem Rep.voided {X X':Ctx}{s b:Nat}{v:Value}(h:Move X X' (qbW s))(hr:Rep X (.vec b) v)(hne:b≠s):Rep X' (.vec b) v:=by have:=hr.ren h.toMove0;simpa[AV.ren,qbW,hne] using this
theorem qkr {s c:Nat}{k:Blk}(hk:k.menB=[])(hc:c∉qci h):c∉qci (h.set s k):=by
 induction h generalizing s with
 | nil=>exact hc
 | cons a h ih=>
  simp only[qci,qMi,not_or] at hc;cases s with
  | zero=>simp only[qM8,qci,hk,qNc];exact hc.2
  | succ s=>simp only[qMa,qci,qMi,not_or];exact⟨hc.1,ih hc.2⟩
theorem qnz{c:Nat}:∀(l:List Nat) {h:List Blk},h[c]?=some .dead->(qF h l)[c]?=some .dead
 | [],_,hc=>hc
 | a::l,h,hc=>qnz l (by
  by_cases e:c=a
  ·subst e;unfold zC;rw[hc];exact hc
  ·rw[q95 e,hc])
theorem qhm{c:Nat}:∀(l:List Nat) {h:List Blk},c∉qci h->c∉qci (qF h l)
 | [],_,hc=>hc
 | a::l,h,hc=>qhm l (by
  unfold zC;split
  ·exact qkr rfl hc
  ·exact hc)
theorem qAK {l:R}{v:Value}(hs:Sim E B X { st with h:=h++[.vec e sh l] } a)(hv:Rep X (.vec h.length) v)(hd:h[s]?=some .dead) (h1:s∉qci h) (h2:s∉AV.menL st.t) (h3:s∉qkP st.fs) (n1:h.length∉qci h) (n2:h.length∉AV.menL st.t) (n3:h.length∉qkP st.fs) :∃X',X'.w=X.w/\Sim E B X' { st with h:=h.set s (.vec e sh l) } a/\Rep X' (.vec s) v:=by
 have hsl:=qo hd;have hX:X.h=h++[.vec e sh l]:=hs.h;have hb:X.h[h.length]?=some (.vec e sh l):=by rw[hX,qMd (qLU _)];simp
 have hd':X.h[s]?=some .dead:=by rw[hX,qM5 hsl];exact hd
 have hm':s∉qci X.h:=by rw[hX,qAR];simp[qci,Blk.menB];exact h1
 obtain⟨g1,g2,g3⟩:=qtW hs.hs hb hd' hm';have s1:=hs.moved g1 g2 h2 h3;have hA:(X.alias h.length s (.vec e sh l)).h=h.set s (.vec e sh l)++[.dead]:=by show (X.h.set h.length .dead).set s (.vec e sh l)=_;rw[hX,List.set_append_right (h:=qLU _),qME,List.set_append_left (h:=hsl)];rfl
 obtain⟨k1,k2⟩:=qC4 g1 hA (by simp only[qN5];exact qkr rfl n1);rw[qN5] at k2;have s2:=s1.moved k1 k2 n2 n3;have hne:s≠h.length:=by omega
 exact⟨{ X.alias h.length s (.vec e sh l) with h:=h.set s (.vec e sh l) },rfl,s2,(g3 v hv).voided k2 hne⟩
theorem zn (h:List Blk)(x:AV):(jM h x).length=h.length:=by cases x<;>simp[jM,qbT]
theorem q2m {x:AV}{c:Nat}(hc:c∉x.men):(jM h x)[c]?=h[c]?:=by
 cases x<;>first|rfl|skip
 rename_i b;exact q95 (fun e=>hc (by simp[AV.men,e]))
theorem qlr {x:AV}{c:Nat}(hc:c∉qci h):c∉qci (jM h x):=by
 cases x<;>first|exact hc|skip
 rename_i b;show c∉qci (zC h b);unfold zC;split
 ·rename_i e sh l _;exact qkr (k:=.frz e sh l) rfl hc
 ·exact hc
theorem qhE {r:Res}(h:qH P B X (execOp a.eval o) r){next:Act->World->Prop}{Q:Exit->Act->World->Prop}(hq:∀X' v,HSim B X'->Rep X' r.1 v->(match r.2.2 with|none=>X'.h=r.2.1/\Ext X X'|some b=>X'.h=r.2.1.map (Blk.ren (qbW b))/\Move X X' (qbW b))->next (a.put o.dst v) X'.w):o.wp P a X.w next Q:=by
 obtain⟨nx,v,X',g1,g2,g3,g4,g5⟩:=h;unfold Oper.wp;rw[g1];rcases g2 with rfl|⟨rfl,rfl⟩
 ·exact hq X' _ g4 g3 g5
 ·exact hq X' _ g4 g3 g5
theorem qG9 (hs:s∉qci h):h.map (Blk.ren (qbW s))=h:=by
 induction h with
 | nil=>rfl
 | cons k h ih=>
  simp only[qci,qMi,not_or] at hs;simp only[qMZ,Blk.ren_void k hs.1,ih hs.2]
theorem qD2 {o:Option Blk}(h:qtH o=true):o=some .dead:=by
 unfold qtH at h;split at h
 ·rfl
 ·cases h
theorem Sim.ext' {X X':Ctx}{h':List Blk}(hs:Sim E B X st a)(hx:Ext X X')(h4:HSim B X')(hh:X'.h=h'):Sim E B X' { st with h:=h' } a:=by have:=hs.ext hx h4;rw[hh] at this;exact this
theorem qCK {x:AV}{m:R}(hr:ve h x=some (sh,m))(hn:qAu b x=true):b∉x.men:=by
 cases x<;>simp only[ve] at hr<;>first|(cases hr;done)|simp[AV.men]
 rename_i b';intro e;subst e;simp[qAu] at hn
theorem qxG {h h':List Blk}{x:AV}(H:∀b,b∈x.men->h'[b]?=h[b]?):ve h' x=ve h x:=by cases x<;>simp only[ve];rename_i b;rw[H b (by simp[AV.men])]
mutual
theorem Rep.inB{X:Ctx}:∀{a:AV} {v:Value},Rep X a v->∀b,b∈a.men->b<X.h.length
 | _,_,.undef _,b,h=>by simp[AV.men] at h
 | _,_,.skip,b,h=>by simp[AV.men] at h
 | _,_,.yld,b,h=>by simp[AV.men] at h
 | _,_,.blit _,b,h=>by simp[AV.men] at h
 | _,_,.bool _,b,h=>by simp[AV.men] at h
 | _,_,.ilit _ _,b,h=>by simp[AV.men] at h
 | _,_,.int _ _,b,h=>by simp[AV.men] at h
 | _,_,.str _,b,h=>by simp[AV.men] at h
 | _,_,.nilp,b,h=>by simp[AV.men] at h
 | _,_,.ptr _ _ _ hb _,b,h=>by simp only[AV.men,qMm] at h;rw[h];exact hb
 | _,_,.eptr _ _ _ _ _ _ _ _ _,b,h=>by simp[AV.men] at h
 | _,_,.mnil _ _ _ _,b,h=>by simp[AV.men] at h
 | _,_,.mptr _ _ _ _ _ _ _ _ _,b,h=>by simp[AV.men] at h
 | _,_,.vptr _ _ _ _ _ hb _ _,b,h=>by simp only[AV.men,qMm] at h;rw[h];exact hb
 | _,_,.vsub _ _ _ _ _ _ hb _ _,b,h=>by simp only[AV.men,qMm] at h;rw[h];exact hb
 | _,_,.aptr _ _ _ _ hb _ _,b,h=>by simp only[AV.men,qMm] at h;rw[h];exact hb
 | _,_,.asub _ _ _ _ _ _ _ _ hb _ _ _ _ _,b,h=>by simp only[AV.men,qMm] at h;rw[h];exact hb
 | _,_,.nils,b,h=>by simp[AV.men] at h
 | _,_,.imm _ _ _ _,b,h=>by simp[AV.men] at h
 | _,_,.full _ _ _ _ _,b,h=>by simp[AV.men] at h
 | _,_,.vec _ _ _ _ hb _,b,h=>by simp only[AV.men,qMm] at h;rw[h];exact hb
 | _,_,.nilf,b,h=>by simp[AV.men] at h
 | _,_,.fn _ _ _ _ _ h1 h2,b,h=>by
  simp only[AV.men,qMi] at h;exact h.elim (RepL.inB h1 b) (RepL.inB h2 b)
 | _,_,.agg _ _ h1,b,h=>by simp only[AV.men] at h;exact RepL.inB h1 b h
 | _,_,.tuple _ _ h1,b,h=>by simp only[AV.men] at h;exact RepL.inB h1 b h
 | _,_,.bagg _ _ _ _ _ h1 _,b,h=>by simp only[AV.men] at h;exact RepL.inB h1 b h
theorem RepL.inB{X:Ctx}:∀{l:List AV} {vs:List Value},RepL X l vs->∀b,b∈AV.menL l->b<X.h.length
 | _,_,.nil,b,h=>by simp[AV.menL] at h
 | _,_,.cons h1 h2,b,h=>by
  simp only[AV.menL,qMi] at h;exact h.elim (Rep.inB h1 b) (RepL.inB h2 b)
end
theorem RepLL.inB{X:Ctx}:∀{l:List (List AV)} {vs:List (List Value)},RepLL X l vs->∀b,b∈qkP l->b<X.h.length
 | _,_,.nil,b,h=>by simp[qkP] at h
 | _,_,.cons h1 h2,b,h=>by
  simp only[qkP,qMi] at h;exact h.elim (RepL.inB h1 b) (RepLL.inB h2 b)
theorem qDQ{b:Nat}:∀{h:List Blk},b∈qci h->∃(i:Nat) (k:Blk),h[i]?=some k/\b∈k.menB
 | [],h=>by cases h
 | k::h,hb=>by
  simp only[qci,qMi] at hb;rcases hb with hb|hb
  ·exact⟨0,k,rfl,hb⟩
  ·obtain⟨i,k',h1,h2⟩:=qDQ hb;exact⟨i+1,k',by simpa using h1,h2⟩
theorem HSim.inB (hs:HSim B X):∀b,b∈qci X.h->b<X.h.length:=by
 intro b hb;obtain⟨i,k,h1,h2⟩:=qDQ hb;have:=hs.blk i k h1;cases k with
 | cells cs=>obtain⟨_,_,_,_,_,hr⟩:=this;exact hr.inB b h2
 | big cs _ _ _=>obtain⟨_,_,_,_,_,_,hr,_⟩:=this;exact hr.inB b h2
 | vec _ _ _=>simp[Blk.menB] at h2
 | frz _ _ _=>simp[Blk.menB] at h2
 | dead=>simp[Blk.menB] at h2
theorem qxH (hS:E.specs P)(h:qJm E f=some e):qmF P f e:=by
 unfold qJm at h;cases hf:E.dels.find? fun x=>x.1==f with
 | none=>rw[hf] at h;cases h
 | some x=>
  rw[hf] at h;simp only[qMt,qLS] at h;have h1:x.1=f:=by simpa using qN7 hf
  have:=hS.dl x (qMO hf);rw[h1,h] at this;exact this
theorem qxR (_:E.tok P)(_:qmF P f e)(_:HSim B X){vargs:List Value}(_:RepL X args vargs){av:AV}{h':List Blk}(h:(qtx E X.h e args k).run=some (av,h')) (_:X.h[k]?=some .dead) (_:k∉qci X.h) :Calls P f vargs.toArray X.w fun x w'=>∃v X',x=.returned v/\X'.w=w'/\Rep X' av v/\HSim B X'/\X'.h=h'/\Move X X' (qbW k):=by unfold qtx at h;cases h
theorem qLs {args:Array Operand}{tys:Array TypeId}(hop:o.op=.call { callee:=.builtin .append,args:=args,argTypes:=tys }) :∃ty cs,execOp a.eval o=builtin .append tys ty cs ((args.toList.map a.eval).toArray):=by
 have hA:args.map a.eval=(args.toList.map a.eval).toArray:=by apply qN8;simp
 refine⟨o.type,args.map fun|.const _=>true|_=>false,?_⟩;unfold execOp;rw[hop,<-hA];rfl
theorem qmn {xs:List Operand}(h:qmV op=some (f,xs)):∃args tys,op=.call { callee:=.value (.func f),args:=args,argTypes:=tys }/\xs=args.toList:=by
 unfold qmV at h;split at h
 ·cases h;exact⟨_,_,rfl,rfl⟩
 ·cases h
theorem qF7 {args:Array Operand}{tys:Array TypeId}(hop:o.op=.call { callee:=.value (.func f),args:=args,argTypes:=tys })(he:∀args w,(callFunc f args).run P w=.ok (.enter f args) w) {next:Act->World->Prop} {Q:Exit->Act->World->Prop} {K:Value->World->Prop} (hc:Calls P f (args.toList.map a.eval).toArray X.w fun x w'=>∃v,x=.returned v/\K v w')(hq:∀v w',K v w'->next (a.put o.dst v) w'):o.wp P a X.w next Q:=by
 unfold Oper.wp;have hrun:(execOp a.eval o).run P X.w=.ok (.enter f (args.toList.map a.eval).toArray) X.w:=by
  simp only[execOp,hop,resolve,Act.eval,Deferred.ofValue,qLX,qMp,qM4,invoke];have:(#[]:Array Value)++args.map a.eval++#[]=(args.toList.map a.eval).toArray:=by apply qN8;simp
  have h2:=he (args.toList.map a.eval).toArray X.w;rw[<-this] at h2;rw[<-this];exact h2
 rw[hrun];refine hc.mono fun x w' ⟨v,e1,e2⟩=>?_;subst e1;exact hq v w' e2
theorem qvr (hE:E.tok P)(hS:E.specs P){callS:List Blk->q6h}(hs:Sim E B X st a){av:AV}{h':List Blk}(h:(q3V E callS st.h (E.opd st.t) o.op s).run=some (av,h')) (hl:qsf E o.op=true) (h1:s∉qci st.h) (h2:s∉AV.menL st.t) (h3:s∉qkP st.fs) (n1:st.h.length∉qci st.h) (n2:st.h.length∉AV.menL st.t) (n3:st.h.length∉qkP st.fs){next:Act->World->Prop} {Q:Exit->Act->World->Prop} (hq:∀X' v,Sim E B X' { st with h:=h' } a->Rep X' av v->next (a.put o.dst v) X'.w):o.wp P a X.w next Q:=by
 unfold q3V at h;rw[hl] at h;simp only at h;cases hdd:qtH st.h[s]? with
 | false=>rw[hdd] at h;cases h
 | true=>
  rw[hdd] at h;have hd:=qD2 hdd;simp only at h;split at h
  ·
   rename_i t len parts hop;obtain⟨r,k1,k2⟩:=bind_some h;simp only[Tree.run,qLS,qMs] at k2;obtain⟨rfl,rfl⟩:=k2;obtain⟨v0,z⟩:=r;have hvz:v0=.vec st.h.length/\∃e sh l,z=.vec e sh l:=by
    have k1:=k1;rw[hop] at k1;unfold qje at k1;simp only at k1;split at k1
    ·split at k1
     ·split at k1
      ·split at k1
       ·split at k1
        ·cases k1;exact⟨rfl,_,_,_,rfl⟩
        ·cases k1
       ·cases k1
      ·cases k1
     ·cases k1
    ·cases k1
   obtain⟨rfl,e,sh,l,rfl⟩:=hvz;refine qhE (qlD hE hs (qF1 k1)) fun X' v g4 g3 g5=>?_;have s1:Sim E B X' { st with h:=st.h++[.vec e sh l] } a:=hs.ext' g5.2 g4 g5.1;obtain⟨X2,e2,s2,r2⟩:=qAK s1 g3 hd h1 h2 h3 n1 n2 n3;rw[<-e2];exact hq X2 v s2 r2
  ·
   rename_i t hop;unfold qw4 at h;split at h
   case h_2=>cases h
   rename_i z hz;split at h
   case h_2=>cases h
   simp only[Tree.run,qLS,qMs] at h;obtain⟨rfl,rfl⟩:=h;exact qwi hE hs hop hz hd h1 h2 h3 hq
  ·
   rename_i args tys hop;obtain⟨ty,cs,hrun⟩:=qLs (a:=a) hop;have hargs:=q3p hs args.toList;unfold qyH at h;generalize args.toList.map (E.opd st.t)=als at h hargs;generalize args.toList.map a.eval=avs at hrun hargs;split at h
   case h_2=>cases h
   rename_i t t' sa xa htys;by_cases htt:t=t'
   ·subst htt;rw[if_pos rfl] at h;cases hargs with
    | cons hsa hargs=>cases hargs with
     | cons hxa hargs=>
     cases hargs;rename_i vs vx;have hrun':execOp a.eval o=(do pure (.value (<-Builtin.append_ #[t,t] ty #[vs,vx])):Sem Next):=by rw[hrun];obtain⟨tys⟩:=tys;simp only at htys;subst htys;rfl
     unfold qxD at h;cases htd:(E.ty t).d<;>rw[htd] at h<;>simp only at h<;>first|(cases h;done)|skip
     rename_i e es;obtain⟨ht,rfl⟩:=q0d hE htd;split at h
     case h_2=>cases h
     rename_i sh sh' m hsh hro;by_cases hc:(sh.length=P.cellsOf e/\0<P.cellsOf e/\(E.ty e).zero.length=P.cellsOf e)/\Sh.beqL sh sh'=true
     ·rw[if_pos hc] at h;obtain⟨⟨hc1,hc2,hc4⟩,hbq⟩:=hc;obtain rfl:=Sh.beqL_eq _ _ hbq;obtain⟨i,z,he⟩:=qEU hE hc2 hc4;split at h
      ·
       obtain⟨g1,g2⟩:=brR h;simp only[Tree.run,qLS,qMs] at g2;obtain⟨rfl,rfl⟩:=g2;have hh:(qkt (qsr (E.ty e).bytes) X.h e sh .nils xa).run=some (.vec X.h.length,jM X.h xa++[.vec e sh m],none):=by unfold qkt;rw[hs.h,hro];simp only;rw[if_pos hbq];simp only[Tree.run,g1]
       have hg:=qem (ty:=ty) hs.hs ht hc2 hc1 he hsa hxa hh;rw[<-hrun'] at hg;refine qhE hg fun X' v g4 g3 g5=>?_;have hfl:(jM st.h xa).length=st.h.length:=zn _ _;have s1:Sim E B X' { st with h:=jM st.h xa++[.vec e sh m] } a:=hs.ext' g5.2 g4 (by rw[g5.1,hs.h]);rw[hs.h,<-hfl] at g3;have hxs:s∉xa.men:=fun hm=>by
        cases xa<;>simp only[ve] at hro<;>first|(cases hro;done)|(simp[AV.men] at hm;done)|skip
        simp only[AV.men,qMm] at hm;subst hm;rw[hd] at hro;cases hro
       obtain⟨X2,e2,s2,r2⟩:=qAK s1 g3 (by rw[q2m hxs];exact hd) (qlr h1) h2 h3 (by rw[hfl];exact qlr n1) (by rw[hfl];exact n2) (by rw[hfl];exact n3);rw[<-e2];exact hq X2 v s2 r2
      ·
       rename_i b;split at h
       case h_2=>cases h
       rename_i e' sh'' l hbk;by_cases hq2:(Sh.beqL sh sh''=true/\e=e')/\qAu b xa=true
       ·rw[if_pos hq2] at h;obtain⟨⟨hbq2,rfl⟩,hnv⟩:=hq2;obtain rfl:=Sh.beqL_eq _ _ hbq2;obtain⟨g1,g2⟩:=brR h;simp only[Tree.run,qLS,qMs] at g2;obtain⟨rfl,rfl⟩:=g2;have hbx:=qCK hro hnv;have hxs:s∉xa.men:=fun hm=>by
         cases xa<;>simp only[ve] at hro<;>first|(cases hro;done)|(simp[AV.men] at hm;done)|skip
         simp only[AV.men,qMm] at hm;subst hm;rw[hd] at hro;cases hro
        have hbs:b≠s:=fun he=>by rw[he,hd] at hbk;cases hbk
        have hb':X.h[b]?=some (.vec e sh l):=by rw[hs.h];exact hbk
        have hd':X.h[s]?=some .dead:=by rw[hs.h];exact hd
        obtain⟨a1,a2,a3⟩:=qtW hs.hs hb' hd' (by rw[hs.h];exact h1);have hbl:=qo hbk;have hsl:=qo hd;have ag:∀x,(X.alias b s (.vec e sh l)).h[x]?=if x=s then some (.vec e sh l) else if x=b then some .dead else st.h[x]?:=fun x=>by rw[qy8 (by rw[hs.h];exact hbl) (by rw[hs.h];exact hsl),hs.h]
        have hxr:ve (X.alias b s (.vec e sh l)).h xa=some (sh,m):=by rw[qxG (h:=st.h) fun c hc=>by have z1:c≠s:=fun e=>hxs (e▸hc);have z2:c≠b:=fun e=>hbx (e▸hc);rw[ag,if_neg z1,if_neg z2]];exact hro
        have hxrep:Rep (X.alias b s (.vec e sh l)) xa vx:=by
         have:=hxa.ren a2.toMove0
         rwa [AV.ren_void xa hxs] at this
        have hfin:(jM (X.alias b s (.vec e sh l)).h xa).set s (.vec e sh (zE l m))=((jM st.h xa).set b .dead).set s (.vec e sh (zE l m)):=by
         apply qML;intro x;by_cases x1:x=s
         ·subst x1;rw[qM6 (by rw[zn];simp[Ctx.alias,hs.h];exact hsl),qM6 (by simp[zn];exact hsl)]
         ·rw[qLV (fun e=>x1 e.symm),qLV (fun e=>x1 e.symm)];by_cases x2:x=b
          ·subst x2;rw[qM6 (by rw[zn];exact hbl),q2m hbx,ag,if_neg x1,if_pos rfl]
          ·rw[qLV (fun e=>x2 e.symm)];cases xa<;>first|(show (X.alias b s (.vec e sh l)).h[x]?=st.h[x]?;rw[ag,if_neg x1,if_neg x2];done)|skip
           rename_i b';have y1:b'≠s:=fun e=>hxs (by simp[AV.men,e]);have y2:b'≠b:=fun e=>hbx (by simp[AV.men,e]);have y3:=ag b';rw[if_neg y1,if_neg y2] at y3;unfold jM zC;simp only[y3];cases hk:st.h[b']? with
           | none=>simp only;rw[ag,if_neg x1,if_neg x2]
           | some k=>
            cases k<;>simp only<;>first|(rw[ag,if_neg x1,if_neg x2];done)|skip
            by_cases x3:x=b'
            ·subst x3;rw[qM6 (by simp[Ctx.alias,hs.h];exact qo hk),qM6 (qo hk)]
            ·rw[qLV (fun e=>x3 e.symm),qLV (fun e=>x3 e.symm),ag,if_neg x1,if_neg x2]
        have hh:(qkt (qsr (E.ty e).bytes) (X.alias b s (.vec e sh l)).h e sh (.vec s) xa).run=some (.vec s,(jM (X.alias b s (.vec e sh l)).h xa).set s (.vec e sh (zE l m)),some s):=by
         unfold qkt;rw[hxr];simp only;rw[if_pos hbq,ag,if_pos rfl];simp only;rw[if_pos ⟨hbq,trivial⟩];unfold qEB;cases xa<;>simp only[jM]<;>first|(simp only[Tree.run,g1];done)|skip
         rename_i b';rw[if_neg (fun e=>hxs (by simp[AV.men,<-e]))];simp only[Tree.run,g1]
        have hg:=qem (ty:=ty) a1 ht hc2 hc1 he (a3 _ hsa) hxrep hh;rw[<-hrun'] at hg;have hg':qH P B (X.alias b s (.vec e sh l)) (execOp a.eval o) (.vec s,(jM (X.alias b s (.vec e sh l)).h xa).set s (.vec e sh (zE l m)),some s):=hg;have s0:=hs.moved a1 a2 h2 h3;have hw:(X.alias b s (.vec e sh l)).w=X.w:=rfl;rw[<-hw];refine qhE hg' fun X' v g4 g3 g5=>?_;obtain⟨g5,g6⟩:=g5;simp only at g5 g6;rw[hfin,qG9 (qkr rfl (qkr rfl (qlr h1)))] at g5;have s1:=s0.moved g4 g6 h2 h3;have:({ ({ st with h:=(X.alias b s (.vec e sh l)).h }:St) with h:=X'.h }:St)={ st with h:=((jM st.h xa).set b .dead).set s (.vec e sh (zE l m)) }:=by rw[g5]
        rw[this] at s1;exact hq X' v s1 g3
       ·rw[if_neg hq2] at h;cases h
      ·
       rename_i sh'' l;split at h
       case isFalse=>cases h
       rename_i hbq2;obtain⟨g0,h⟩:=brR h;obtain⟨g1,g2⟩:=brR h;simp only[Tree.run,qLS,qMs] at g2;obtain⟨rfl,rfl⟩:=g2;have hh:(qkt (qsr (E.ty e).bytes) X.h e sh (.full sh'' l) xa).run=some (.vec X.h.length,jM X.h xa++[.vec e sh (zE l m)],none):=by unfold qkt;rw[hs.h,hro];simp only;rw[if_pos hbq,if_pos hbq2];simp only[Tree.run,g0,g1]
       have hg:=qem (ty:=ty) hs.hs ht hc2 hc1 he hsa hxa hh;rw[<-hrun'] at hg;refine qhE hg fun X' v g4 g3 g5=>?_;have hfl:(jM st.h xa).length=st.h.length:=zn _ _;have s1:Sim E B X' { st with h:=jM st.h xa++[.vec e sh (zE l m)] } a:=hs.ext' g5.2 g4 (by rw[g5.1,hs.h]);rw[hs.h,<-hfl] at g3;have hxs:s∉xa.men:=fun hm=>by
        cases xa<;>simp only[ve] at hro<;>first|(cases hro;done)|(simp[AV.men] at hm;done)|skip
        simp only[AV.men,qMm] at hm;subst hm;rw[hd] at hro;cases hro
       obtain⟨X2,e2,s2,r2⟩:=qAK s1 g3 (by rw[q2m hxs];exact hd) (qlr h1) h2 h3 (by rw[hfl];exact qlr n1) (by rw[hfl];exact n2) (by rw[hfl];exact n3);rw[<-e2];exact hq X2 v s2 r2
      ·cases h
     ·rw[if_neg hc] at h;cases h
   ·rw[if_neg htt] at h;cases h
  ·
   rename_i _ _ hno;clear hno;unfold qvV at h;split at h
   case h_2=>cases h
   rename_i f xs hcf;obtain⟨args,tys,hop,rfl⟩:=qmn hcf;have hargs:=q3p hs args.toList;split at h
   ·rename_i e hdf;have hD:=qxH hS hdf;rw[<-hs.h] at h hd h1;refine qF7 hop hD.1 (K:=fun v w'=>∃X',X'.w=w'/\Rep X' av v/\HSim B X'/\X'.h=h'/\Move X X' (qbW s)) ((qxR hE hD hs.hs hargs h hd h1).mono fun x w' ⟨v,X',e0,e1,e2,e3,e4,e5⟩=>⟨v,e0,X',e1,e2,e3,e4,e5⟩) fun v w' ⟨X',e1,e2,e3,e4,e5⟩=>?_;subst e1;have:=hs.moved e3 e5 h2 h3;rw[e4] at this;exact hq X' v this e2
   ·unfold qED at h;split at h
    case h_2=>cases h
    rename_i G hf;split at h
    case h_2=>cases h
    rename_i hme;obtain⟨r,k1,k2⟩:=bind_some h;split at k2
    case h_2=>cases k2
    rename_i e sh l;simp only[Tree.run,qLS,qMs] at k2;obtain⟨rfl,rfl⟩:=k2;have hG:=hS.sp G (qMO hf);have hfe:G.1=f:=by simpa using qN7 hf
    rw[hfe] at hG;generalize args.toList.map (E.opd st.t)=azz at *;have hmen:AV.menL (AV.lendL (qF st.h (azz.flatMap zM)) azz)=[]:=by simpa using hme
    have hcs:(q0G G.2 azz st).run=some (.vec (qF st.h (azz.flatMap zM)).length,{ st with h:=qF st.h (azz.flatMap zM)++[.vec e sh l] }):=by
     unfold q0G;have hpr:va st.h azz=qF st.h (azz.flatMap zM):=by unfold va;simp only[hmen,q6R,qF,qaJ]
     simp only[hpr,hmen,qkd,q5a];rw[AV.renL_of_men _ _ hmen,Tree.run_bind,k1];simp only[qMk,q0B,qMD,List.drop_zero,qMZ,List.map_nil];rfl
    have hfl:=jF (azz.flatMap zM) st.h;refine qF7 hop hG.1 (K:=fun v w'=>∃X',X'.w=w'/\Rep X' (.vec (qF st.h (azz.flatMap zM)).length) v/\Sim E B X' { st with h:=qF st.h (azz.flatMap zM)++[.vec e sh l] } a) ((q71 hG hs hargs hcs).mono fun x w' ⟨v,X',e1,e2,e3,e4⟩=>⟨v,e1,X',e2,e3,e4⟩) fun v w' ⟨X',e1,e2,e3⟩=>?_;subst e1;obtain⟨X2,e4,s2,r2⟩:=qAK e3 e2 (qnz _ hd) (qhm _ h1) h2 h3 (by rw[hfl];exact qhm _ n1) (by rw[hfl];exact n2) (by rw[hfl];exact n3);rw[<-e4];exact hq X2 v s2 r2
def qcH(w:List Nat)(k h:List Blk):List Blk:=h.mapIdx fun b x=>if b∈w then k.getD b .dead else x
theorem qCH (w:List Nat)(k h:List Blk):(qcH w k h).length=h.length:=by simp[qcH]
theorem qi4 {w:List Nat}{k h:List Blk}(hb:b∉w):(qcH w k h)[b]?=h[b]?:=by
 unfold qcH;rw[List.getElem?_mapIdx];cases h[b]? with
 | none=>rfl
 | some x=>simp[hb]
theorem qg0 {w:List Nat}{k h:List Blk}(hb:b∈w)(hk:k.length=h.length):(qcH w k h)[b]?=k[b]?:=by
 unfold qcH;rw[List.getElem?_mapIdx];rcases qM1 b h.length with hl|hl
 ·rw[qM0 hl,qM0 (hk▸hl)];simp[hb,qM0 (hk▸hl)]
 ·rw[qMg hl,qMg (by omega)];rfl
theorem q25 {w:List Nat}{k h k':List Blk}(hk:k.length=h.length)(h1:∀b,b∈w->k'[b]?=k[b]?)(h2:∀b,b∉w->k'[b]?=h[b]?):k'=qcH w k h:=by
 apply qML;intro b;by_cases hb:b∈w
 ·rw[h1 b hb,qg0 hb hk]
 ·rw[h2 b hb,qi4 hb]
theorem qv1 {callS:List Blk->q6h}{f g:Operand->AV}(hfg:∀x∈op.operands.toList,f x=g x):q3V E callS h f op k=q3V E callS h g op k:=by
 unfold q3V;cases hl:qsf E op with
 | false=>simp only;rw[qw9 hfg,(qqy hfg).1,(qqy hfg).2]
 | true=>
  simp only;cases qtH h[k]? with
  | false=>rfl
  | true=>
   simp only;split
   ·rw[qww hfg]
   ·rfl
   ·rename_i args tys;have:args.toList.map f=args.toList.map g:=qN4 fun y hy=>hfg y (by simpa[Op.operands,Call.operands] using hy);rw[this]
   ·unfold qvV;cases hc:qmV op with
    | none=>rfl
    | some q=>
     obtain⟨fn,xs⟩:=q;obtain⟨args,tys,rfl,rfl⟩:=qmn hc;have:args.toList.map f=args.toList.map g:=qN4 fun y hy=>hfg y (by simp[Op.operands,Call.operands];exact .inr (by simpa using hy));simp only[this]
theorem qzJ {h h':List Blk}{ev:Operand->AV}{t:TypeId}{len:Nat}{ps:Array (Nat×Operand)}(hl:h'.length=h.length):qje E h' ev (.buildSlice t len ps)=qje E h ev (.buildSlice t len ps):=by
 unfold qje;simp only;split
 ·split
  ·split
   ·split
    ·rename_i hc;rw[qqg (h':=h) _ _ hc.2,hl]
    ·rfl
   ·rfl
  ·rfl
 ·rfl
theorem qEk {h h':List Blk}{x:AV}{c:Nat}(H:∀b,b∈x.men->h'[b]?=h[b]?)(hc:h'[c]?=h[c]?)(hl:h'.length=h.length):(jM h' x)[c]?=(jM h x)[c]?:=by
 cases x<;>first|exact hc|skip
 rename_i b;have hb:=H b (by simp[AV.men]);show (zC h' b)[c]?=(zC h b)[c]?;unfold zC;rw[hb];split
 ·rename_i e sh l hv;by_cases hcb:c=b
  ·subst hcb;rw[qM6 (by rw[hl];exact qo hv),qM6 (qo hv)]
  ·rw[qLV (fun e=>hcb e.symm),qLV (fun e=>hcb e.symm)];exact hc
 ·exact hc
theorem qyf {h h':List Blk}{t:TypeId}{s x u:AV}{r:List Blk}{R:List Nat}(hR:∀b,(b=k\/b∈s.men\/b∈x.men)->b∈R)(H:∀b,b∈R->h'[b]?=h[b]?)(hl:h'.length=h.length)(hr:(qxD E h t s x k).run=some (u,r)):r.length=h.length/\(∀b,b∉R->r[b]?=h[b]?)/\∃r',(qxD E h' t s x k).run=some (u,r')/\r'.length=h.length/\(∀b,b∉R->r'[b]?=h'[b]?)/\(∀b,b∈R->r'[b]?=r[b]?):=by
 have hk:∀b,b∉R->b≠k:=fun b hb e=>hb (hR b (.inl e));have hx:∀b,b∉R->b∉x.men:=fun b hb e=>hb (hR b (.inr (.inr e)));have hro:ve h' x=ve h x:=qxG fun b hb=>H b (hR b (.inr (.inr hb)));have hfa:∀c,c∈R->(jM h' x)[c]?=(jM h x)[c]?:=fun c hc=>qEk (fun b hb=>H b (hR b (.inr (.inr hb)))) (H c hc) hl;unfold qxD at hr ⊢;cases htd:(E.ty t).d<;>rw[htd] at hr<;>simp only at hr ⊢<;>first|(cases hr;done)|skip
 rename_i e es;rw[hro];split at hr
 case h_2=>cases hr
 rename_i sh sh' m hsh hrw;split at hr
 case isFalse=>cases hr
 rename_i hc;split at hr
 ·
  obtain⟨g1,g2⟩:=brR hr;simp only[Tree.run,qLS,qMs] at g2;obtain⟨rfl,rfl⟩:=g2;refine⟨by simp[zn],fun b hb=>?_,(jM h' x).set k (.vec e sh m),?_,by simp[zn,hl],fun b hb=>?_,fun b hb=>?_⟩
  ·rw[qLV (fun e=>hk b hb e.symm),q2m (hx b hb)]
  ·simp only[if_pos hc,Tree.run,g1]
  ·rw[qLV (fun e=>hk b hb e.symm),q2m (hx b hb)]
  ·exact qhk (by simp[zn,hl]) fun _=>hfa b hb
 ·rename_i b0;split at hr
  case h_2=>cases hr
  rename_i e' sh'' l hbk;split at hr
  case isFalse=>cases hr
  rename_i hq;obtain⟨g1,g2⟩:=brR hr;simp only[Tree.run,qLS,qMs] at g2;obtain⟨rfl,rfl⟩:=g2;have hb0:b0∈R:=hR b0 (.inr (.inl (by simp[AV.men])));have hs:∀b,b∉R->b≠b0:=fun b hb e=>hb (e▸hb0);refine⟨by simp[zn],fun b hb=>?_,((jM h' x).set b0 .dead).set k (.vec e sh (zE l m)),?_,by simp[zn,hl],fun b hb=>?_,fun b hb=>?_⟩
  ·rw[qLV (fun e=>hk b hb e.symm),qLV (fun e=>hs b hb e.symm),q2m (hx b hb)]
  ·simp only[if_pos hc,H b0 hb0,hbk,if_pos hq,Tree.run,g1]
  ·rw[qLV (fun e=>hk b hb e.symm),qLV (fun e=>hs b hb e.symm),q2m (hx b hb)]
  ·exact qhk (by simp[zn,hl]) fun _=>qhk (by simp[zn,hl]) fun _=>hfa b hb
 ·
  rename_i sh'' l;split at hr
  case isFalse=>cases hr
  rename_i hq;obtain⟨g0,hr⟩:=brR hr;obtain⟨g1,g2⟩:=brR hr;simp only[Tree.run,qLS,qMs] at g2;obtain⟨rfl,rfl⟩:=g2;refine⟨by simp[zn],fun b hb=>?_,(jM h' x).set k (.vec e sh (zE l m)),?_,by simp[zn,hl],fun b hb=>?_,fun b hb=>?_⟩
  ·rw[qLV (fun e=>hk b hb e.symm),q2m (hx b hb)]
  ·simp only[if_pos hc,if_pos hq,Tree.run,g0,g1]
  ·rw[qLV (fun e=>hk b hb e.symm),q2m (hx b hb)]
  ·exact qhk (by simp[zn,hl]) fun _=>hfa b hb
 ·cases hr
theorem qrv (l m:List AV):AV.menL (l++m)=AV.menL l++AV.menL m:=by
 induction l with
 | nil=>rfl
 | cons a l ih=>simp only[qNi,AV.menL,ih,qMo]
theorem qxP {h h':List Blk}{u:AV}{r:List Blk}{R:List Nat}(_:∀b,(b=k\/b∈AV.menL args)->b∈R)(_:∀b,b∈R->h'[b]?=h[b]?)(_:h'.length=h.length)(hr:(qtx E h e args k).run=some (u,r)):r.length=h.length/\(∀b,b∉R->r[b]?=h[b]?)/\∃r',(qtx E h' e args k).run=some (u,r')/\(∀b,b∉R->r'[b]?=h'[b]?)/\(∀b,b∈R->r'[b]?=r[b]?):=by unfold qtx at hr;cases hr
theorem qGd {h h':List Blk}{ev:Operand->AV}{R:List Nat}(hR:qJq E ev op=some R)(H:∀b,b∈R->h'[b]?=h[b]?):ql7 E h' ev op=ql7 E h ev op:=by
 unfold ql7;unfold qJq at hR;cases hv:qh4 op with
 | false=>rfl
 | true=>
  rw[hv] at hR;simp only at hR ⊢;cases hc:j7 ev op with
  | none=>rfl
  | some q=>
   obtain⟨f,args⟩:=q;rw[hc] at hR;simp only at hR ⊢;cases hs:qfY E f with
   | none=>rfl
   | some G=>
    rw[hs] at hR;simp only[qLS] at hR ⊢;subst hR;rw[q16 args H];have:(args.flatMap zM).all (qk5 h')=(args.flatMap zM).all (qk5 h):=qzS fun b hb=>by unfold qk5;rw[H b (qvx hb)]
    rw[this]
theorem qw1 {callS:List Blk->q6h}(hmo:q4T E callS){h h':List Blk}{ev:Operand->AV}{u:AV}{r:List Blk}{R:List Nat}(hR:(vA E h ev op k u r).r=some R)(H:∀b,b∈R->h'[b]?=h[b]?) (hl:h'.length=h.length) (hr:(q3V E callS h ev op k).run=some (u,r)) :r.length=h.length/\(∀b,b∉(vA E h ev op k u r).w->r[b]?=h[b]?)/\(q3V E callS h' ev op k).run=some (u,qcH (vA E h ev op k u r).w r h'):=by
 unfold q3V vA at *;cases hloc:qsf E op with
 | false=>
  rw[hloc] at hr hR;simp only at hr hR ⊢;cases heff:ql7 E h ev op with
  | true=>
   rw[heff] at hr hR;simp only[qLS] at hr hR ⊢;subst hR;obtain⟨q,k1,k2⟩:=bind_some hr;split at k2
   case h_2=>cases k2
   rename_i hbq;cases k2;have hg:=qMU hbq;obtain⟨g',q1,q2,q3,q4⟩:=qyX k1 hl H hg;have heff':ql7 E h' ev op=true:=qHh heff H;refine⟨hg,fun b hb=>?_,?_⟩
   ·rcases qM1 b h.length with hlt|hge
    ·exact qrF k1 hlt hb
    ·rw[qMg hge,qMg (by simp only at hg;omega)]
   ·rw[heff'];simp only;rw[Tree.run_bind,q1];simp only[qMk];rw[show Nat.beq g'.length h'.length=true from by rw[q2];exact Nat.beq_refl _];simp only[Tree.run];rw[<-q25 (k':=g') (by simp only at hg;omega) q3 q4]
  | false=>
   rw[heff] at hr hR;simp only at hr hR ⊢;obtain⟨v,k1,k2⟩:=bind_some hr;simp only[Tree.run,qLS,qMs] at k2;obtain⟨rfl,rfl⟩:=k2;refine⟨rfl,fun _ _=>rfl,?_⟩;rw[qGd hR H,heff];simp only;rw[Tree.run_bind,qwz hmo hR H k1];simp only[qMk,Tree.run];rw[<-q25 (k':=h') hl.symm (fun b hb=>by cases hb) (fun _ _=>rfl)]
 | true=>
  rw[hloc] at hr hR;simp only[qLS] at hr hR ⊢;subst hR;have hk:=H k qMf;cases hdd:qtH h[k]? with
  | false=>rw[hdd] at hr;cases hr
  | true=>
   rw[hdd] at hr;rw[hk,hdd];simp only at hr ⊢;split at hr
   ·rename_i t len parts;obtain⟨q,k1,k2⟩:=bind_some hr;simp only[Tree.run,qLS,qMs] at k2;obtain⟨rfl,rfl⟩:=k2;refine⟨by simp,fun b hb=>?_,?_⟩
    ·simp only[qMb,not_or] at hb;rw[qLV (fun e=>hb.1 e.symm)]
    ·rw[qzJ hl,Tree.run_bind,k1];simp only[qMk,Tree.run];rw[<-q25 (k':=h'.set k q.2) (by simp[hl]) (fun b hb=>qhk hl fun _=>H b hb) (fun b hb=>by simp only[qMb,not_or] at hb;rw[qLV (fun e=>hb.1 e.symm)])]
   ·rename_i t;unfold qw4 at hr ⊢;split at hr
    case h_2=>cases hr
    split at hr
    case h_2=>cases hr
    simp only[Tree.run,qLS,qMs] at hr;obtain⟨rfl,rfl⟩:=hr;rename_i _ z hz _ hzm;refine⟨by simp,fun b hb=>?_,?_⟩
    ·simp only[qMb,not_or] at hb;rw[qLV (fun e=>hb.1 e.symm)]
    ·simp only[Tree.run];rw[<-q25 (k':=h'.set k z) (by simp[hl]) (fun b hb=>qhk hl fun _=>H b hb) (fun b hb=>by simp only[qMb,not_or] at hb;rw[qLV (fun e=>hb.1 e.symm)])]
   ·rename_i args tys;have hmen:qsk ev (.call { callee:=.builtin .append,args:=args,argTypes:=tys })=AV.menL (args.toList.map ev):=by unfold qsk j7;simp[Op.operands,Call.operands]
    rw[hmen] at H ⊢;unfold qyH at hr ⊢;generalize args.toList.map ev=als at *;split at hr
    case h_2=>cases hr
    rename_i t t' sa xa htys;split at hr
    case isFalse=>cases hr
    rename_i htt;have hR':∀b,(b=k\/b∈sa.men\/b∈xa.men)->b∈k::AV.menL [sa,xa]:=by intro b hb;simp only[AV.menL,qMT,qMb,qMi];exact hb
    obtain⟨q1,q2,r',q3,q4,q5,q6⟩:=qyf hR' H hl hr;refine⟨q1,q2,?_⟩;simp only[if_pos htt];rw[q3,<-q25 (k':=r') (by rw[q1,hl]) q6 q5]
   ·unfold qvV at hr ⊢;cases hc:qmV op with
    | none=>rw[hc] at hr;cases hr
    | some q=>
    obtain⟨fn,xs⟩:=q;rw[hc] at hr;obtain⟨args,tys,rfl,rfl⟩:=qmn hc;have hmen:qsk ev (.call { callee:=.value (.func fn),args:=args,argTypes:=tys })=AV.menL (args.toList.map ev)\/AV.menL (args.toList.map ev) ⊆ qsk ev (.call { callee:=.value (.func fn),args:=args,argTypes:=tys }):=by
     right;unfold qsk;cases hco:j7 ev (.call { callee:=.value (.func fn),args:=args,argTypes:=tys }) with
     | none=>
      simp only[Op.operands,Call.operands,qNU,qMe];intro b hb;rw[qrv];exact qMC _ hb
     | some q=>
      obtain⟨g,azz⟩:=q;unfold j7 at hco;simp only at hco;split at hco
      ·cases hco;intro b hb;simp only[qrv];exact qMN _ (qMC _ hb)
      ·cases hco
    have hsub:∀b,b∈AV.menL (args.toList.map ev)->b∈k::qsk ev (.call { callee:=.value (.func fn),args:=args,argTypes:=tys }):=by
     intro b hb;rcases hmen with e|e
     ·rw[e];exact qMh _ hb
     ·exact qMh _ (e hb)
    generalize qsk ev (.call { callee:=.value (.func fn),args:=args,argTypes:=tys })=M at *;simp only at hr ⊢;split at hr
    ·rename_i e hde;obtain⟨q1,q2,r',q3,q4,q5⟩:=qxP (R:=k::M) (fun b hb=>hb.elim (fun e=>e▸qMf) (hsub b)) H hl hr;refine⟨q1,q2,?_⟩;rw[q3,<-q25 (k':=r') (by rw[q1,hl]) q5 q4]
    ·unfold qED at hr ⊢;split at hr
     case h_2=>cases hr
     split at hr
     case h_2=>cases hr
     rename_i hme;obtain⟨q,k1,k2⟩:=bind_some hr;split at k2
     case h_2=>cases k2
     rename_i e sh l;simp only[Tree.run,qLS,qMs] at k2;obtain⟨rfl,rfl⟩:=k2;have hfr:∀c,c∈k::M->(qF h' ((args.toList.map ev).flatMap zM))[c]?=(qF h ((args.toList.map ev).flatMap zM))[c]?:=fun c hc=>qhG _ _ _ hl (H c hc);have hle:=q16 (args.toList.map ev) fun b hb=>hfr b (hsub b hb);have out:∀(g:List Blk) (c:Nat),c∉k::M->((qF g ((args.toList.map ev).flatMap zM)).set k (.vec e sh l))[c]?=g[c]?:=fun g c hc'=>by rw[qLV (fun e'=>hc' (by rw[<-e'];exact qMf)),qe8 _ _ fun hm=>hc' (hsub c (qvx hm))]
     refine⟨by simp[jF],out h,?_⟩;rw[hle,hme];simp only;rw[Tree.run_bind,k1];simp only[qMk,Tree.run];rw[<-q25 (k':=(qF h' ((args.toList.map ev).flatMap zM)).set k (.vec e sh l)) (by simp[jF,hl]) (fun c hc'=>qhk (by simp[jF,hl]) fun _=>hfr c hc') (out h')]
def inR(r:Option (List Nat))(b:Nat):Prop:=∀R,r=some R->b∈R
theorem qxV {callS:List Blk->q6h}{h g:List Blk}{ev:Operand->AV}{u:AV}(hR:(vA E h ev op k u g).r=none)(hr:(q3V E callS h ev op k).run=some (u,g)):(vA E h ev op k u g).w=[]/\g=h:=by
 unfold vA at *;unfold q3V at hr;cases hl:qsf E op with
 | true=>rw[hl] at hR;cases hR
 | false=>
  rw[hl] at hR hr;simp only at hR hr ⊢;cases he:ql7 E h ev op with
  | true=>rw[he] at hR;cases hR
  | false=>
   rw[he] at hr;obtain⟨v,k1,k2⟩:=bind_some hr;cases k2;exact⟨rfl,rfl⟩
theorem qj7 {callS:List Blk->q6h}(hmo:q4T E callS){h h':List Blk}{ev:Operand->AV}{u:AV}{r:List Blk}(H:∀b,inR (vA E h ev op k u r).r b->h'[b]?=h[b]?) (hl:h'.length=h.length) (hr:(q3V E callS h ev op k).run=some (u,r)) :r.length=h.length/\(∀b,b∉(vA E h ev op k u r).w->r[b]?=h[b]?)/\(q3V E callS h' ev op k).run=some (u,qcH (vA E h ev op k u r).w r h'):=by
 cases hR:(vA E h ev op k u r).r with
 | some R=>exact qw1 hmo hR (fun b hb=>H b fun R' e=>by rw[hR] at e;cases e;exact hb) hl hr
 | none=>
  have e:h'=h:=qML fun b=>H b fun R e=>by rw[hR] at e;cases e
  subst e;obtain⟨hw,hg⟩:=qxV hR hr;rw[hw];have:qcH [] r h'=r:=by rw[hg];exact(q25 (k':=h') rfl (fun _ hb=>by cases hb) fun _ _=>rfl).symm
  rw[this];exact⟨by rw[hg],fun b _=>by rw[hg],hr⟩
theorem qxA (_:E.tok P)(_:qmF P f e)(_:Sim E B X st a){vargs:List Value}(_:RepL X args vargs){r:AV×St}(h:(qEA E e args st).run=some r):Calls P f vargs.toArray X.w fun x w'=>∃v X',x=.returned v/\X'.w=w'/\Rep X' r.1 v/\Sim E B X' r.2 a:=by unfold qEA at h;cases h
end Go.Eng

namespace Go.Eng
variable {E:Env}{k:Nat}{op:Op}
inductive LocOK (E:Env) (callS:List Blk->q6h) (all:Array Oper) (c:Nat) (i:Nat) (o:Oper) (T:List AV) (v:AV) (h h':List Blk) (d:Option LDesc):Prop
 | out (h1:q58 all o T=some false) (h2:v=.skip) (h3:h'=h) (h4:d=none)
 | op (u:AV) (h1:q58 all o T=some true) (h2:(q3V E callS h (E.opd T) o.op c).run=some (u,h')) (h3:v=qz3 all i u) (h4:d=some (vA E h (E.opd T) o.op c u h'))
   (h5:∀b,b∈(vA E h (E.opd T) o.op c u h').v->b<h.length)
theorem qF2 {h g:List Blk}{ev:Operand->AV}{u:AV}{b:Nat}(hb:b∈u.men):b∈(vA E h ev op k u g).v:=by
 unfold vA;split
 ·exact qMN _ hb
 ·split
  ·exact qMN _ hb
  ·exact hb
theorem qDd {h g:List Blk}{ev:Operand->AV}{u:AV}{b c:Nat}{z:Blk}(hb:b∈(vA E h ev op k u g).w)(hz:g[b]?=some z)(hc:c∈z.menB):c∈(vA E h ev op k u g).v:=by
 unfold vA at *;split at hb
 ·exact qMC _ (qlN hz hc _ hb)
 ·split at hb
  ·exact qMC _ (qlN hz hc _ hb)
  ·cases hb
theorem qwV {h g:List Blk}{ev:Operand->AV}{u:AV}(hl:qsf E op=true):(vA E h ev op k u g).s=some k:=by unfold vA;rw[hl]
theorem qu4{E:Env}{callS:List Blk->q6h}{all:Array Oper}{anc:List Nat}:∀(l:List Oper) (k c:Nat) (ds:List (Nat×LDesc)) (st st':St),
  (qys E callS all anc k l c ds st).run=some st' ->
  ∃(V:Nat->AV) (H:Nat->List Blk) (D:Nat->Option LDesc) (S:Nat->Nat),(∀j,c<=S (k+j))/\H k=st.h/\st'={ st with t:=qd2 V k l st.t,h:=H (k+l.length) } /\
   (∀j o,l[j]?=some o->LocOK E callS all (S (k+j)) (k+j) o (qd2 V k (l.take j) st.t) (V (k+j)) (H (k+j)) (H (k+j+1)) (D (k+j))) /\
   (∀j d,j<l.length->D (k+j)=some d->∀x,x∈ds->qhd anc x (k+j) d=true) /\
   (∀j j' d d',j<j'->j'<l.length->D (k+j)=some d->D (k+j')=some d'->qhd anc (k+j,d) (k+j') d'=true)
 | [],k,c,ds,st,st',h=>by
  simp only[qys,Tree.run,qLS] at h;subst h;exact⟨fun _=>.undef,fun _=>st.h,fun _=>none,fun _=>c,fun _=>qLU _,rfl,rfl,fun j o hj=>by simp at hj,fun j d hj=>by simp at hj,fun j j' _ _ _ hj=>by simp at hj⟩
 | o::rest,k,c,ds,st,st',h=>by
  have fin:∀(v:AV) (h':List Blk) (d:Option LDesc) (c':Nat) (ds':List (Nat×LDesc)),c<=c'->LocOK E callS all c k o st.t v st.h h' d->(∀d0,d=some d0->∀x,x∈ds->qhd anc x k d0=true)->(∀x,x∈ds->x∈ds')->(∀d0,d=some d0->(k,d0)∈ds') ->
    (qys E callS all anc (k+1) rest c' ds' { st with t:=qiv st.t o.dst v,h:=h' }).run=some st' ->
    ∃(V:Nat->AV) (H:Nat->List Blk) (D:Nat->Option LDesc) (S:Nat->Nat),(∀j,c<=S (k+j))/\H k=st.h/\st'={ st with t:=qd2 V k (o::rest) st.t,h:=H (k+(o::rest).length) } /\
   (∀j o',(o::rest)[j]?=some o'->LocOK E callS all (S (k+j)) (k+j) o' (qd2 V k ((o::rest).take j) st.t) (V (k+j)) (H (k+j)) (H (k+j+1)) (D (k+j))) /\
   (∀j d,j<(o::rest).length->D (k+j)=some d->∀x,x∈ds->qhd anc x (k+j) d=true) /\
   (∀j j' d d',j<j'->j'<(o::rest).length->D (k+j)=some d->D (k+j')=some d'->qhd anc (k+j,d) (k+j') d'=true):=by
   intro v h' d c' ds' hcc hmx hcr hds hd hr;obtain⟨V,H,D,S,e0,e1,e2,e3,e4,e5⟩:=qu4 rest (k+1) c' ds' _ st' hr;have hfold:∀(l:List Oper) (t:List AV),qd2 (fun j=>if j=k then v else V j) (k+1) l t=qd2 V (k+1) l t:=fun l t=>qpP l (k+1) t fun j hj=>if_neg (by omega);refine⟨fun j=>if j=k then v else V j,fun j=>if j=k then st.h else H j,fun j=>if j=k then d else D j,fun j=>if j=k then c else S j,fun j=>?_,by simp,?_,?_,?_,?_⟩
   ·cases j with
    | zero=>simp
    | succ j=>
     have:=e0 j;simp only[show k+(j+1)=k+1+j by omega,show ¬k+1+j=k by omega,if_false];omega
   ·rw[e2];simp only[qd2,if_true,qMn];rw[hfold,if_neg (by omega),show k+(rest.length+1)=k+1+rest.length by omega]
   ·intro j o' hj;cases j with
    | zero=>
     simp only[qN9,qLS] at hj;subst hj;simp only[qMK,if_true,List.take_zero,qd2];rw[if_neg (by omega),e1];exact hmx
    | succ j=>
     have:=e3 j o' (by simpa using hj);simp only[List.take_succ_cons,qd2,if_true];rw[hfold,show k+(j+1)=k+1+j by omega,if_neg (by omega),if_neg (by omega),if_neg (by omega),if_neg (by omega),if_neg (by omega)];exact this
   ·intro j d0 hj hdj x hx;cases j with
    | zero=>simp only[qMK,if_true] at hdj ⊢;exact hcr d0 hdj x hx
    | succ j=>
     simp only at hdj;rw[show k+(j+1)=k+1+j by omega,if_neg (by omega)] at hdj;have:=e4 j d0 (by simpa using hj) hdj x (hds x hx);rw[show k+(j+1)=k+1+j by omega];exact this
   ·intro j j' d0 d0' hjj hj' hdj hdj';obtain⟨j'',rfl⟩:∃x,j'=x+1:=⟨j'-1,by omega⟩;have hl:j''<rest.length:=by simpa using hj'
    simp only at hdj hdj';rw[show k+(j''+1)=k+1+j'' by omega,if_neg (by omega)] at hdj';rw[show k+(j''+1)=k+1+j'' by omega];cases j with
    | zero=>
     simp only[qMK,if_true] at hdj ⊢;exact e4 j'' d0' hl hdj' _ (hd d0 hdj)
    | succ j=>
     rw[show k+(j+1)=k+1+j by omega,if_neg (by omega)] at hdj;rw[show k+(j+1)=k+1+j by omega];exact e5 j j'' d0 d0' (by omega) hl hdj hdj'
  simp only[qys] at h;cases hw:q58 all o st.t with
  | none=>rw[hw] at h;cases h
  | some b=>
   rw[hw] at h;cases b with
   | true=>
    simp only at h;obtain⟨r,h1,h2⟩:=bind_some h;split at h2
    ·rename_i hall;simp only[qM7,qMq] at hall;obtain⟨c2,c3⟩:=hall;obtain⟨s,h3,h4⟩:=bind_some h2;obtain⟨u,h'⟩:=r;obtain rfl:=qF9 (st:={ st with h:=h' }) h3;exact fin _ h' (some (vA E st.h (E.opd st.t) o.op c u h')) _ _ (by split<;>omega) (.op u hw h1 rfl rfl fun b hb=>Nat.blt_eq.mp (c2 b hb)) (fun d0 he x hx=>by cases he;exact c3 x hx) (fun x hx=>qMN _ hx) (fun d0 he=>by cases he;exact qMC _ qMf) h4
    ·cases h2
   | false=>
    simp only at h;exact fin .skip st.h none c ds (qLU _) (.out hw rfl rfl rfl) (fun d0 he=>by cases he) (fun x hx=>hx) (fun d0 he=>by cases he) h
section
variable (W:Nat->List Nat) (H:Nat->List Blk) (h0:List Blk)
def hLp(L:Nat->Bool):Nat->List Blk
 | 0=>h0
 | m+1=>if L m=true then qcH (W m) (H (m+1)) (hLp L m) else hLp L m
variable {W H h0}
theorem q9A(L:Nat->Bool):∀m,(hLp W H h0 L m).length=h0.length
 | 0=>rfl
 | m+1=>by simp only[hLp];split<;>simp[qCH,q9A L m]
theorem qzF{L:Nat->Bool}{b lo:Nat}:∀m,lo<=m->(∀j,lo<=j->j<m->L j=true->b∉W j)->(hLp W H h0 L m)[b]?=(hLp W H h0 L lo)[b]?
  | 0, h, _ => by have : lo = 0 := by omega
                  rw[this]
  | m+1,h,hj=>by
    rcases qNt h with rfl|h
    · rfl
    · rw[<-qzF m (by omega) fun j h1 h2=>hj j h1 (by omega)]
      simp only[hLp];split
      · rename_i hl
        exact qi4 (hj m (by omega) (by omega) hl)
      · rfl
theorem qux{L L':Nat->Bool}{b:Nat}(hH:∀m,(H m).length=h0.length):∀m,(∀j,j<m->b∈W j->L j=L' j)->(hLp W H h0 L m)[b]?=(hLp W H h0 L' m)[b]?
 | 0,_=>rfl
 | m+1,hj=>by
  have ih:=qux (L:=L) (L':=L') hH m fun j h1=>hj j (by omega);by_cases hb:b∈W m
  ·have:=hj m (by omega) hb;simp only[hLp];rw[this];split
   ·rw[qg0 hb (by rw[q9A,hH]),qg0 hb (by rw[q9A,hH])]
   ·exact ih
  ·have out:∀L:Nat->Bool,(hLp W H h0 L (m+1))[b]?=(hLp W H h0 L m)[b]?:=fun L=>by
    simp only[hLp];split
    ·exact qi4 hb
    ·rfl
   rw[out,out,ih]
theorem qqs{L L':Nat->Bool}:∀m,(∀j,j<m->L j=L' j)->hLp W H h0 L m=hLp W H h0 L' m
 | 0,_=>rfl
 | m+1,h=>by
  simp only[hLp];rw[h m (qNI m),qqs m fun j hj=>h j (by omega)]
theorem qDF(hk:∀i,(H (i+1)).length=(H i).length/\∀b,b∉W i->(H (i+1))[b]?=(H i)[b]?)(h1:H 0=h0):∀m,hLp W H h0 (fun _=>true) m=H m
 | 0=>h1.symm
 | m+1=>by
  simp only[hLp,if_true];rw[qDF hk h1 m];exact(q25 (hk m).1 (fun _ _=>rfl) (hk m).2).symm
theorem qDk {L:Nat->Bool}{i m:Nat}(hi:i<m)(hL:L i=false)(hH:∀m,(H m).length=h0.length)(hu:∀j,i<j->j<m->L j=true->∀b,b∈W i->b∉W j) :hLp W H h0 (fun j=>if j=i then true else L j) m=qcH (W i) (H (i+1)) (hLp W H h0 L m):=by
 refine q25 (by rw[hH,q9A]) (fun b hb=>?_) (fun b hb=>?_)
 ·rw[qzF (lo:=i+1) m (by omega) fun j h1 h2 h3=>hu j (by omega) h2 (by rwa [if_neg (by omega)] at h3) b hb];simp only[hLp,if_true];exact qg0 hb (by rw[q9A,hH])
 ·refine qux hH m fun j _ hbj=>if_neg fun e=>?_;subst e;exact hb hbj
theorem qI6 {h:List Blk}{c:Nat}(hb:∀(b:Nat) (k:Blk),h[b]?=some k->c∉k.menB):c∉qci h:=by
 induction h with
 | nil=>intro h;cases h
 | cons k h ih=>
  simp only[qci,qMi,not_or];exact⟨hb 0 k rfl,ih fun b k' hk=>hb (b+1) k' (by simpa using hk)⟩
theorem qDM{L:Nat->Bool}{c:Nat}(hH:∀m,(H m).length=h0.length)(h1:c∉qci h0):∀m,(∀j,j<m->L j=true->∀b z,b∈W j->(H (j+1))[b]?=some z->c∉z.menB)->c∉qci (hLp W H h0 L m)
 | 0,_=>h1
 | m+1,h2=>by
  have ih:=qDM (L:=L) hH h1 m fun j hj=>h2 j (by omega);simp only[hLp];split
  ·rename_i hL;refine qI6 fun b k hk=>?_;by_cases hb:b∈W m
   ·rw[qg0 hb (by rw[q9A,hH])] at hk;exact h2 m (qNI m) hL b k hb hk
   ·rw[qi4 hb] at hk;exact qpk ih hk
  ·exact ih
end
theorem qtz {w:List Nat}{r:Option (List Nat)}(h:qHc w r=true):∀b,b∈w->¬inR r b:=by
 intro b hb hi;cases w with
 | nil=>cases hb
 | cons a w=>
  cases r with
  | none=>cases h
  | some R=>
   simp only[qHc,qMq,qNu,List.contains_eq_mem,decide_eq_false_iff_not] at h;exact h b hb (hi R rfl)
def wOf(D:Nat->Option LDesc)(j:Nat):List Nat:=match D j with
 | some d=>d.w
 | none=>[]
theorem qAt {v:List Nat}(h:qKV (some k) v=false):k∉v:=by simpa[qKV] using h
theorem qKz {h g:List Blk}{ev:Operand->AV}{u:AV}{R:List Nat}(hR:(vA E h ev op k u g).r=some R):∀b,b∈(vA E h ev op k u g).w->b∈R:=by
 unfold vA at *;split at hR
 ·simp only[qLS] at hR;subst hR;exact fun b hb=>hb
 ·split at hR
  ·simp only[qLS] at hR;subst hR;exact fun b hb=>qMC _ hb
  ·intro b hb;cases hb
section
variable {E:Env} {P:Program} {callS:List Blk->q6h} {B:Base} {all:Array Oper} {V:Nat->AV} {T0:List AV} {H:Nat->List Blk} {D:Nat->Option LDesc} {fs:List (List AV)} {pd:Option Ex} {Q:Exit->Act->World->Prop} {n0 m base:Nat} {S:Nat->Nat}
theorem qEc (hE:E.tok P)(hS:E.specs P)(hc:qjV E P callS)(hmo:q4T E callS)(hd:DrawOk all)(hms:m<=all.size)(hV:∀i o,all[i]?=some o->i<m->LocOK E callS all (S i) i o (TLp (yl all) V T0 (fun _=>true) i) (V i) (H i) (H (i+1)) (D i))(hX:∀i j d d',i<j->j<m->D i=some d->D j=some d'->qhd (qfL all.toList) (i,d) j d'=true)(hcon:∀i,m<=i->H i=H m) (_:∀i,m<=i->D i=none)(hlen:base<=(H 0).length) (hSb:∀i,base<=S i) (hT0:∀c,base<=c->c∉AV.menL T0) (hfs:∀c,base<=c->c∉qkP fs) (hH0:∀c,base<=c->c∉qci (H 0))(hq:all.size<=m->∀X a,Sim E B X { t:=TLp (yl all) V T0 (fun _=>true) all.size,fs:=fs,pend:=pd,h:=H m } a->Q .normal a X.w)(hlast:∀i fuel listed X a,i<all.size->m<=i->listed.size=all.size->i∈Region.ready .any all listed->qnQ all (fun j=>listed.getD j false)->(∀j,m<=j->j<all.size->listed.getD j false=false)->(∀j,j<m->listed.getD j false=true) ->Sim E B X { t:=TLp (yl all) V T0 (fun j=>listed.getD j false) all.size,fs:=fs,pend:=pd,h:=H m } a ->unl listed all.size<=fuel+1->wpOpIn (q3J B.ro) n0 P all Q i (wpAnyIn (q3J B.ro) n0 P .any all Q fuel (listed.setIfInBounds i true)) a X.w)(hsuf:∀i j,m<=i->i<all.size->j<i->((qfL all.toList).getD i 0).testBit j=true) :∀(fuel:Nat) (listed:Array Bool) (X:Ctx) (a:Act),listed.size=all.size->qnQ all (fun j=>listed.getD j false)->(∀i,m<=i->i<all.size->listed.getD i false=false) ->unl listed all.size<=fuel->Sim E B X { t:=TLp (yl all) V T0 (fun j=>listed.getD j false) all.size,fs:=fs,pend:=pd,h:=hLp (wOf D) H (H 0) (fun j=>listed.getD j false) m } a->wpAnyIn (q3J B.ro) n0 P .any all Q fuel listed a X.w:=by
 intro fuel;have step:∀i,(H (i+1)).length=(H i).length/\∀b,b∉wOf D i->(H (i+1))[b]?=(H i)[b]?:=by
  intro i;rcases qM1 i m with him|him
  ·have hi:i<all.size:=by omega
   cases hV i _ (qNB hi) him with
   | out h1 h2 h3 h4=>rw[h3];exact⟨rfl,fun _ _=>rfl⟩
   | op u h1 h2 h3 h4 h5=>
    obtain⟨q1,q2,_⟩:=qj7 (h':=H i) hmo (fun _ _=>rfl) rfl h2;refine⟨q1,?_⟩;unfold wOf;rw[h4];exact q2
  ·rw[hcon i him,hcon (i+1) (by omega)];exact⟨rfl,fun _ _=>rfl⟩
 have hlenA:∀i,(H i).length=(H 0).length:=by
  intro i;induction i with
  | zero=>rfl
  | succ i ih=>rw[(step i).1,ih]
 have hall:∀i,hLp (wOf D) H (H 0) (fun _=>true) i=H i:=qDF step rfl;have toEnd:∀(listed:Array Bool),(∀j,j<m->listed.getD j false=true)->hLp (wOf D) H (H 0) (fun j=>listed.getD j false) m=H m:=by intro listed h;rw[<-hall m];exact qqs m h
 have fin:∀(listed:Array Bool) (X:Ctx) (a:Act),listed.size=all.size->(∀i,m<=i->i<all.size->listed.getD i false=false)->Region.ready .any all listed=[] ->
   Sim E B X { t:=TLp (yl all) V T0 (fun j=>listed.getD j false) all.size,fs:=fs,pend:=pd,h:=hLp (wOf D) H (H 0) (fun j=>listed.getD j false) m } a->Q .normal a X.w:=by
  intro listed X a hsz hm hr hs;have hal:=qwB hd hsz hr;rcases qM1 m all.size with hlt|hge
  ·have:=hm m (qLU _) hlt;rw[hal m hlt] at this;cases this
  ·rw[toEnd listed fun j hj=>hal j (by omega)] at hs;rw[stL (L':=fun _=>true) all.size fun j hj=>hal j hj] at hs;exact hq hge X a hs
 induction fuel with
 | zero=>
  intro listed X a hsz hcl hm hu hs;have hr:Region.ready .any all listed=[]:=by
   apply List.eq_nil_iff_forall_not_mem.2;intro j hj;rw[mem_ready] at hj;obtain⟨h1,o,h2,_⟩:=hj;have hj':=(qLY.1 h2).1;have:=qvM (listed:=listed) (Nat.le_zero.1 hu) j hj';have hj2:j<listed.size:=by omega
   simp[hj2] at this h1;rw[this] at h1;cases h1
  exact⟨hr,fin listed X a hsz hm hr hs⟩
 | succ fuel ih=>
  intro listed X a hsz hcl hm hu hs;refine⟨fun hr=>fin listed X a hsz hm hr hs,fun i hi=>?_⟩;have hri:=hi;rw[mem_ready] at hi;obtain⟨h1,o,ho,hedge⟩:=hi;have hin:=(qLY.1 ho).1;have hil:i<listed.size:=by omega
  have hLi:listed.getD i false=false:=by simpa[qNb,hil] using h1
  have hedge':∀e,e∈o.after.toList->Region.binds .any e=true->listed.getD e.on false=true:=fun e he hb=>hedge e (by simpa using he) hb;have hcl':=qnc hsz ho hcl hedge';have before:∀k,k≠i->qJz (qfL all.toList) i k=true->listed.getD k false=true:=by
   intro k hki hk;have:=qts hd hcl' i k (by show (listed.setIfInBounds i true).getD i false=true;rw[q0g hil,if_pos rfl]) hk;have h':(listed.setIfInBounds i true).getD k false=true:=this
   rwa [q0g hil,if_neg hki] at h'
  have behind:∀k,qJz (qfL all.toList) k i=true->listed.getD k false=false:=by
   intro k hk;cases hl:listed.getD k false with
   | false=>rfl
   | true=>
    have:=qts hd hcl k i hl hk;have h':listed.getD i false=true:=this;rw[hLi] at h';cases h'
  rcases qM1 i m with him|him
  ·have hv:=hV i o ho him;have hsame:∀t,t∈qBx all o->(TLp (yl all) V T0 (fun j=>listed.getD j false) all.size)[t]?=(TLp (yl all) V T0 (fun _=>true) i)[t]?:=fun t ht=>
    qI8 hd hcl ho (Nat.le_of_lt hin) hLi hedge' ht
   have hopd:∀x,x∈o.op.operands.toList->E.opd (TLp (yl all) V T0 (fun j=>listed.getD j false) all.size) x=E.opd (TLp (yl all) V T0 (fun _=>true) i) x:=fun x hx=>by
    cases x with
    | tmp t=>
     have:=hsame t (qMN _ (List.mem_filterMap.2 ⟨.tmp t,hx,rfl⟩));simp only[Env.opd,qLT];rw[this]
    | const v=>rfl
    | global g=>rfl
    | func f=>rfl
   have hwant:q58 all o (TLp (yl all) V T0 (fun j=>listed.getD j false) all.size)=q58 all o (TLp (yl all) V T0 (fun _=>true) i):=by
    unfold q58;cases hg:o.guard with
    | none=>rfl
    | some p=>
     obtain⟨j,want⟩:=p;simp only;cases hj:(all[j]?).bind (·.dst) with
     | none=>rfl
     | some d=>
      simp only;rw[hsame d (by simp[qBx,hg,hj])]
   have hun:unl (listed.setIfInBounds i true) all.size<=fuel:=by have:=(qz5 hil hLi all.size).2 hin;omega
   have hdi:yl all i=o.dst:=by simp[yl,ho]
   have hnext:∀(X':Ctx) (u:Value),Sim E B X' { t:=TLp (yl all) V T0 (fun j=>listed.getD j false) all.size,fs:=fs,pend:=pd,h:=hLp (wOf D) H (H 0) (fun j=>(listed.setIfInBounds i true).getD j false) m } a->Rep X' (V i) u ->
     wpAnyIn (q3J B.ro) n0 P .any all Q fuel (listed.setIfInBounds i true) (a.put o.dst u) X'.w:=by
    intro X' u hs' hu';refine ih _ X' _ (by simp[hsz]) hcl' ?_ hun ?_
    ·intro k hk1 hk2;rw[q0g hil,if_neg (by omega)];exact hm k hk1 hk2
    ·have hput:=hs'.put hu' o.dst;have hT:TLp (yl all) V T0 (fun j=>(listed.setIfInBounds i true).getD j false) all.size=qiv (TLp (yl all) V T0 (fun j=>listed.getD j false) all.size) o.dst (V i):=by
      rw[<-hdi,<-qIl hin hLi]
      ·exact stL all.size fun j _=>q0g hil
      ·intro k hk hki t ht he;cases hk':all[k]? with
       | none=>simp[yl,hk'] at he
       | some ok=>
        simp only[yl,hk',qMk] at he;rw[hdi] at ht;exact(hd.dst i k o ok ho hk' hki t he).1 ht
     rw[hT];exact hput
   have hLset:hLp (wOf D) H (H 0) (fun j=>(listed.setIfInBounds i true).getD j false) m=hLp (wOf D) H (H 0) (fun j=>if j=i then true else listed.getD j false) m:=qqs m fun j _=>q0g hil;unfold wpOpIn;rw[ho];simp only;cases hv with
   | out w1 w2 w3 w4=>
    rw[q8z hs.t (hwant.trans w1)];simp only[qMv,if_false];refine⟨fun _ _=>trivial,hnext X _ ?_ (by rw[w2];exact .skip)⟩;rw[hLset,qDk him hLi hlenA (fun j _ _ _ b hb=>by unfold wOf at hb;rw[w4] at hb;cases hb)];have:wOf D i=[]:=by unfold wOf;rw[w4]
    rw[this,<-q25 (k':=hLp (wOf D) H (H 0) (fun j=>listed.getD j false) m) (by rw[hlenA,q9A]) (fun b hb=>by cases hb) (fun _ _=>rfl)];exact hs
   | op u w1 w2 w3 w4 w5=>
    rw[q8z hs.t (hwant.trans w1)];simp only[if_true];have hwi:wOf D i=(vA E (H i) (E.opd (TLp (yl all) V T0 (fun _=>true) i)) o.op (S i) u (H (i+1))).w:=by unfold wOf;rw[w4]
    obtain⟨d0,hd0⟩:∃d0,d0=(vA E (H i) (E.opd (TLp (yl all) V T0 (fun _=>true) i)) o.op (S i) u (H (i+1))):=⟨_,rfl⟩;have wr:∀j b,inR d0.r b->b∈wOf D j->j<m->j≠i->(j<i->qJz (qfL all.toList) i j=true)/\(i<j->qJz (qfL all.toList) j i=true):=by
     intro j b hb hbj hjm hji;cases hDj:D j with
     | none=>unfold wOf at hbj;rw[hDj] at hbj;cases hbj
     | some dj=>
      have hbj':b∈dj.w:=by unfold wOf at hbj;rw[hDj] at hbj;exact hbj
      refine⟨fun hlt=>?_,fun hlt=>?_⟩
      ·have:=hX j i dj _ hlt him hDj w4;unfold qhd at this;simp only[qM7,qNj] at this;rcases this.2 with h3|h3
       ·exact h3
       ·rw[<-hd0] at h3;exact absurd hb (qtz h3.2.1 b hbj')
      ·have:=hX i j _ dj hlt hjm w4 hDj;unfold qhd at this;simp only[qM7,qNj] at this;rcases this.2 with h3|h3
       ·exact h3
       ·rw[<-hd0] at h3;exact absurd hb (qtz h3.2.2 b hbj')
    have hat:∀b,inR d0.r b->(hLp (wOf D) H (H 0) (fun j=>listed.getD j false) m)[b]?=(H i)[b]?:=by
     intro b hb;rw[<-hall i,qzF (lo:=i) m (by omega) fun j h3 h4 h5 h6=>?_]
     ·refine qux hlenA i fun j h3 h4=>?_;exact before j (by omega) ((wr j b hb h4 (by omega) (by omega)).1 h3)
     ·have hji:j≠i:=fun e=>by rw[e,hLi] at h5;cases h5
      have:=behind j ((wr j b hb h6 h4 hji).2 (by omega));rw[this] at h5;cases h5
    have hln:(hLp (wOf D) H (H 0) (fun j=>listed.getD j false) m).length=(H i).length:=by rw[q9A];exact(hlenA i).symm
    obtain⟨_,_,hrun⟩:=qj7 hmo (hd0▸hat) hln w2;have hnew:hLp (wOf D) H (H 0) (fun j=>(listed.setIfInBounds i true).getD j false) m=qcH (wOf D i) (H (i+1)) (hLp (wOf D) H (H 0) (fun j=>listed.getD j false) m):=by rw[hLset,qDk him hLi hlenA fun j h3 h4 h5 b hb hbj=>?_];have:=behind j ((wr j b (fun R hR=>qKz (hd0▸hR) b (hwi▸hb)) hbj h4 (by omega)).2 h3);rw[this] at h5;cases h5
    rw[<-hwi,<-hnew,<-qv1 hopd] at hrun;have ups:∀j,j<all.size->listed.getD j false=true->j<m/\j≠i:=fun j hj hLj=>by
     refine⟨?_,fun e=>by rw[e,hLi] at hLj;cases hLj⟩;rcases qM1 j m with h|h
     ·exact h
     ·rw[hm j h hj] at hLj;cases hLj
    have free:∀c,base<=c->(∀j d,j<m->listed.getD j false=true->D j=some d->c∉d.v)->c∉AV.menL (TLp (yl all) V T0 (fun j=>listed.getD j false) all.size)/\c∉qci (hLp (wOf D) H (H 0) (fun j=>listed.getD j false) m):=by
     intro c hbc hno;refine⟨qFm (hT0 _ hbc) _ fun j hj hLj=>?_,qDM hlenA (hH0 _ hbc) m fun j hj hLj b z hb hz=>?_⟩
     ·have hjm:=(ups j hj hLj).1;cases hV j _ (qNB hj) hjm with
      | out _ q2 _ _=>rw[q2];simp[AV.men]
      | op uj _ _ q3 q4 _=>
       rw[q3];exact qDb fun hmm=>hno j _ hjm hLj q4 (qF2 hmm)
     ·cases hV j _ (qNB (by omega)) hj with
      | out _ _ _ q4=>unfold wOf at hb;rw[q4] at hb;cases hb
      | op uj _ _ _ q4 _=>
       unfold wOf at hb;rw[q4] at hb;exact fun hmm=>hno j _ hj hLj q4 (qDd hb hz hmm)
    cases hloc:qsf E o.op with
    | true=>
     obtain⟨f1,f2⟩:=free (S i) (hSb i) fun j d hj hLj q4 hmm=>by
      obtain⟨_,hji⟩:=ups j (by omega) hLj;rcases qM1 j i with h3|h3
      ·have:=hX j i _ _ h3 him q4 w4;unfold qhd at this;rw[qwV hloc] at this;simp only[qM7,qNu] at this;exact qAt this.1 hmm
      ·have:=hX i j _ _ (by omega) hj w4 q4;unfold qhd at this;simp only[qwV hloc] at this;simp only[qM7,qNj,qNu] at this;rcases this.2 with h4|h4
       ·rw[behind j h4] at hLj;cases hLj
       ·exact qAt h4.1 hmm
     obtain⟨g1,g2⟩:=free (H 0).length hlen fun j d hj hLj q4 hmm=>by
      cases hV j _ (qNB (show j<all.size by omega)) hj with
      | out _ _ _ q5=>rw[q5] at q4;cases q4
      | op uj _ _ _ q5 q6=>
       rw[q5] at q4;cases q4;have:=q6 _ hmm;rw[hlenA j] at this;omega
     refine qpw B.ro n0 (qvr hE hS hs hrun hloc f2 f1 (hfs _ (hSb i)) ?_ ?_ ?_ fun X' v hs' hv'=>hnext X' v hs' (by rw[w3];exact qrH hv')) (fun c hcc=>by rw[hcc] at hloc;cases hloc)
     ·rw[q9A];exact g2
     ·rw[q9A];exact g1
     ·rw[q9A];exact hfs _ hlen
    | false=>
     unfold q3V at hrun;rw[hloc] at hrun;simp only at hrun;split at hrun
     ·obtain⟨q,k1,k2⟩:=bind_some hrun;split at k2
      case h_2=>cases k2
      cases k2;obtain⟨p1,p2⟩:=qyu hE hS hs k1 fun X' v hs' hv'=>hnext X' v hs' (by rw[w3];exact qrH hv');exact qpw B.ro n0 p1 p2
     obtain⟨av,k1,k2⟩:=bind_some hrun;simp only[Tree.run,qLS,qMs] at k2;obtain⟨rfl,k2⟩:=k2;refine qpw B.ro n0 (qvT hE hc hs k1 fun X' v hs' hv'=>hnext X' v (by rw[<-k2];exact hs') (by rw[w3];exact qrH hv')) (fun c hcc=>by rw[hcc] at k1;simp[qc6,qcf,Tree.run] at k1)
  ·have hallb:∀j,j<m->listed.getD j false=true:=fun j hj=>before j (by omega) (hsuf i j him hin (by omega));rw[toEnd listed hallb] at hs;exact hlast i fuel listed X a hin him hsz hri hcl hm hallb hs hu
end
theorem qxB {P:Program}(hm:P.follows .mixedOrders=true)(hE:E.tok P)(hS:E.specs P){callH:q7F}{B:Base}(hcH:CallOK E P callH B){callS:List Blk->q6h}(hc:qjV E P callS)(hmo:q4T E callS){id:Nat}{all:Array Oper}{X:Ctx}{st st':St}{a:Act}(hs:Sim E B X st a) (h:(qDC E callH callS all st).run=some st') {Q:Exit->Act->World->Prop} {n0:Nat} (hq:∀X' a',Sim E B X' st' a'->Q .normal a' X'.w):(Code.region id all true).wpIn (q3J B.ro) n0 P Q a X.w:=by
 apply wpIn_region_any hm;have hs1:=hs.drawn (X.w.drawn+1);generalize hX1:({ X with w:={ X.w with drawn:=X.w.drawn+1 } }:Ctx)=X1 at hs1;have hw:({ X.w with drawn:=X.w.drawn+1 }:World)=X1.w:=by rw[<-hX1]
 rw[hw];obtain⟨T0,fs,hb,pd⟩:=st;unfold qDC at h;by_cases hdb:qEa all=false
 ·rw[if_pos hdb] at h;cases h
 ·rw[if_neg hdb] at h;have hd:=qG0 (by simpa using hdb:qEa all=true);have hcl0:qnQ all fun j=>(Array.replicate all.size false).getD j false:=by intro i o _ hL;have hL':(Array.replicate all.size false).getD i false=true:=hL;rw[qvR] at hL';cases hL'
  have hdst:yl all=fun i=>(all.toList[i]?).bind (·.dst):=by funext i;simp[yl]
  have hsl:=qGM all;have lt:∀b,(b∈AV.menL T0\/b∈qkP fs)\/b∈qci hb->b<hb.length:=fun b hb'=>by
   have hh:X.h=hb:=hs.h;rw[<-hh];rcases hb' with (h'|h')|h'
   ·exact hs.t.inB _ h'
   ·exact hs.fs.inB _ h'
   ·exact hs.hs.inB _ (by rw[hh];exact h')
  obtain⟨r,h1,h2⟩:=bind_some h;obtain⟨V,H0,D0,S,eS,e0,e1,e2,_,e5⟩:=qu4 _ 0 _ [] _ r h1;simp only[qMM] at eS e1 e2 e5;have htlen:(all.toList.take (uN all)).length=uN all:=by simp;omega
  obtain⟨H,hH1,hH2⟩:∃H:Nat->List Blk,(∀i,i<=uN all->H i=H0 i)/\∀i,uN all<=i->H i=H (uN all):=
   ⟨fun i=>if i<=uN all then H0 i else H0 (uN all),fun i hi=>if_pos hi,fun i hi=>by
    simp only[qLU,if_true];split
    ·rw[show i=uN all by omega]
    ·rfl⟩
  obtain⟨D,hD1,hD2⟩:∃D:Nat->Option LDesc,(∀i,i<uN all->D i=D0 i)/\∀i,uN all<=i->D i=none:=
   ⟨fun i=>if i<uN all then D0 i else none,fun i hi=>if_pos hi,fun i hi=>if_neg (by omega)⟩
  have htk:∀i,i<uN all->(all.toList.take (uN all))[i]?=all[i]?:=by intro i hi;rw[qMR,if_pos hi];simp
  have hTm:∀i,i<=uN all->TLp (yl all) V T0 (fun _=>true) i=qd2 V 0 ((all.toList.take (uN all)).take i) T0:=by intro i hi;rw[hdst,qHp i (by simp;omega),List.take_take,qMS hi]
  have hVA:∀i o,all[i]?=some o->i<uN all->LocOK E callS all (S i) i o (TLp (yl all) V T0 (fun _=>true) i) (V i) (H i) (H (i+1)) (D i):=by intro i o ho hi;rw[hTm i (by omega),hH1 i (by omega),hH1 (i+1) (by omega),hD1 i hi];exact e2 i o (by rw[htk i hi];exact ho)
  have hs0:∀(X':Ctx) (a':Act),Sim E B X' { t:=TLp (yl all) V T0 (fun _=>true) (uN all),fs:=fs,pend:=pd,h:=H (uN all) } a'->Sim E B X' r a':=by
   intro X' a' hs';have:r={ t:=TLp (yl all) V T0 (fun _=>true) (uN all),fs:=fs,pend:=pd,h:=H (uN all) }:=by rw[hTm _ (qLU _),e1,List.take_of_length_le (i:=uN all) (l:=all.toList.take (uN all)) (by simp;omega),htlen,hH1 _ (qLU _)]
   rw[this];exact hs'
  have hH00:H 0=hb++List.replicate (qLf E (all.toList.take (uN all))) .dead:=by rw[hH1 0 (qNf _)];exact e0
  obtain⟨X2,hX2,hs2⟩:=Sim.padN (qLf E (all.toList.take (uN all))) hs1;rw[<-hX2];have start:Sim E B X2 { t:=TLp (yl all) V T0 (fun j=>(Array.replicate all.size false).getD j false) all.size,fs:=fs,pend:=pd,h:=hLp (wOf D) H (H 0) (fun j=>(Array.replicate all.size false).getD j false) (uN all) } a:=by
   have q1:TLp (yl all) V T0 (fun j=>(Array.replicate all.size false).getD j false) all.size=T0:=by
    have:∀n,TLp (yl all) V T0 (fun j=>(Array.replicate all.size false).getD j false) n=T0:=by
     intro n;induction n with
     | zero=>rfl
     | succ n ih=>simp only[TLp];rw[if_neg (by rw[qvR];simp),ih]
    exact this _
   have q2:∀n,hLp (wOf D) H (H 0) (fun j=>(Array.replicate all.size false).getD j false) n=H 0:=by
    intro n;induction n with
    | zero=>rfl
    | succ n ih=>simp only[hLp];rw[if_neg (by rw[qvR];simp),ih]
   rw[q1,q2,hH00];exact hs2
  refine qEc (m:=uN all) (V:=V) (T0:=T0) (H:=H) (D:=D) (fs:=fs) (base:=hb.length) hE hS hc hmo hd hsl hVA (fun i j d d' hij hj q1 q2=>?_) hH2 hD2 (by rw[hH00];simp) eS (fun c hc hm'=>?_) (fun c hc hm'=>?_) (fun c hc hm'=>?_) ?_ ?_ (fun i j h1 h2 h3=>qmJ all h1 h2 h3) all.size _ X2 a (by simp) hcl0 (fun i _ _=>qvR i) (qHt _ _) start
  ·rw[hD1 i (by omega)] at q1;rw[hD1 j hj] at q2;exact e5 i j d d' hij (by rw[htlen];exact hj) q1 q2
  ·have:=lt c (.inl (.inl hm'));omega
  ·have:=lt c (.inl (.inr hm'));omega
  ·rw[hH00,qAR] at hm';rcases qMi.1 hm' with hm'|hm'
   ·have:=lt c (.inr hm');omega
   ·exact qCq (fun z hz=>by rw[qO4] at hz;rw[hz.2];rfl) hm'
  ·intro hge X' a' hs';have hsz:uN all=all.size:=by omega
   rw[show TLp (yl all) V T0 (fun _=>true) all.size=TLp (yl all) V T0 (fun _=>true) (uN all) by rw[hsz]] at hs';have h3:=hs0 X' a' hs';rw[qNA (by simp;omega)] at h2;simp only[qjY,Tree.run,qLS] at h2;rw[h2] at h3;exact hq X' a' h3
  ·intro i fuel listed X' a' hin him hsz hri hcl hlm hallm hs' hun;have hri':=hri;rw[mem_ready] at hri';obtain⟨g1,o,ho,gedge⟩:=hri';have hil:i<listed.size:=by omega
   have hLi:listed.getD i false=false:=by simpa[qNb,hil] using g1
   have hedge':∀e,e∈o.after.toList->Region.binds .any e=true->listed.getD e.on false=true:=fun e he hb=>gedge e (by simpa using he) hb;have hcl':=qnc hsz ho hcl hedge';have hallb:∀j,j<i->listed.getD j false=true:=by intro j hj;have hb':=qmJ all him hin hj;have:=qts hd hcl' i j (by show (listed.setIfInBounds i true).getD i false=true;rw[q0g hil,if_pos rfl]) hb';have h':(listed.setIfInBounds i true).getD j false=true:=this;rw[q0g hil,if_neg (by omega)] at h';exact h'
   have him2:i=uN all:=by
    rcases qNt him with h3|h3
    ·exact h3.symm
    ·have h4:=hallb _ h3;rw[hlm _ (qLU _) (by omega)] at h4;cases h4
   have hcut:∀n,uN all<=n->n<=all.size->TLp (yl all) V T0 (fun j=>listed.getD j false) n=TLp (yl all) V T0 (fun _=>true) (uN all):=by
    intro n;induction n with
    | zero=>
     intro h3 _;have h0:uN all=0:=by omega
     rw[h0];rfl
    | succ n ihn=>
     intro h3 h4;rcases qNt h3 with h5|h5
     ·rw[<-h5];exact stL (uN all) fun j hj=>hallb j (by omega)
     ·simp only[TLp];rw[if_neg (by rw[hlm n (by omega) (by omega)];simp)];exact ihn (by omega) (by omega)
   rw[hcut _ hsl (qLU _)] at hs';have h3:=hs0 X' a' hs';subst him2;exact(qDE hE hcH hd hq _ (uN all) rfl (qLU _) (fuel+1) listed X' a' _ hsz (fun j hj _=>hallb j hj) (fun j hj=>by
    rcases qM1 j all.size with h5|h5
    ·exact hlm j hj h5
    ·simp[show listed.size<=j by omega]) hun h3 h2).2 _ hri
end Go.Eng

namespace Go.Eng
variable {B:Base}{X:Ctx}{n:Nat}
theorem HSim.base {B B':Base}(h:HSim B X)(h0:B'.w0=B.w0)(h1:B'.imps=B.imps)(h2:B'.M0=B.M0):HSim B' X:=by obtain⟨w0,imps,M0,fs,ro,y,pin⟩:=B;obtain⟨w0',imps',M0',fs',ro',y',pin'⟩:=B';simp only at h0 h1 h2;subst h0 h1 h2;exact⟨h.blk,h.inj,h.notM,h.ltM,h.M0,h.newM,h.os,h.tape,h.output,h.size,h.frame,h.imps,h.impc,h.fresh,h.kept⟩
def qks(o:Obj):Prop:=∀c T fr,o≠.cells c T fr
def qbg(n:Nat)(o:Obj)(l:List (Nat×Obj)):List (Nat×Obj):=l.map fun p=>if p.1=n then (n,o) else p
theorem q0u {p:Nat×Obj}{o:Obj}{l:List (Nat×Obj)}(h:p∈l)(hne:p.1≠n):p∈qbg n o l:=qMJ.2 ⟨p,h,if_neg hne⟩
theorem qgE {o o':Obj}{l:List (Nat×Obj)}(h:(n,o)∈l):(n,o')∈qbg n o' l:=qMJ.2 ⟨(n,o),h,if_pos rfl⟩
theorem qka {p:Nat×Obj}{o:Obj}{l:List (Nat×Obj)}(h:p∈qbg n o l):p=(n,o)\/(p∈l/\p.1≠n):=by
 obtain⟨q,h1,h2⟩:=qMJ.1 h;by_cases hq:q.1=n
 ·rw[if_pos hq] at h2;exact .inl h2.symm
 ·rw[if_neg hq] at h2;subst h2;exact .inr ⟨h1,hq⟩
structure SameCells (w w':World):Prop where
 cells:∀(n:Nat) c T fr,w.heap[n]?=some (.cells c T fr)->w'.heap[n]?=some (.cells c T fr)
 cell:∀a:Addr,a.block<w.heap.size->w'.cell? a=w.cell? a
theorem SameCells.blk {X X':Ctx}(hw:SameCells X.w X'.w)(hm:Move0 X X' some){b:Nat}{k:Blk}(hσ:X'.σ b=X.σ b)(h:j5 X b k):j5 X' b k:=by
 cases k with
 | cells cs=>
  obtain⟨n,c,T,e1,e2,e3⟩:=h;exact⟨n,c,T,by rw[hσ];exact e1,hw.cells _ _ _ _ e2,e3.ext0 hm⟩
 | big cs k N l=>
  obtain⟨n,c,T,vs,e1,e2,e3,e4,e5⟩:=h;exact⟨n,c,T,vs,by rw[hσ];exact e1,hw.cells _ _ _ _ e2,e3.ext0 hm,e4,e5⟩
 | vec e sh l=>
  rcases h with⟨e1,e2⟩|⟨n,c,e1,e2,e3⟩
  ·exact .inl ⟨by rw[hσ];exact e1,e2⟩
  ·exact .inr ⟨n,c,by rw[hσ];exact e1,hw.cells _ _ _ _ e2,e3.mono hm.M hm.w⟩
 | frz e sh l=>
  rcases h with⟨e1,e2⟩|⟨n,c,e1,e2,e3,e4⟩
  ·exact .inl ⟨by rw[hσ];exact e1,e2⟩
  ·exact .inr ⟨n,c,by rw[hσ];exact e1,hw.cells _ _ _ _ e2,e3.mono hm.M hm.w,hm.M n e4⟩
 | dead=>trivial
theorem qwH (hs:HSim B X){w':World}{kept':List (Nat×Obj)}(hw:SameCells X.w w')(hsz:X.w.heap.size<=w'.heap.size)(ho:w'.os=X.w.os)(ht:w'.tape=X.w.tape)(hp:w'.output=X.w.output)(hf:∀n,n<B.w0.heap.size->w'.heap[n]?=X.w.heap[n]?) (hk:∀p,p∈kept'->w'.heap[p.1]?=some p.2/\qks p.2/\B.w0.heap.size<=p.1) :HSim B { X with w:=w',kept:=kept' }/\Move0 X { X with w:=w',kept:=kept' } some:=by
 have hm:Move0 X { X with w:=w',kept:=kept' } some:=
  ⟨fun _ h=>h,fun a ha=>hw.cell a (hs.ltM _ ha),fun b b' hb h=>by cases h;exact⟨hb,rfl,fun _ _ h=>h,fun _ _ _ n _ c T fr h=>⟨c,T,fr,hw.cells n c T fr h,rfl⟩⟩,rfl⟩
 refine⟨⟨fun b k hb=>SameCells.blk hw hm rfl (hs.blk b k hb),hs.inj,hs.notM,fun n hn=>qMA (hs.ltM n hn) hsz,hs.M0,hs.newM,ho.trans hs.os,ht.trans hs.tape,hp.trans hs.output,
  qLW hs.size hsz,fun n hn hi=>(hf n hn).trans (hs.frame n hn hi),hs.imps,hs.impc,hs.fresh,hk⟩,hm⟩
theorem qvQ {w:World}{o o':Obj}(h:w.heap[n]?=some o)(ho:qks o)(ho':qks o'):SameCells w (w.putObj n o'):=by
 have hn:=(qLY.1 h).1;refine⟨fun m c T fr hm=>?_,fun a _=>?_⟩
 ·by_cases e:m=n
  ·subst e;rw[h] at hm;exact absurd (qMx hm) (ho _ _ _)
  ·rw[World.putObj_heap_other e];exact hm
 ·by_cases e:a.block=n
  ·unfold World.cell?;rw[e,h,World.putObj_heap_same hn];cases o'<;>cases o<;>first|rfl|exact absurd rfl (ho _ _ _)|exact absurd rfl (ho' _ _ _)
  ·exact qMW (World.putObj_heap_other e)
theorem qaL (hs:HSim B X){o o':Obj}(hk:(n,o)∈X.kept)(ho':qks o') :HSim B { X with w:=X.w.putObj n o',kept:=qbg n o' X.kept }/\Move0 X { X with w:=X.w.putObj n o',kept:=qbg n o' X.kept } some:=by
 obtain⟨h1,h2,h3⟩:=hs.kept _ hk;simp only at h1 h2 h3;have hn:=(qLY.1 h1).1;refine qwH hs (qvQ h1 h2 ho') (by simp) rfl rfl rfl (fun m hm=>World.putObj_heap_other (by omega)) fun p hp=>?_;rcases qka hp with rfl|⟨hp,hne⟩
 ·exact⟨World.putObj_heap_same hn,ho',h3⟩
 ·obtain⟨g1,g2,g3⟩:=hs.kept p hp;exact⟨by rw[World.putObj_heap_other hne];exact g1,g2,g3⟩
theorem qky (hs:HSim B X){o:Obj}(ho:qks o) :HSim B { X with w:=X.w.alloc o,kept:=(X.w.heap.size,o)::X.kept }/\Move0 X { X with w:=X.w.alloc o,kept:=(X.w.heap.size,o)::X.kept } some:=by
 refine qwH hs ⟨fun m c T fr hm=>?_,fun a ha=>qMW (zP _ _ ha)⟩ (by simp) rfl rfl rfl (fun m hm=>zP _ _ (qMA hm hs.size)) fun p hp=>?_
 ·rw[zP _ _ (qLY.1 hm).1];exact hm
 ·rcases qMb.1 hp with rfl|hp
  ·exact⟨zQ _ _,ho,hs.size⟩
  ·obtain⟨g1,g2,g3⟩:=hs.kept p hp;exact⟨by rw[zP _ _ (qLY.1 g1).1];exact g1,g2,g3⟩
theorem qz4 (hs:HSim B X){p:Nat×Obj}(h:p∈X.kept):p.1<X.w.heap.size:=(qLY.1 (hs.kept p h).1).1
mutual
theorem Rep.setY'{X:Ctx}(l:Nat):∀{av:AV} {v:Value},Rep X av v->av.noY=true->Rep { X with y:=l } av v
 | _,_,.undef v,_=>.undef v
 | _,_,.skip,_=>.skip
 | _,_,.yld,h=>by cases h
 | _,_,.blit b,_=>.blit b
 | _,_,.bool b,_=>.bool b
 | _,_,.ilit k n,_=>.ilit k n
 | _,_,.int k n,_=>.int k n
 | _,_,.str s,_=>.str s
 | _,_,.nilp,_=>.nilp
 | _,_,.ptr b off n hb hσ,_=>.ptr b off n hb hσ
 | _,_,.eptr sh l i off a hsp h0 h1 hr,_=>.eptr sh l i off a hsp h0 h1 hr
 | _,_,.mnil sh l i off,_=>.mnil sh l i off
 | _,_,.mptr sh l i off a hsp h0 h1 hr,_=>.mptr sh l i off a hsp h0 h1 hr
 | _,_,.vptr b i off n k hb hσ h,_=>.vptr b i off n k hb hσ h
 | _,_,.vsub b i n k m c hb hσ h,_=>.vsub b i n k m c hb hσ h
 | _,_,.aptr b o i n hb hσ h0,_=>.aptr b o i n hb hσ h0
 | _,_,.asub b o N i m n k c hb hσ h0 h1 h2 h3,_=>.asub b o N i m n k c hb hσ h0 h1 h2 h3
 | _,_,.nils,_=>.nils
 | _,_,.imm sh l v h,_=>.imm sh l v h
 | _,_,.full sh l p n h,_=>.full sh l p n h
 | _,_,.vec b p nn cc hb h,_=>.vec b p nn cc hb h
 | _,_,.nilf,_=>.nilf
 | _,_,.fn g first caps vf vc h1 h2,h=>by
  simp only[AV.noY,qM7] at h;exact .fn g _ _ vf vc (RepL.setY' l h1 h.1) (RepL.setY' l h2 h.2)
 | _,_,.agg cs vs h1,h=>.agg _ vs (RepL.setY' l h1 (by simpa only [AV.noY] using h))
 | _,_,.tuple cs vs h1,h=>.tuple _ vs (RepL.setY' l h1 (by simpa only [AV.noY] using h))
 | _,_,.bagg cs k n r vs h1 hl,h=>.bagg _ k n r vs (RepL.setY' l h1 (by simpa only [AV.noY] using h)) hl
theorem RepL.setY'{X:Ctx}(l:Nat):∀{av:List AV} {v:List Value},RepL X av v->AV.noYL av=true->RepL { X with y:=l } av v
 | _,_,.nil,_=>.nil
 | _,_,.cons h1 t,h=>by
  simp only[AV.noYL,qM7] at h;exact .cons (Rep.setY' l h1 h.1) (RepL.setY' l t h.2)
end
theorem Rep.setY (l:Nat){av:AV}{v:Value}(h:av.noY=true)(hr:Rep X av v):Rep { X with y:=l } av v:=hr.setY' l h
theorem RepL.setY (l:Nat){av:List AV}{v:List Value}(h:AV.noYL av=true)(hr:RepL X av v):RepL { X with y:=l } av v:=hr.setY' l h
theorem HSim.setY (h:HSim B X)(l:Nat)(hy:X.h.all Blk.noY=true):HSim B { X with y:=l }:=by
 refine⟨fun b k hb=>?_,h.inj,h.notM,h.ltM,h.M0,h.newM,h.os,h.tape,h.output,h.size,h.frame,h.imps,h.impc,h.fresh,h.kept⟩;have h1:=h.blk b k hb;cases k with
 | cells cs=>
  obtain⟨n,c,T,e1,e2,e3⟩:=h1;have:(Blk.cells cs).noY=true:=qMq.1 hy _ (qMH hb);exact⟨n,c,T,e1,e2,e3.setY l this⟩
 | big cs k N r=>
  obtain⟨n,c,T,vs,e1,e2,e3,e4,e5⟩:=h1;have:(Blk.big cs k N r).noY=true:=qMq.1 hy _ (qMH hb);exact⟨n,c,T,vs,e1,e2,e3.setY l this,e4,e5⟩
 | vec e sh l=>exact h1
 | frz e sh l=>exact h1
 | dead=>trivial
theorem qwr {gl:List (Nat×AV)}(h:q4o gl X)(l:Nat):q4o gl { X with y:=l }:=by intro x hx;obtain⟨⟨sh,r,i,off,he⟩,hr⟩:=h x hx;refine⟨⟨sh,r,i,off,he⟩,hr.move (fun _ h=>h) (fun _ _=>rfl) (Rep.setY l (by rw[he];rfl) hr.1)⟩
theorem qfR {gl:List (Nat×AV)}{X X':Ctx}(hm:Move0 X X' some)(h:q4o gl X):q4o gl X':=fun x hx=>⟨(h x hx).1,(h x hx).2.move hm.M hm.w ((h x hx).2.1.ext0 hm)⟩
theorem Sim.moveB {E:Env}{B B':Base}{X X':Ctx}{st:St}{a:Act}(hs:Sim E B X st a)(h1:HSim B' X')(h2:Move0 X X' some)(h3:X'.h=X.h)(hfs:B'.fs=B.fs)(hy:B'.y=B.y)(hi:B'.imps=B.imps){ds:List Deferred} (h4:qz8 X'.kept (B'.pin st.pend) ds) (h5:∀p,p∈B'.pin st.pend->p∈X'.kept):Sim E B' X' st { a with defers:=ds }:=⟨h1,h3.trans hs.h,hs.t.ext0 h2,hfs▸hs.fs.ext0 h2,qfR h2 hs.glob,h4,hi▸hs.ni,(h2.y.trans hs.y).trans hy.symm,h5⟩
def Ex.out:Ex->Exit
 | .normal=>.normal
 | .exit i=>.exit i
 | .ret=>.ret
def qyO(E:Env)(B:Base)(r:Ex×St):Exit->Act->World->Prop:=fun e a w=>e=r.1.out/\∃X',X'.w=w/\Sim E B X' r.2 a
def Ex.code:Ex->Code
 | .normal=>.skip
 | .exit i=>.exit i
 | .ret=>.ret
def q6r(fid:FuncId)(ct:Array Value)(ps:Array Tmp)(a b:Code)(D:Nat)(e:Option Ex):Loop:={ state:=if e.isNone then .ready else .done,pending:=e.map Ex.code,fn:=fid,tmps:=ct,params:=ps,assign:=a,body:=b,defers:=D }
def qY:Code->List Code
 | .seq a b=>.seq a b::(qY a++qY b)
 | .cond _ a b=>qY a++qY b
 | .block _ c=>qY c
 | .scope c=>qY c
 | .loop c=>.loop c::qY c
 | .rangeFunc x ps a b=>.rangeFunc x ps a b::(qY a++qY b)
 | _=>[]
def qA2(P:Program)(yc:FuncId×Nat)(B:Base):Prop:=
 ∃(fn:Func) (c:Code) (x:Operand) (ps:Array Tmp) (a b:Code),P.funcs[yc.1]?=some fn/\fn.body=some c/\(qY c)[yc.2]?=some (.rangeFunc x ps a b) /\
  ∃(ct:Array Value) (rest:List (List Value)) (D fid:Nat) (more:List (Nat×Obj)),B.fs=ct.toList::rest/\(∀e,B.pin e=(B.y,.loop (q6r fid ct ps a b D e))::more)/\(∀p,p∈more->p.1≠B.y)/\B.ro=none
def qK(P:Program)(it:List (FuncId×FuncId×Nat))(f:FuncId)(B:Base):Prop:=
 (B.ro.isSome=true->2<=B.fs.length)/\match qhO it f with
  | none=>True
  | some yc=>qA2 P yc B
structure SimF (E:Env) (B:Base) (X:Ctx) (st:St):Prop where
 hs:HSim B X
 h:X.h=st.h
 fs:RepLL X (st.t::st.fs) B.fs
 glob:q4o E.glob X
 ni:B.imps.length<=E.nimp
 y:X.y=B.y
 pin:∀p,p∈B.pin st.pend->p∈X.kept
def YOK(E:Env)(P:Program)(y:qCF)(B:Base):Prop:=
 ∀(args:List AV) (st:St) (r:AV×St) (X:Ctx) (a:Act) (vargs:List Value),Sim E B X st a->RepL X args vargs->(y args st).run=some r ->
  ∃(l:Nat) (f:FuncId) (tmps:Array Value) (assign body:Code),(Instr.yield X.y vargs.toArray).run P X.w=.ok (.round l f tmps assign body) X.w /\
  ∀n,RoundIn (q3J B.ro) n P l f tmps assign body X.w fun e w'=>∃v X',e=.returned v/\X'.w=w'/\Rep X' r.1 v/\Sim E B X' r.2 a
def qjM(E:Env)(P:Program)(rangeH:qd4):Prop:=
 ∀(g:FuncId) (y:qCF) (args:List AV) (st:St) (r:AV×St) (B:Base) (X:Ctx) (vargs:List Value),SimF E B X st->qK P E.iter g B->(∀B',qK P E.iter g B'->YOK E P y B')->B.ro=none ->
  RepL X args vargs->(rangeH g y args st).run=some r ->
  (∀w,(callFunc g vargs.toArray).run P w=.ok (.enter g vargs.toArray) w) /\
  Calls P g vargs.toArray X.w fun e w'=>∃v X',e=.returned v/\X'.w=w'/\Rep X' r.1 v/\SimF E B X' r.2
theorem qtv{X:Ctx}:∀(ps:List Tmp) {ct:List AV} {tmps:Array Value} {args:List AV} {vargs:List Value},RepL X ct tmps.toList->RepL X args vargs ->
  RepL X (qr9 ct ps args) ((ps.zip vargs).foldl (fun (tmps:Array Value) (p:Tmp×Value)=>tmps.setIfInBounds p.1 p.2) tmps).toList
 | [],_,_,args,_,h,_=>by cases args<;>simpa[qr9] using h
 | p::ps,ct,tmps,_,_,h,.nil=>by simpa[qr9] using h
 | p::ps,ct,tmps,_,_,h,.cons h1 h2=>by
  simp only[qr9,List.zip_cons_cons,qNv];exact qtv ps (by rw[Array.toList_setIfInBounds];exact RepL.set h1 h p) h2
theorem qA9 {E:Env}{P:Program}{f:FuncId}{k:Nat}{fn:Func}{cb:Code}(hf:P.funcs[f]?=some fn)(hb:fn.body=some cb){x:Operand}{ps:Array Tmp}{a b:Code}(hk:(qY cb)[k]?=some (.rangeFunc x ps a b)){evA evB:St->Tree (Ex×St)} (hni:q7j E.iter f=true)(hA:∀(B:Base) (X:Ctx) (st:St) (act:Act) (r:Ex×St),qK P E.iter f B->Sim E B X st act->(evA st).run=some r->∀n,a.wpIn (q3J B.ro) n P (qyO E B r) act X.w)(hB:∀(B:Base) (X:Ctx) (st:St) (act:Act) (r:Ex×St),qK P E.iter f B->Sim E B X st act->(evB st).run=some r->∀n,b.wpIn (q3J B.ro) n P (qyO E B r) act X.w){B:Base} (hI:qA2 P (f,k) B):YOK E P (qwu evA evB ps.toList) B:=by
 intro args st r X act vargs hs hargs hr;obtain⟨fn',c',x',ps',a',b',q1,q2,q3,ct,rest,D,fid,more,q4,q5,q6,q7⟩:=hI;simp only at q1 q3;rw[hf] at q1;cases q1;rw[hb] at q2;cases q2;rw[hk] at q3;cases q3;unfold qwu at hr;cases hp:st.pend with
 | some e=>rw[hp] at hr;cases hr
 | none=>
 rw[hp] at hr;cases hfs:st.fs with
 | nil=>rw[hfs] at hr;cases hr
 | cons ctA fsA=>
 rw[hfs] at hr;simp only at hr;cases hlen:Nat.beq args.length ps.toList.length with
 | false=>rw[hlen] at hr;cases hr
 | true=>
 rw[hlen] at hr;simp only at hr;have hlen':=qMU hlen;obtain⟨rA,h1,h2⟩:=bind_some hr;obtain⟨xA,sA⟩:=rA;cases xA with
 | exit i=>cases h2
 | ret=>cases h2
 | normal=>
 simp only at h2;obtain⟨rB,h3,h4⟩:=bind_some h2;have hpin:=hs.pin;have hdf:=hs.df;rw[hp,q5] at hpin hdf;have hrec:(B.y,.loop (q6r fid ct ps a b D none))∈X.kept:=hpin _ qMf;have hheap:=(hs.hs.kept _ hrec).1;simp only at hheap;have hfsR:=hs.fs;rw[hfs,q4] at hfsR;have hct:RepL X ctA ct.toList:=by cases hfsR with|cons g1 g2=>exact g1
 refine⟨B.y,fid,((ps.zip vargs.toArray).foldl (fun (tmps:Array Value) (p:Tmp×Value)=>tmps.setIfInBounds p.1 p.2) ct),a,b,?_,fun n=>?_⟩
 ·rw[hs.y];exact run_yield (r:=q6r fid ct ps a b D none) hheap (by simp only[q6r,List.size_toArray];rw[<-hargs.length,hlen',Array.length_toList])
 rw[q7];apply roundIn_of_wpIn (F:=q3J none) trivial
 let BR:Base:={ B with ro:=some B.y,fs:=act.tmps.toList::B.fs,pin:=fun _=>X.kept }
 have hbR:∀pin,qK P E.iter f { BR with pin:=pin }:=by
  intro pin;refine⟨fun _=>?_,?_⟩
  ·show 2<=(act.tmps.toList::B.fs).length;rw[q4];simp
  ·unfold q7j at hni;split at hni
   ·cases hni
   ·rename_i hn;rw[hn];trivial
 have hsR:Sim E BR X { t:=qr9 ctA ps.toList args,fs:=st.t::ctA::fsA,h:=st.h,pend:=none } { tmps:=((ps.zip vargs.toArray).foldl (fun (tmps:Array Value) (p:Tmp×Value)=>tmps.setIfInBounds p.1 p.2) ct),defers:=[] }:=by
  refine⟨hs.hs.base rfl rfl rfl,hs.h,?_,?_,hs.glob,qz8.nil,hs.ni,hs.y,fun p hp=>hp⟩
  ·have:=qtv ps.toList hct hargs;rw[<-Array.foldl_toList,Array.toList_zip];exact this
  ·show RepLL X _ (act.tmps.toList::B.fs);rw[<-hfs];exact .cons hs.t hs.fs
 refine wpIn_mono (hA BR X _ _ _ (hbR _) hsR h1 n) fun e a1 w1 ⟨he,X1,hw1,hs1⟩=>?_;subst he hw1;have hrec1:(B.y,.loop (q6r fid ct ps a b D none))∈X1.kept:=hs1.pin _ hrec;obtain⟨g1,g2⟩:=qaL hs1.hs (o':=.loop { q6r fid ct ps a b D none with state:=.busy }) hrec1 (fun _ _ _ h=>by cases h);refine⟨_,run_beginRound (r:=q6r fid ct ps a b D none) (hs1.hs.kept _ hrec1).1 rfl,?_⟩
 let pinB:List (Nat×Obj):=qbg B.y (.loop { q6r fid ct ps a b D none with state:=.busy }) X.kept
 obtain⟨Ds1,d1,d2,d3⟩:=hs1.df;have hsB:Sim E { BR with pin:=fun _=>pinB } { X1 with w:=X1.w.putObj B.y (.loop { q6r fid ct ps a b D none with state:=.busy }),kept:=qbg B.y (.loop { q6r fid ct ps a b D none with state:=.busy }) X1.kept } sA a1:=by
  refine hs1.moveB (B':={ BR with pin:=fun _=>pinB }) (ds:=a1.defers) (g1.base rfl rfl rfl) g2 rfl rfl rfl rfl ⟨Ds1,d1,d2,fun D' hD'=>⟨q0u (d3 D' hD').1 (fun e=>(d3 D' hD').2 _ hrec e.symm),fun p hp=>?_⟩⟩ fun p hp=>?_
  ·rcases qka hp with hp|⟨hp,_⟩
   ·rw[hp];exact fun e=>(d3 D' hD').2 _ hrec e
   ·exact(d3 D' hD').2 _ hp
  ·rcases qka hp with rfl|⟨hp,hne⟩
   ·exact qgE hrec1
   ·exact q0u (hs1.pin _ hp) hne
 refine wpIn_mono (hB _ _ _ _ _ (hbR _) hsB h3 n) fun e2 a2 w2 ⟨he2,X2,hw2,hs2⟩=>?_;subst he2 hw2;obtain⟨xB,sB⟩:=rB;have hrec2:(B.y,.loop { q6r fid ct ps a b D none with state:=.busy })∈X2.kept:=hs2.pin _ (qgE hrec);have hlie2:=(hs2.hs.kept _ hrec2).1;simp only at hlie2;simp only at h4;cases hfs2:sB.fs with
 | nil=>rw[hfs2] at h4;cases h4
 | cons itA fs'=>
 rw[hfs2] at h4;simp only at h4;have fin:∀(e:Option Ex) (_:r=(.blit e.isNone,{ t:=itA,fs:=fs',h:=sB.h,pend:=e })) (_:e=none\/∃x,e=some x),
   ∃v w',(Instr.endRound B.y (e.map Ex.code)).run P X2.w=.ok v w'/\∃v' X',Ending.returned v=.returned v'/\X'.w=w'/\Rep X' r.1 v'/\Sim E B X' r.2 act:=by
  intro e hre _;have hend:=run_endRound (P:=P) (r:={ q6r fid ct ps a b D none with state:=.busy }) (e.map Ex.code) hlie2;have hobj:({ ({ q6r fid ct ps a b D none with state:=.busy }:Loop) with state:=if (e.map Ex.code).isNone then .ready else .done,pending:=e.map Ex.code }:Loop)=q6r fid ct ps a b D e:=by cases e<;>rfl
  rw[hobj] at hend;obtain⟨k1,k2⟩:=qaL hs2.hs (o':=.loop (q6r fid ct ps a b D e)) hrec2 (fun _ _ _ h=>by cases h);refine⟨_,_,hend,_,{ X2 with w:=X2.w.putObj B.y (.loop (q6r fid ct ps a b D e)),kept:=qbg B.y (.loop (q6r fid ct ps a b D e)) X2.kept },rfl,rfl,?_,?_⟩
  ·rw[hre];have:(e.map Ex.code).isNone=e.isNone:=by cases e<;>rfl
   rw[this];exact .blit _
  ·have hfs3:=hs2.fs;rw[hfs2] at hfs3;have hfs4:=hfs3.ext0 k2;have hold:∀p,p∈X.kept->p.1≠B.y->p∈qbg B.y (.loop (q6r fid ct ps a b D e)) X2.kept:=fun p hp hne=>
    q0u (hs2.pin p (q0u hp hne)) hne
   rw[hre];refine⟨k1.base rfl rfl rfl,hs2.h,?_,?_,qfR k2 hs2.glob,?_,hs.ni,hs2.y,?_⟩
   ·cases hfs4 with|cons z1 z2=>exact z1
   ·cases hfs4 with|cons z1 z2=>exact z2
   ·obtain⟨Ds,m1,m2,m3⟩:=hdf;refine⟨Ds,m1,m2,fun D' hD'=>⟨hold _ (m3 D' hD').1 (fun e'=>(m3 D' hD').2 _ qMf e'.symm),fun p hp=>?_⟩⟩;rw[q5] at hp;rcases qMb.1 hp with rfl|hp
    ·exact(m3 D' hD').2 (B.y,.loop (q6r fid ct ps a b D none)) qMf
    ·exact(m3 D' hD').2 p (qMh _ hp)
   ·intro p hp;rw[q5] at hp;rcases qMb.1 hp with rfl|hp
    ·exact qgE hrec2
    ·exact hold p (hpin p (qMh _ hp)) (q6 p hp)
 cases xB with
 | normal=>
  simp only[Tree.run,qLS] at h4;exact fin none h4.symm (.inl rfl)
 | ret=>
  simp only[Tree.run,qLS] at h4;exact fin (some .ret) h4.symm (.inr ⟨_,rfl⟩)
 | exit i=>
  simp only[Tree.run,qLS] at h4;exact fin (some (.exit i)) h4.symm (.inr ⟨_,rfl⟩)
theorem qx5{E:Env}{P:Program}{B:Base}{fn:Func}{st:St}{R:Ending->World->Prop}{n:Nat}:∀(Ds:List Nat) {X:Ctx} {a:Act},Sim E B X st a->a.defers=Ds.map qji ->
  (∀X',Sim E B X' st { a with defers:=[] }->∃v,(results fn a.tmps).run P X'.w=.ok v X'.w/\R (.returned v) X'.w)->LeavesInM (q3J none) n P fn a.tmps R (Ds.map qji) .returning X.w
 | [],X,a,hs,hd,h=>by
  have:({ a with defers:=[] }:Act)=a:=by obtain⟨t,d⟩:=a;simp only[List.map_nil] at hd;rw[hd]
  rw[this] at h;exact h X hs
 | D::Ds,X,a,hs,hd,h=>by
  obtain⟨Ds',d1,d2,d3⟩:=hs.df;have hDs:Ds'=D::Ds:=by
   rw[hd] at d1;have inj:∀(l m:List Nat),l.map qji=m.map qji->m=l:=by
    intro l;induction l with
    | nil=>intro m hm;cases m with
     | nil=>rfl
     | cons _ _=>cases hm
    | cons x l ih=>intro m hm;cases m with
     | nil=>cases hm
     | cons y m=>
      simp only[qMZ,qNk,qji,Deferred.mk.injEq,Target.collected.injEq,and_true] at hm;rw[ih m hm.2,hm.1]
   exact inj _ _ d1
  subst hDs;obtain⟨m1,m2⟩:=d3 D qMf;have hlie:=(hs.hs.kept _ m1).1;simp only at hlie;obtain⟨g1,g2⟩:=qaL hs.hs (o':=.deferred none) m1 (fun _ _ _ h=>by cases h);have hnd:=List.nodup_cons.1 d2;have hs':=hs.moveB (B':=B) (ds:=Ds.map qji) g1 g2 rfl rfl rfl rfl ⟨Ds,rfl,hnd.2,fun D' hD'=>⟨q0u (d3 D' (qMh _ hD')).1 (fun e=>hnd.1 (e▸hD')),(d3 D' (qMh _ hD')).2⟩⟩
   (fun p hp=>q0u (hs.pin p hp) (m2 p hp))
  refine⟨by simp,.inl ⟨D,_,rfl,run_takeDeferred hlie,?_⟩⟩;exact qx5 Ds (a:={ a with defers:=Ds.map qji }) hs' rfl h
end Go.Eng

