/- Texts of the proof, merged: what the code computes, and plain laws. No statement stands here. -/
import Derived.Calls
import Derived.Orders
import Derived.OrdersIn
import Derived.TacticsIn
import Derived.Tactics
import Derived.RangeFuncIn
import Derived.RangeFuncLeaves
import Derived.RangeFuncRecord
import Derived.Test.YtiohngnhjabaiaaGreatDoorU1
noncomputable section
namespace Go.Eng
variable {B:Base}{E:Env}{P:Program}{X:Ctx}{l:R}{n:Nat}{r:Res}{t:TypeId}{v:Value}{vs:List Value}{w:World}
theorem qKK {k:IntKind}(h:isZ k v=true):v=.int k 0:=by
 unfold isZ at h;split at h
 ·simp only[qMt,decide_eq_true_eq] at h;rw[h.1,h.2]
 ·cases h
theorem qk1 {o n:Nat}{k:IntKind}(h:qCB E t=some (o,k,n)) :(E.ty t).zero.length=o+n/\(E.ty t).size=o+n/\32<=n/\(E.ty t).zero.drop o=List.replicate n (.int k 0)/\∃fs,(E.ty t).d=.struct fs:=by
 unfold qCB at h;split at h
 ·rename_i fs hd;split at h
  ·rename_i o' ty sz hl;split at h
   ·rename_i n' e es ha;split at h
    ·rename_i k' hk;split at h
     ·rename_i hc;cases h;simp only[qMt,Nat.ble_eq,Nat.beq_eq,qMM] at hc;obtain⟨⟨⟨c1,c2⟩,c3⟩,c4⟩:=hc;refine⟨c2,c3,c1,?_,fs,hd⟩;apply List.eq_replicate_iff.2;exact⟨by simp[c2],fun v hv=>qKK (c4 v hv)⟩
     ·cases h
    ·cases h
   ·cases h
  ·cases h
 ·cases h
theorem qDi (k:IntKind)(n:Nat):q0T k (q3K n [.i 0])=List.replicate n (.int k 0):=by simp[q0T,q3K,U.toI]
theorem qtr (n:Nat)(r:List U):(q3K n r).length=n:=by simp[q3K]
theorem qoK {o n:Nat}{k:IntKind}(h:qCB E t=some (o,k,n)):(E.ty t).zero=(E.ty t).zero.take o++q0T k (q3K n [.i 0]):=by obtain⟨h1,h2,h3,h4,_⟩:=qk1 h;rw[qDi,<-h4,qOs]
theorem qGL (hs:HSim B X){cs:List AV}{k:IntKind}{c:Array Value}{T:TypeId}(hr:RepL X cs vs)(hc:c.toList=vs++q0T k l)(hl:l.length=n) :HSim B (X.pushW (.big cs k n l) (some X.w.heap.size) (X.w.alloc (.cells c T))):=by have hw:=PushW.alloc X (.cells c T);exact hs.push hw ⟨X.w.heap.size,c,T,vs,by simp[Ctx.pushW],wi _ _,hr.ext (Ctx.push_ext hs _ hw),hc,hl⟩
theorem qt7 (hs:HSim B X){cs:List AV}{k:IntKind}(hr:RepL X cs vs)(hc:v.cells.toList=vs++q0T k l)(hl:l.length=n){m:Sem Value}(hm:m.run P X.w=.ok (.pointer (some ⟨X.w.heap.size,0,none⟩)) (X.w.alloc (.cells v.cells t))) :qQ P B X (do pure (.value (<-m))) (.ptr X.h.length 0,X.h++[.big cs k n l],none):=
 ⟨.value (.pointer (some ⟨X.w.heap.size,0,none⟩)),_,X.pushW (.big cs k n l) (some X.w.heap.size) (X.w.alloc (.cells v.cells t)),by simp[hm];rfl,.inl rfl,qAP,qGL hs hr hc hl,rfl,
  Ctx.push_ext hs _ (PushW.alloc X _)⟩
theorem quG {h:List Blk}{k:Option Blk}(hr:(qDY h k).run=some r):∃z,k=some z/\r=(.ptr h.length 0,h++[z],none):=by
 cases k with
 | none=>cases hr
 | some z=>cases hr;exact⟨z,rfl,rfl⟩
theorem qE6 (hs:HSim B X){a:AV}(hv:Rep X a v){z:Blk}(hz:qEg a=some z) :qQ P B X (do pure (.value (<-Instr.box t v))) (.ptr X.h.length 0,X.h++[z],none):=by
 unfold qEg at hz;split at hz
 ·rename_i cs k n l;split at hz
  ·cases hz;cases hv with
   | bagg _ _ _ _ vs h hl=>exact qt7 (t:=t) (v:=.agg (vs++q0T k l).toArray) hs h (by simp[Value.cells]) hl (by simp[Instr.box,qbl])
  ·cases hz
 ·split at hz
  ·rename_i hc;cases hz;exact qHU hs hv hc
  ·cases hz
theorem qzy (hE:E.tok P)(hs:HSim B X){z:Blk}(hz:qh7 E t=some z) :qQ P B X (do pure (.value (<-Instr.alloc t true (.tuple #[])))) (.ptr X.h.length 0,X.h++[z],none):=by
 unfold qh7 at hz;split at hz
 ·rename_i o k n hb;split at hz
  ·cases hz;obtain⟨b1,b2,b3,b4,_⟩:=qk1 hb;obtain⟨v,h1,h2,_⟩:=qgR hE (t:=t) (by omega) X.w;refine qt7 (t:=t) (v:=v) (vs:=(E.ty t).zero.take o) hs (jG X _) ?_ (qtr _ _) ?_
   ·rw[h2];exact qoK hb
   ·simp[Instr.alloc,h1,qbl]
  ·cases hz
 ·split at hz
  ·rename_i hc;cases hz;exact qCH hE hs hc.2
  ·cases hz
theorem qx9 {k:IntKind}{c:Array Value}(hc:c.toList=vs++q0T k l){j:Nat}(hj:j<l.length):c[vs.length+j]?=some (.int k (cI l j 0)):=by
 have:c.toList[vs.length+j]?=some (.int k (cI l j 0)):=by rw[hc,qMv (by omega),Nat.add_sub_cancel_left,qiE hj]
 simpa using this
theorem qGX (l:R){i:Int}(h:0<=i)(j:Nat):cI l ((i.toNat:Nat):Int) j=cI l i j:=by rw[qO5 h]
theorem qzE (hE:E.tok P)(hs:HSim B X){b off n0:Nat}(hσ:X.σ b=some n0){cs:List AV}{k:IntKind}(hh:X.h[b]?=some (.big cs k n l))(h:(qFd E X.h t off cs k n l).run=some r):∃av u,r=(av,X.h,none)/\(Instr.loadAt t (.pointer (some ⟨n0,off,none⟩))).run P X.w=.ok u X.w/\Rep X av u:=by
 obtain⟨n1,c,T,vs,e1,e2,e3,e4,e5⟩:=hs.blk b _ hh;rw[hσ] at e1;cases e1;have hlen:=e3.length;have hcl:c.size=vs.length+n:=by
  have:c.toList.length=(vs++q0T k l).length:=by rw[e4]
  simpa[ue,e5] using this
 unfold qFd at h;by_cases hk:(E.ty t).d.known=false
 ·rw[if_pos hk] at h;cases h
 rw[if_neg hk] at h;have hk':(E.ty t).d.known=true:=by simpa using hk
 simp only[Instr.loadAt,Instr.sureAddr,qMj,qML,qMq];unfold loadVar;rw[qMj,qfq hE hk',qMq];cases ha:(E.ty t).d.isAgg with
 | true=>
  rw[ha] at h;simp only[if_true] at h ⊢;split at h
  ·rename_i hc;obtain⟨rfl,hc2⟩:=hc;cases h;refine⟨_,.agg (vs++q0T k l).toArray,rfl,?_,.bagg _ _ _ _ vs e3 e5⟩;have:=run_loadCells_list (P:=P) X.w ⟨n0,0,none⟩ (vs++q0T k l) (fun j v hj=>by rw[qN0,zW e2,qN6];rw[<-e4] at hj;simpa using hj);have hl:(vs++q0T k l).length=(E.ty t).size:=by simp[ue];omega
   rw[hl] at this;simp[qk5 hE hk',this]
  ·cases h
 | false=>
  rw[ha] at h;simp only[qMR,if_false] at h ⊢;split at h
  ·rename_i v hv;cases h;obtain⟨u,g1,g2⟩:=e3.get off v hv;have h2:X.w.cell? ⟨n0,off,none⟩=some u:=by
    rw[zW e2];have:c.toList[off]?=some u:=by rw[e4,qMr (qq g1)];exact g1
    simpa using this
   exact⟨_,u,rfl,by simp[h2],g2⟩
  ·rename_i hv;have hge:cs.length<=off:=by
    rcases qMn off cs.length with hlt|hge
    ·rw[qMl hlt] at hv;cases hv
    ·exact hge
   split at h
   ·rename_i hlt;cases h;have h2:X.w.cell? ⟨n0,off,none⟩=some (.int k (cI l ((off-cs.length:Nat):Int) 0)):=by
     rw[zW e2];have:=qx9 e4 (j:=off-cs.length) (by omega)
     rwa [show vs.length+(off-cs.length)=off by omega] at this
    exact⟨_,_,rfl,by simp[h2],.int _ _⟩
   ·cases h
theorem qwU (hE:E.tok P)(hs:HSim B X){p:AV}(hv:Rep X p v)(h:(qew E X.h t p).run=some r):∃av u,r=(av,X.h,none)/\(Instr.loadAt t v).run P X.w=.ok u X.w/\Rep X av u:=by
 unfold qew at h;split at h
 ·rename_i b off;split at h
  ·rename_i cs k n l hh;cases hv with
   | ptr _ _ n0 hb hσ=>exact qzE hE hs hσ hh h
  ·exact qjH hE hs hv h
 ·rename_i b o i;split at h
  ·rename_i cs k n l hh;split at h
   ·rename_i hc;obtain⟨hc1,hc2,hc3⟩:=hc;obtain⟨g1,g2⟩:=j7 h;cases g2;obtain⟨g3,g4⟩:=qmh g1;cases hv with
    | aptr _ _ _ n0 hb hσ h0=>
     obtain⟨n1,c,T,vs,e1,e2,e3,e4,e5⟩:=hs.blk b _ hh;rw[hσ] at e1;cases e1;have hlen:=e3.length;have h2:X.w.cell? ⟨n0,o+i.toNat,none⟩=some (.int k (cI l i 0)):=by
      rw[zW e2];have:=qx9 e4 (j:=i.toNat) (by omega);rw[qGX l g3] at this
      rwa [show vs.length+i.toNat=o+i.toNat by omega] at this
     refine⟨_,_,rfl,?_,.int _ _⟩;simp only[Instr.loadAt,Instr.sureAddr,qMj,qML,qMq];unfold loadVar;rw[qMj,qfq hE hc1,qMq,hc2];simp[h2]
   ·cases h
  ·cases h
 ·exact qjH hE hs hv h
theorem qEZ (k:IntKind)(l:R)(j:Nat)(x:Int):q0T k (qbu l (j:Int) 0 [.i x])=(q0T k l).set j (.int k x):=by
 apply qN5;intro i;have hl:(qbu l (j:Int) 0 [.i x]).length=l.length:=by simp[qbu]
 by_cases hi:i<l.length
 ·rw[qiE (by omega)];by_cases hij:i=j
  ·subst hij;rw[qMs (by rw[ue];exact hi)];have:=qjC (l:=l) (i:=(i:Int)) (off:=0) (us:=[.i x]) (by simpa using hi) (j:=0);simp only[cI,this];rfl
  ·rw[qMh (qMI hij),qiE hi];have:=qhB (l:=l) (i:=(j:Int)) (off:=0) (us:=[.i x]) (r:=i) (by simpa using hij) (j:=0);simp only[cI,this]
 ·rw[qMA (by rw[ue];omega),qMA (by simp[ue];omega)]
theorem qBM (hE:E.tok P)(hs:HSim B X){b n0 j:Nat}(hσ:X.σ b=some n0){cs:List AV}{k:IntKind}(hh:X.h[b]?=some (.big cs k n l))(hj:j<n) (hsz:(E.ty t).size=1) (x:Int):qQ P B X (do Instr.storeAt t (.pointer (some ⟨n0,cs.length+j,none⟩)) (.int k x);pure .skip) (.skip,X.h.set b (.big cs k n (qbu l (j:Int) 0 [.i x])),none):=by
 obtain⟨n1,c,T,vs,e1,e2,e3,e4,e5⟩:=hs.blk b _ hh;rw[hσ] at e1;cases e1;have hlen:=e3.length;have hcl:c.size=vs.length+n:=by
  have:c.toList.length=(vs++q0T k l).length:=by rw[e4]
  simpa[ue,e5] using this
 have hsz':(sizeOf t).run P X.w=.ok (Value.int k x).cells.size X.w:=qbh hE (by rw[hsz];rfl) (by show 1≠0;omega) X.w;have hrun:=q2t (P:=P) (t:=t) (o:=cs.length+j) (v:=.int k x) e2 hsz' (by show cs.length+j+1<=_;omega) (fun u hu=>by
  have:u=.int k x:=by simpa[Value.cells] using hu
  rw[this];rfl)
 have hc':c.toList.take (cs.length+j)++(Value.int k x).cells.toList++c.toList.drop (cs.length+j+(Value.int k x).cells.size)=vs++q0T k (qbu l (j:Int) 0 [.i x]):=by
  rw[qEZ,e4];have h1:(Value.int k x).cells.toList=[.int k x]:=rfl;have h2:(Value.int k x).cells.size=1:=rfl;rw[h1,h2];apply qN5;intro i;have hsp:=qfi (c:=vs++q0T k l) (vs:=[Value.int k x]) (o:=cs.length+j) (k:=i) (by simp[ue];omega);simp only[qMH,qMU,qN6] at hsp;rw[hsp];by_cases hi:i=cs.length+j
  ·subst hi;rw[if_pos (by omega),qMv (by omega),show cs.length+j-vs.length=j by omega,qMs (by rw[ue];omega)];simp
  ·rw[if_neg (by omega)];rcases qMn i vs.length with hlt|hge
   ·rw[qMr hlt,qMr hlt]
   ·rw[qMv hge,qMv hge,qMh (by omega)]
 have hup:=UpdW.setRow (X:=X) (c':=(c.toList.take (cs.length+j)++(Value.int k x).cells.toList++c.toList.drop (cs.length+j+(Value.int k x).cells.size)).toArray) e2 (by have h1:(Value.int k x).cells.toList=[.int k x]:=rfl;have h2:(Value.int k x).cells.size=1:=rfl;rw[h1,h2];simp;omega);have hown:X.own b n0:=⟨hσ,_,hh,rfl⟩;have hkk:qhT (.big cs k n l) (.big cs k n (qbu l (j:Int) 0 [.i x])):=trivial;have hx:=Ctx.upd_ext hs hh hown hup hkk;refine⟨.skip,Go.undef,X.upd b (.big cs k n (qbu l (j:Int) 0 [.i x])) (X.w.setRow n0 _),?_,.inr ⟨rfl,rfl⟩,.skip,hs.upd hh hown hup hkk ?_,rfl,hx⟩
 ·simp[Instr.storeAt,Instr.sureAddr,hrun];rfl
 ·exact⟨n0,_,T,vs,hσ,hup.new,e3.ext hx,by rw[<-hc'],by simp[qbu,e5]⟩
theorem qD6 (hE:E.tok P)(hs:HSim B X){b off n0:Nat}(hσ:X.σ b=some n0){cs:List AV}{k:IntKind}(hh:X.h[b]?=some (.big cs k n l)){a:AV} {v:Value} (hv:Rep X a v) {r:Res} (h:(qxm E X.h t b off cs k n l a).run=some r):qQ P B X (do Instr.storeAt t (.pointer (some ⟨n0,off,none⟩)) v;pure .skip) r:=by
 obtain⟨n1,c,T,vs,e1,e2,e3,e4,e5⟩:=hs.blk b _ hh;rw[hσ] at e1;cases e1;have hlen:=e3.length;have hcl:c.size=vs.length+n:=by
  have:c.toList.length=(vs++q0T k l).length:=by rw[e4]
  simpa[ue,e5] using this
 have hown:X.own b n0:=⟨hσ,_,hh,rfl⟩;unfold qxm at h;split at h
 ·rename_i cs' k' n' l';split at h
  ·rename_i hc;obtain⟨rfl,rfl,rfl,c1,c2,c3,c4⟩:=hc;cases h;cases hv with
   | bagg _ _ _ _ vs' h' hl'=>
    have hlen':=h'.length;have hcs:(Value.agg (vs'++q0T k l').toArray).cells.toList=vs'++q0T k l':=by simp[Value.cells]
    have hcz:(Value.agg (vs'++q0T k l').toArray).cells.size=c.size:=by simp[Value.cells,ue];omega
    have hsz':(sizeOf t).run P X.w=.ok (Value.agg (vs'++q0T k l').toArray).cells.size X.w:=qbh hE (by rw[hcz];omega) (by rw[hcz];omega) X.w;have hrun:=q2t (P:=P) (t:=t) (o:=0) (v:=.agg (vs'++q0T k l').toArray) e2 hsz' (by omega) (fun u hu=>by
     rw[hcs] at hu;rcases qMD.1 hu with hu|hu
     ·exact qdx h' c4 u hu
     ·unfold q0T at hu;obtain⟨row,_,hr⟩:=qN3.1 hu;rw[<-hr];rfl)
    have hup:=UpdW.setRow (X:=X) (c':=(c.toList.take 0++(Value.agg (vs'++q0T k l').toArray).cells.toList++c.toList.drop (0+(Value.agg (vs'++q0T k l').toArray).cells.size)).toArray) e2 (by rw[hcs];simp[hcz,ue];omega);have hkk:qhT (.big cs k n l) (.big cs' k n l'):=trivial;have hx:=Ctx.upd_ext hs hh hown hup hkk;refine⟨.skip,Go.undef,X.upd b (.big cs' k n l') (X.w.setRow n0 _),?_,.inr ⟨rfl,rfl⟩,.skip,hs.upd hh hown hup hkk ?_,rfl,hx⟩
    ·simp only[Instr.storeAt,Instr.sureAddr,qMj,qML,qMq,hrun];rfl
    ·refine⟨n0,_,T,vs',hσ,hup.new,h'.ext hx,?_,hl'⟩;rw[hcs];simp[hcz]
  ·cases h
 ·rename_i hnb;split at h
  ·rename_i hc;obtain⟨c1,c2,c3⟩:=hc;split at h
   ·rename_i hle;have hle':off+a.cells.length<=cs.length:=Nat.le_of_ble_eq_true hle;cases h;have hrl:=qjk hv c2;have hlenv:v.cells.size=a.cells.length:=by have:=hrl.length;simpa using this.symm
    have hone:=qdx hrl c2;have hsz:(sizeOf t).run P X.w=.ok v.cells.size X.w:=by rw[hlenv];exact qbh hE c1 c3 X.w
    have hrun:=q2t (P:=P) (t:=t) (o:=off) (v:=v) e2 hsz (by omega) hone;have hup:=UpdW.setRow (X:=X) (c':=(c.toList.take off++v.cells.toList++c.toList.drop (off+v.cells.size)).toArray) e2 (by simp;omega);have hkk:qhT (.big cs k n l) (.big (qpO cs off a.cells) k n l):=trivial;have hx:=Ctx.upd_ext hs hh hown hup hkk;refine⟨.skip,Go.undef,X.upd b (.big (qpO cs off a.cells) k n l) (X.w.setRow n0 _),?_,.inr ⟨rfl,rfl⟩,.skip,hs.upd hh hown hup hkk ?_,rfl,hx⟩
    ·simp[Instr.storeAt,Instr.sureAddr,hrun];rfl
    ·refine⟨n0,_,T,vs.take off++v.cells.toList++vs.drop (off+a.cells.length),hσ,hup.new,(qgv e3 hrl off).ext hx,?_,e5⟩;show c.toList.take off++v.cells.toList++c.toList.drop (off+v.cells.size)=_;rw[e4,hlenv,List.take_append_of_le_length (by omega),List.drop_append_of_le_length (by omega)];simp
   ·split at h
    ·rename_i k' x hx;split at h
     ·rename_i hc2;obtain⟨rfl,d1,d2⟩:=hc2;cases h;obtain rfl:=q3L hv hx;have hone:a.cells.length=1:=by cases a<;>simp[asI] at hx<;>rfl
      have:=qBM (P:=P) hE hs hσ hh (j:=off-cs.length) (by omega) (t:=t) (by omega) x
      rwa [show cs.length+(off-cs.length)=off by omega] at this
     ·cases h
    ·cases h
  ·cases h
theorem qxg (hE:E.tok P)(hs:HSim B X){p a:AV}{vp v:Value}(hp:Rep X p vp)(hv:Rep X a v)(h:(q06 E X.h t p a).run=some r):qQ P B X (do Instr.storeAt t vp v;pure .skip) r:=by
 unfold q06 at h;split at h
 ·rename_i b off;split at h
  ·rename_i cs k n l hh;cases hp with
   | ptr _ _ n0 hb hσ=>exact qD6 hE hs hσ hh hv h
  ·exact qqg hE hs hp hv h
 ·rename_i b o i;split at h
  ·rename_i cs k n l hh;split at h
   ·rename_i k' x hx;split at h
    ·rename_i hc;obtain⟨rfl,rfl,hc3⟩:=hc;obtain⟨g1,g2⟩:=j7 h;cases g2;obtain⟨g3,g4⟩:=qmh g1;obtain rfl:=q3L hv hx;cases hp with
     | aptr _ _ _ n0 hb hσ h0=>
      have:=qBM (P:=P) hE hs hσ hh (j:=i.toNat) (by omega) (t:=t) hc3 x
      rwa [qO5 h0] at this
    ·cases h
   ·cases h
  ·cases h
 ·exact qqg hE hs hp hv h
theorem qmS (hE:E.tok P)(hs:HSim B X){a ai:AV}{v vi:Value}(hv:Rep X a v)(hi:Rep X ai vi)(h:(q0C E X.h t a ai).run=some r):∃av u,r=(av,X.h,none)/\(Instr.indexAt t v vi).run P X.w=.ok u X.w/\Rep X av u:=by
 unfold q0C at h;split at h
 ·rename_i n e es hd;split at h
  ·split at h
   ·rename_i b off;split at h
    ·rename_i k i;split at h
     ·rename_i hes;obtain⟨ht,hce⟩:=q8G hE hd;obtain⟨g1,g2⟩:=j7 h;cases g2;obtain⟨g3,g4⟩:=qmh g1;obtain rfl:=q3L hi rfl;cases hv with
      | ptr _ _ n0 hb hσ=>
       refine⟨_,_,rfl,q0m ht (by omega) g3 g4,?_⟩;rw[qN0,<-hce,hes,qNT];exact .aptr b off i n0 hb hσ g3
     ·cases h
    ·exact q35 hE hs hv hi h
   ·exact q35 hE hs hv hi h
  ·exact q35 hE hs hv hi h
 ·exact q35 hE hs hv hi h
theorem ql4{X:Ctx}{place:Nat->Option (Nat×Nat)}(tl:List Value):∀{parts:List (Nat×AV)} {vparts:List (Nat×Value)} {cells cs:List AV} {vc:Array Value} {vs:List Value},
  qfK place cells parts=some cs->RepP X parts vparts->RepL X cells vs->vc.toList=vs++tl->∃vc' vs',Instr.fill place vc vparts=some vc'/\RepL X cs vs'/\vc'.toList=vs'++tl
 | [],_,cells,cs,vc,vs,h,hp,hr,hv=>by
  cases hp;simp only[qfK,qMe] at h;subst h;exact⟨vc,vs,rfl,hr,hv⟩
 | (i,a)::rest,_,cells,cs,vc,vs,h,hp,hr,hv=>by
  cases hp with
  | cons ha ht=>
  rename_i v m;simp only[qfK] at h;cases hpl:place i with
  | none=>rw[hpl] at h;cases h
  | some q=>
   obtain⟨off,size⟩:=q;rw[hpl] at h;simp only at h;by_cases hc:a.cells.length=size/\off+a.cells.length<=cells.length/\yt a.cells=true
   ·rw[if_pos hc] at h;have hrl:=qjk ha hc.2.2;have hlen:v.cells.size=a.cells.length:=by have:=hrl.length;simpa using this.symm
    have hvs:cells.length=vs.length:=hr.length;have hvc:vc.size=vs.length+tl.length:=by
     have:vc.toList.length=(vs++tl).length:=by rw[hv]
     simpa using this
    have hnot:¬(v.cells.size≠size\/off+v.cells.size>vc.size):=by omega
    have hf:=quX v.cells vc off (by omega);obtain⟨vc',vs',h1,h2,h3⟩:=ql4 tl (vc:=v.cells.zipIdx.foldl (fun cs (x:Value×Nat)=>cs.setIfInBounds (off+x.2) x.1) vc) (vs:=vs.take off++v.cells.toList++vs.drop (off+a.cells.length)) h ht (qgv hr hrl off) (by rw[hf,hlen,hv,List.take_append_of_le_length (by omega),List.drop_append_of_le_length (by omega)];simp);refine⟨vc',vs',?_,h2,h3⟩;simp only[Instr.fill,hpl];rw[if_neg (by simpa using hnot)];exact h1
   ·rw[if_neg hc] at h;cases h
theorem qui (hE:E.tok P){parts:List (Nat×AV)}{vparts:Array (Nat×Value)}(hp:RepP X parts vparts.toList)(h:(qd9 E X.h t parts).run=some r):∃av u,r=(av,X.h,none)/\(Instr.build t vparts).run P X.w=.ok u X.w/\Rep X av u:=by
 unfold qd9 at h;split at h
 ·rename_i o k n hb;obtain⟨b1,b2,b3,b4,_⟩:=qk1 hb;split at h
  ·rename_i fs hd;split at h
   ·rename_i hok;obtain⟨z,z1,z2,_⟩:=qgR hE (t:=t) (by omega) X.w;obtain⟨fields,e1,e2⟩:=q9a hE hd;have hinfo:∀f∈fields.toList,(P.info? f.type).isSome=true:=by have hk:=kZ hE (t:=t) (by rw[hd];rfl);rw[hk.1] at hok;unfold qxu at hok;obtain⟨_,i,dd,h1,_⟩:=hk;rw[h1] at hok;simpa only [e1,qMM] using hok
    cases hf:qfK (fun i=>(fs[i]?).map fun (f:Nat×TypeId×Nat)=>(f.1,f.2.2)) (((E.ty t).zero.take o).map jm) parts with
    | none=>rw[hf] at h;cases h
    | some cs=>
     rw[hf] at h;cases h;have hpl:(fun i:Nat=>(fs[i]?).map fun (f:Nat×TypeId×Nat)=>(f.1,f.2.2))=fun i:Nat=>(fields.map fun f=>(f.offset,P.cellsOf f.type))[i]?:=by funext i;rw[e2];simp only[qMo,qOn,Array.getElem?_map,Option.map_map];rfl
     rw[hpl] at hf;obtain⟨vc,vs',f1,f2,f3⟩:=ql4 (q0T k (q3K n [.i 0])) (vc:=z.cells) (vs:=(E.ty t).zero.take o) hf hp (jG X _) (by rw[z2];exact qoK hb);have:Rep X (.bagg cs k n (q3K n [.i 0])) (.agg (vs'++q0T k (q3K n [.i 0])).toArray):=.bagg _ _ _ _ _ f2 (qtr _ _);rw[<-f3] at this;refine⟨_,.agg vc,rfl,?_,by simpa using this⟩;have hm:=qAQ (P:=P) (f:=fun f:Field=>(do pure (f.offset,<-sizeOf f.type):Sem (Nat×Nat))) (g:=fun f=>(f.offset,P.cellsOf f.type)) fields (fun f hf w=>by
      have:=hinfo f hf;cases hi:P.info? f.type with
      | none=>rw[hi] at this;cases this
      | some i=>simp[sizeOf,typeInfo,hi,Program.cellsOf]) X.w
     simp only[Instr.build,qMj,z1,qMq,run_underlying e1];rw[hm];simp only[qMq,f1];rfl
   ·cases h
  ·cases h
 ·exact qwk hE hp h
theorem qfT {t e:TypeId}{ad:Addr}{vlo vhi:Option Value}{a b:Nat}(ht:P.underlying t=some (.array n e))(hp:0<P.cellsOf e)(hb:(Instr.sliceBounds false n n vlo vhi none).run P w=.ok (a,b,n) w) :(Instr.sliceAt t (.pointer (some ad)) vlo vhi none).run P w=.ok (.slice (some (if n=a then ad else ad.add (a*P.cellsOf e))) (b-a) (n-a)) w:=by simp[Instr.sliceAt,run_underlying ht,Instr.sureAddr,hb,zy hp]
theorem qou {t e:TypeId}{ad:Addr}{vlo vhi vmx:Option Value}{a b:Nat}(ht:P.underlying t=some (.array n e))(hp:0<P.cellsOf e)(hb:(Instr.sliceBounds false n n vlo vhi vmx).run P w=.ok (a,b,b) w) :(Instr.sliceAt t (.pointer (some ad)) vlo vhi vmx).run P w=.ok (.slice (some (if b=a then ad else ad.add (a*P.cellsOf e))) (b-a) (b-a)) w:=by simp[Instr.sliceAt,run_underlying ht,Instr.sureAddr,hb,zy hp]
theorem Sh.beq_eq1 {s t:Sh}(h:Sh.beq s t=true):s=t:=by
 have:Sh.beqL [s] [t]=true:=by simp[Sh.beqL,h]
 have:=Sh.beqL_eq _ _ this;cases this;rfl
theorem qAs {M:Nat->Prop}{sh:List Sh}{i:Int}{off n:Nat}{s:Sh}{rows:R}(h:qAj sh l i off n=some (s,rows)){a:Addr}(_:a.spot=none)(hr:Rows w M sh l a) :rows.length=n/\i=0/\qgb w M [s] rows (.slice (some ⟨a.block,a.off+i.toNat*sh.length+off,none⟩) n n):=by
 unfold qAj at h;split at h
 ·rename_i s' row hs;split at h
  ·rename_i hc;obtain⟨⟨rfl,c1⟩,c2,c3⟩:=hc;cases h;have hl:(((row.drop off).take n).map fun u=>[u]).length=n:=by simp;omega
   refine⟨hl,rfl,.inr ⟨_,n,by rw[hl],fun _=>rfl,by rw[hl];exact qMg n,fun r j hj hrn=>?_⟩⟩;rw[hl] at hrn;have hj0:j=0:=by simpa using hj
   subst hj0;have hlt:off+r<sh.length:=by omega
   obtain⟨g1,v,g2,g3⟩:=hr 0 (off+r) hlt (by simp);refine⟨g1,v,?_,?_⟩
   ·rw[<-g2];show World.cell? w ⟨a.block,a.off+(0:Int).toNat*sh.length+off+r*1+0,none⟩=_;congr 2;simp;omega
   ·have e1:sh[off+r]=s:=by
     have hm:sh[off+r]∈(sh.drop off).take n:=by rw[List.mem_iff_getElem];refine⟨r,by simp;omega,by simp⟩
     exact(Sh.beq_eq1 (qMM.1 c2 _ hm)).symm
    have e2:zH [row] ((0:Nat):Int) (off+r)=zH (((row.drop off).take n).map fun u=>[u]) (r:Int) 0:=by
     unfold zH;have h1:(((row.drop off).take n).map fun u=>[u]).getD ((r:Nat):Int).toNat []=[row.getD (off+r) (.i 0)]:=by rw[qMp,qMf,qMo,qNh,if_pos hrn,qNi,qMf,qMl (show off+r<row.length by omega)];rfl
     rw[h1];rfl
    rw[e1] at g3;rw[<-e2];exact g3
  ·cases h
 ·cases h
theorem qrU {lo:Option AV}{vlo:Option Value}(hlo:RepO X lo vlo){k k':IntKind}{a b:Int}(h1:qg4 lo 0=some a) (hb:b<=n) (ha0:0<=a) (ha:a<=b) (w:World) :(Instr.sliceBounds false n n vlo (some (.int k b)) (some (.int k' b))).run P w=.ok (a.toNat,b.toNat,b.toNat) w:=by
 have hb0:0<=b:=by omega
 have hba:a<=(b.toNat:Nat):=by omega
 have hbb:b<=(b.toNat:Nat):=by omega
 rcases qni hlo h1 with⟨rfl,rfl⟩|⟨k,rfl⟩
 ·simp[Instr.sliceBounds,zp hb0 hb,zp hb0 hbb]
 ·simp[Instr.sliceBounds,zp hb0 hb,zp hb0 hbb,zp ha0 hba]
theorem qzf (hs:HSim B X){t e:TypeId}(hta:P.underlying t=some (.array n e))(hce:P.cellsOf e=1){ad:Addr}{s:Sh}{rows:R}(hl:rows.length=n)(himm:qgb X.w X.M [s] rows (.slice (some ad) n n)) {lo hi mx:Option AV} {vlo vhi vmx:Option Value} (hlo:RepO X lo vlo) (hhi:RepO X hi vhi) (hmx:RepO X mx vmx) {r:Res}(h:(qxI X.h n s rows lo hi mx).run=some r):qQ P B X (do pure (.value (<-Instr.sliceAt t (.pointer (some ad)) vlo vhi vmx))) r:=by
 have hrl:qg rows=(n:Int):=by unfold qg;rw[hl]
 unfold qxI at h;cases mx with
 | none=>
  cases hmx;simp only at h;cases h1:qg4 lo 0 with
  | none=>rw[h1] at h;cases h
  | some x=>
   cases h2:qg4 hi n with
   | none=>rw[h1,h2] at h;cases h
   | some y=>
    rw[h1,h2] at h;obtain⟨g1,g2⟩:=j7 h;obtain⟨g3,g4⟩:=j7 g2;cases g4;obtain⟨q1,q2⟩:=kY g1;obtain⟨q3,q4⟩:=kY g3;have hrun:=qfT (P:=P) (w:=X.w) (ad:=ad) hta (by omega) (q0l hlo hhi h1 h2 rfl q1 (by omega) q3 q4 _);refine qQ.ofV hs hrun ?_;obtain⟨_,_,w3⟩:=qrm himm q3 q4 (by rw[hrl];exact q2);refine .imm _ _ _ ?_;rw[hce];have e0:(if n=x.toNat then some ad else (some ad).map (·.add (x.toNat*[s].length)))=some (if n=x.toNat then ad else ad.add (x.toNat*1)):=by split<;>rfl
    rw[e0] at w3;exact w3
 | some m=>
  simp only at h;cases h1:qg4 lo 0 with
  | none=>rw[h1] at h;cases h
  | some x=>
   cases hi with
   | none=>rw[h1] at h;cases h
   | some y=>
   rw[h1] at h;simp only[qMG] at h;cases h2:asI y with
   | none=>rw[h2] at h;cases h
   | some p=>
    obtain⟨k1,c⟩:=p;cases h3:asI m with
    | none=>rw[h2,h3] at h;cases h
    | some p'=>
     obtain⟨k2,d⟩:=p';rw[h2,h3] at h;obtain⟨g1,g2⟩:=j7 h;obtain⟨g3,g4⟩:=j7 g2;obtain⟨g5,g6⟩:=j7 g4;cases g6;obtain⟨q1,q2⟩:=kY g1;obtain⟨q3,q4⟩:=kY g3;have hcd:c=d:=of_decide_eq_true g5;subst hcd;cases hhi with
     | some hy=>
      cases hmx with
      | some hm=>
       obtain⟨k3,rfl⟩:=qwN hy h2;obtain⟨k4,rfl⟩:=qwN hm h3;have hrun:=qou (P:=P) (w:=X.w) (ad:=ad) hta (by omega) (qrU (k:=k3) (k':=k4) hlo h1 q2 q3 q4 _);refine qQ.ofV hs hrun ?_;obtain⟨_,w3⟩:=quH himm q3 q4 (by rw[hrl];exact q2);rw[hce];have e0:(if c.toNat=x.toNat then some ad else (some ad).map (·.add (x.toNat*[s].length)))=some (if c.toNat=x.toNat then ad else ad.add (x.toNat*1)):=by split<;>rfl
       rw[e0] at w3;exact .full _ _ _ _ w3
theorem qwE (hE:E.tok P)(hs:HSim B X){a:AV}{lo hi mx:Option AV}{vlo vhi vmx:Option Value}(hv:Rep X a v)(hlo:RepO X lo vlo) (hhi:RepO X hi vhi) (hmx:RepO X mx vmx) {r:Res} (h:(uD E X.h t a lo hi mx).run=some r) :qQ P B X (do pure (.value (<-Instr.sliceAt t v vlo vhi vmx))) r:=by
 unfold uD at h;split at h
 ·rename_i n e es hd;obtain⟨hta,hce⟩:=q8G hE hd;split at h
  ·rename_i sh l i off;split at h
   ·rename_i hes;split at h
    ·rename_i s rows har;cases hv with
     | eptr _ _ _ _ a hsp h0 h1 hr=>
      obtain⟨hl,hi0,himm⟩:=qAs har hsp hr;exact qzf hs hta (by omega) hl himm hlo hhi hmx h
    ·cases h
   ·cases h
  ·rename_i b off;split at h
   ·cases hmx
    ·split at h
     ·rename_i hes;unfold qHR at h;cases h1:qg4 lo 0 with
      | none=>rw[h1] at h;cases h
      | some x=>
       cases h2:qg4 hi n with
       | none=>rw[h1,h2] at h;cases h
       | some y=>
        rw[h1,h2] at h;obtain⟨g1,g2⟩:=j7 h;obtain⟨g3,g4⟩:=j7 g2;cases g4;obtain⟨q1,q2⟩:=kY g1;obtain⟨q3,q4⟩:=kY g3;cases hv with
        | ptr _ _ n0 hb hσ=>
         have hrun:=qfT (P:=P) (w:=X.w) (ad:=⟨n0,off,none⟩) hta (by omega) (q0l hlo hhi h1 h2 rfl q1 (by omega) q3 q4 _);refine qQ.ofV hs hrun ?_;have he1:P.cellsOf e=1:=by omega
         have hk:(if n=x.toNat then (⟨n0,off,none⟩:Addr) else Addr.add ⟨n0,off,none⟩ (x.toNat*P.cellsOf e))=⟨n0,if n=x.toNat then off else off+x.toNat,none⟩:=by
          split
          ·rfl
          ·rw[qN0,he1,qNT]
         rw[hk];have hyx:qzh y x=y-x:=rfl;have hn:y.toNat-x.toNat=(qzh y x).toNat:=by rw[hyx];omega
         rw[hn];refine .asub b off n x (qzh y x) n0 _ _ hb hσ q3 (by rw[hyx];omega) (by rw[hyx];omega) ?_;split
         ·right;rw[hyx];omega
         ·exact .inl rfl
     ·cases h
   ·cases h
  ·cases h
 ·exact qyO hE hs hv hlo hhi hmx h
theorem qFy {l l':R}{i i' c:Int}(h0:0<=i)(h0':0<=i')(hc:0<=c)(h1:i+c<=l.length)(h2:i'+c<=l'.length):(qmR l i l' i' c).length=l.length:=by simp[qmR];omega
theorem qyd (hE:E.tok P)(hs:HSim B X){ts:List TypeId}{azz:List AV}(hv:RepL X azz vs)(h:(qvG E X.h ts azz).run=some r)(ty:TypeId) :qQ P B X (do pure (.value (<-Builtin.copy_ ts.toArray ty vs.toArray))) r:=by
 unfold qvG at h;split at h
 ·rename_i t t' b o n i m b' o' n' i' m';split at h
  ·rename_i e es hd;obtain⟨ht,hce⟩:=q0W hE hd;split at h
   ·rename_i cs k N l hb;split at h
    ·rename_i cs' k' N' l' hb';split at h
     ·rename_i hc;obtain⟨hes,rfl,rfl,rfl,rfl,rfl⟩:=hc;cases h;cases hv with
      | cons hv1 hv=>cases hv with
       | cons hv2 hv=>cases hv with
        | nil=>
         cases hv1 with
         | asub _ _ _ _ _ n0 k0 c0 hbl hσ i0 m0 im hk=>
          cases hv2 with
          | asub _ _ _ _ _ n1 k1 c1 hbl' hσ' i0' m0' im' hk'=>
           obtain⟨q,c,T,us,e1,e2,e3,e4,e5⟩:=hs.blk b _ hb;rw[hσ] at e1;cases e1;obtain⟨q',c',T',us',f1,f2,f3,f4,f5⟩:=hs.blk b' _ hb';rw[hσ'] at f1;cases f1;have hlen:=e3.length;have hlen':=f3.length;have hcl:c.size=us.length+n:=by
            have:c.toList.length=(us++q0T k l).length:=by rw[e4]
            simpa[ue,e5] using this
           obtain⟨d,hd0,hd1⟩:∃d:Int,d=qmL m' m/\0<=d/\d<=m/\d<=m':=by refine⟨_,rfl,?_⟩;unfold qmL;split<;>omega
           rw[<-hd0];have hdn:d.toNat=Nat.min m'.toNat m.toNat:=by rw[hd0];unfold qmL;show _=min m'.toNat m.toNat;split<;>omega
           let ws:List Value:=(List.range d.toNat).map fun j:Nat=>Value.int k (cI l' ((i'.toNat+j:Nat):Int) 0)
           have hwl:ws.length=d.toNat:=by simp[ws]
           have hcell:∀j v,ws[j]?=some v->X.w.cell? (Addr.add ⟨n1,k1,none⟩ j)=some v:=by
            intro j v hj;have hjd:j<d.toNat:=by have:=qq hj;omega
            simp only[ws,qMo,qMY hjd,qMO,qMe] at hj;rw[qN0,zW f2,<-hj];rcases hk' with hk'|hk'
            ·rw[hk',show cs'.length+i'.toNat+j=us'.length+(i'.toNat+j) by omega];exact qx9 f4 (by omega)
            ·omega
           have hone:∀v∈ws,v.oneCell'=true:=by intro v hv;obtain⟨j,_,hj⟩:=qN3.1 hv;rw[<-hj];rfl
           have hkd:k0=cs.length+i.toNat\/ws=[]:=by
            rcases hk with hk|hk
            ·exact .inl hk
            ·exact .inr (qNL (by omega))
           have hinfo:(P.info? e).map (·.size)=some 1:=by obtain⟨ii,w1,w2⟩:=qzt (P:=P) (e:=e) (by omega);rw[w1,qMO,w2,<-hce,hes]
           have hmin:ws.length=Nat.min m'.toNat m.toNat:=by omega
           have hown:X.own b n0:=⟨hσ,_,hb,rfl⟩;have hkk:qhT (.big cs k n l) (.big cs k n (qmR l i l' i' d)):=trivial;have hrl:(qmR l i l' i' d).length=l.length:=qFy i0 i0' hd1.1 (by omega) (by omega);have hint:q0T k (qmR l i l' i' d)=(q0T k l).take i.toNat++ws++(q0T k l).drop (i.toNat+d.toNat):=by
            apply qN5;intro j;have hsp:=qfi (c:=q0T k l) (vs:=ws) (o:=i.toNat) (k:=j) (by rw[hwl,ue];omega);rw[hwl] at hsp;rw[hsp];by_cases hj:j<l.length
            ·rw[qiE (by omega)];have hli:(l.take i.toNat).length=i.toNat:=by simp;omega
             have hld:((l'.drop i'.toNat).take d.toNat).length=d.toNat:=by simp;omega
             have hcu:∀(f:R) (k:Nat),cI f (k:Int) 0=((f[k]?.getD []).getD 0 (.i 0)).toI:=fun f k=>by unfold cI zH;rw[qMp,qMf (l:=f)]
             split
             ·rename_i hin;simp only[ws,qMo,qMY (show j-i.toNat<d.toNat by omega),qMO,qMe];congr 1;rw[hcu,hcu];unfold qmR;rw[qMK,qMv (by omega),hli,qMr (by omega),qNh,if_pos (by omega),qNi]
             ·rename_i hout;rw[qiE hj];congr 2;rw[hcu,hcu];unfold qmR;rcases qMn j i.toNat with hlt|hge
              ·rw[qMK,qMr (by omega),qNh,if_pos hlt]
              ·rw[qMv (by simp only[qMz];omega),qNi];simp only[qMz,hli,hld];rw[show i.toNat+d.toNat+(j-(i.toNat+d.toNat))=j by omega]
            ·rw[qMA (by rw[ue];omega)];rw[if_neg (by omega),qMA (by rw[ue];omega)]
           have hrow:c.toList.take k0++ws++c.toList.drop (k0+ws.length)=us++q0T k (qmR l i l' i' d):=by
            rw[hint];rcases hkd with hkd|hkd
            ·rw[e4,hkd,hwl,hlen,List.take_append,List.drop_append,List.take_of_length_le (by omega),qNU (show us.length<=us.length+i.toNat+d.toNat by omega)];rw[show us.length+i.toNat-us.length=i.toNat by omega,show us.length+i.toNat+d.toNat-us.length=i.toNat+d.toNat by omega];simp
            ·have hd00:d.toNat=0:=by rw[<-hwl,hkd];rfl
             rw[hkd,hd00];simp[e4]
           have hfit:k0+ws.length<=c.size\/ws=[]:=by
            rcases hkd with hkd|hkd
            ·left;omega
            ·exact .inr hkd
           rcases hfit with hfit|hfit
           ·have hrun:=run_copy_row (P:=P) X.w t t' ty e n0 k0 m.toNat c0 ⟨n1,k1,none⟩ m'.toNat c1 c T ws ht hinfo e2 hmin hcell hfit hone;have hup:=UpdW.setRow (X:=X) (c':=(c.toList.take k0++ws++c.toList.drop (k0+ws.length)).toArray) e2 (by simp;omega);have hx:=Ctx.upd_ext hs hb hown hup hkk;refine⟨.value (goInt ws.length),goInt ws.length,X.upd b (.big cs k n (qmR l i l' i' d)) (X.w.setRow n0 _),?_,.inl rfl,?_,hs.upd hb hown hup hkk ?_,rfl,hx⟩
            ·rw[qMj];have:(#[Value.slice (some ⟨n0,k0,none⟩) m.toNat c0,Value.slice (some ⟨n1,k1,none⟩) m'.toNat c1]:Array Value)=List.toArray [.slice (some ⟨n0,k0,none⟩) m.toNat c0,.slice (some ⟨n1,k1,none⟩) m'.toNat c1]:=rfl;rw[<-this];have h2:(#[t,t']:Array TypeId)=List.toArray [t,t']:=rfl;rw[<-h2,hrun];rfl
            ·have:goInt ws.length=.int .i64 d:=by show Value.int .i64 (ws.length:Int)=_;rw[hwl,qO5 hd1.1]
             rw[this];exact .int _ _
            ·exact⟨n0,_,T,us,hσ,hup.new,e3.ext hx,by rw[<-hrow],by rw[hrl];exact e5⟩
           ·
            have hd00:d.toNat=0:=by rw[<-hwl,hfit];rfl
            have hrun:(Builtin.copy_ (List.toArray [t,t']) ty (List.toArray [.slice (some ⟨n0,k0,none⟩) m.toNat c0,.slice (some ⟨n1,k1,none⟩) m'.toNat c1])).run P X.w=.ok (goInt 0) X.w:=by
             have hl:=run_loadCells_list (P:=P) X.w ⟨n1,k1,none⟩ ws hcell;cases hq:P.info? e with
             | none=>rw[hq] at hinfo;cases hinfo
             | some ii=>
              have hsize:ii.size=1:=by rw[hq] at hinfo;simpa using hinfo
              have hmz:Nat.min m'.toNat m.toNat=0:=by omega
              rw[hfit] at hl;simp only[qMU] at hl;simp[Builtin.copy_,run_underlying ht,Builtin.lenOf,Builtin.firstCells,sizeOf,typeInfo,hq,hmz,hl,storeCells]
            have hw:X.w=X.w.setRow n0 c:=(setRow_self X.w n0 c T (0,0) e2).symm;have hup:UpdW X n0 c c T X.w:=⟨e2,e2,rfl,fun _ _=>rfl,rfl,rfl,rfl,rfl⟩;have hx:=Ctx.upd_ext hs hb hown hup hkk;refine⟨.value (goInt 0),goInt 0,X.upd b (.big cs k n (qmR l i l' i' d)) X.w,?_,.inl rfl,?_,hs.upd hb hown hup hkk ?_,rfl,hx⟩
            ·rw[qMj,hrun];rfl
            ·have:goInt 0=.int .i64 d:=by show Value.int .i64 (0:Int)=_;congr 1;omega
             rw[this];exact .int _ _
            ·refine⟨n0,c,T,us,hσ,e2,e3.ext hx,?_,by rw[hrl];exact e5⟩;rw[<-hrow,hfit];simp
     ·cases h
    ·cases h
   ·cases h
  ·cases h
 ·exact qzY hE hs hv h ty
end Go.Eng

namespace Go.Eng
variable {B:Base}{E:Env}{P:Program}{X:Ctx}{a:Act}{r:Res}{st:St}
theorem Move.transl {X Y Z:Ctx}{f:Nat->Option Nat}(h:Ext X Y)(k:Move Y Z f):Move X Z f:=by refine Move.of (fun n hn=>k.M n (h.M n hn)) (fun a ha=>(k.w a (h.M _ ha)).trans (h.w a ha)) (fun b1 b2 hb1 hf=>?_) (k.y.trans h.y) (k.kept.trans h.kept);have k1:=h.b b1 b1 hb1 rfl;have k2:=k.b b1 b2 k1.lt hf;refine⟨k2.lt,k2.σ.trans k1.σ,fun sh m hv=>k1.vec sh m (k2.vec sh m hv),fun sh m hv n hn c T fr hc=>?_⟩;obtain⟨c1,T1,fr1,e1,e2⟩:=k1.size sh m (k2.vec sh m hv) n hn c T fr hc;obtain⟨c2,T2,fr2,e3,e4⟩:=k2.size sh m hv n (by rw[k1.σ];exact hn) c1 T1 fr1 e1;exact⟨c2,T2,fr2,e3,e4.trans e2⟩
theorem qQ.frozen {X X1:Ctx}{h':List Blk}{m:Sem Next}(fz:Frozen B X X1 h')(h:qQ P B X1 m r):qQ P B X m r:=by
 obtain⟨nx,v,X',g1,g2,g3,g4,g5⟩:=h;refine⟨nx,v,X',by rw[<-fz.w];exact g1,g2,g3,g4,?_⟩;cases hn:r.2.2 with
 | none=>rw[hn] at g5;exact⟨g5.1,fz.ext.trans g5.2⟩
 | some b=>rw[hn] at g5;exact⟨g5.1,Move.transl fz.ext g5.2⟩
theorem qJL (hs:HSim B X){x:AV}{vx:Value}(h2:Rep X x vx){sh:List Sh}{m:R}(hm:vl X.h x=some (sh,m)) :∃X1,Frozen B X X1 (yo X.h x)/\Src P X1 sh m vx:=by
 cases h2 with
 | imm sh' l v himm=>
  simp only[vl,qMe,qMN] at hm;obtain⟨rfl,rfl⟩:=hm;exact⟨X,⟨rfl,rfl,rfl,hs,Ext.refl X⟩,qvz himm⟩
 | vec b p n c hb hv=>
  obtain⟨e0,hh⟩:=qfb hm;obtain⟨X1,fz⟩:=qiu hs b;have hfr:X1.h[b]?=some (.frz e0 sh m):=by rw[fz.h];exact qiv hh
  exact⟨X1,fz,qvz (qkf fz.hs hfr ((Rep.vec b p n c hb hv).ext fz.ext))⟩
 | _=>simp[vl] at hm
theorem qgh (hs:HSim B X){t e ty:TypeId}{sh:List Sh}{s x:AV}{vs vx:Value}{i:TypeInfo}{z:Value}(ht:P.underlying t=some (.slice e))(hc2:0<P.cellsOf e)(hc1:sh.length=P.cellsOf e) {rm:Int} (he:ElemOk rm P e (P.cellsOf e) i z) (h1:Rep X s vs) (h2:Rep X x vx) {r:Res} (hh:(qnD rm X.h e sh s x).run=some r) :qQ P B X (do pure (.value (<-Builtin.append_ #[t,t] ty #[vs,vx]))) r:=by
 unfold qnD at hh;cases hr:vl X.h x with
 | none=>rw[hr] at hh;cases hh
 | some q=>
  obtain⟨sh',m⟩:=q;rw[hr] at hh;simp only at hh;by_cases hbq:Sh.beqL sh sh'=true
  ·rw[if_pos hbq] at hh;obtain rfl:=Sh.beqL_eq _ _ hbq;obtain⟨X1,fz,hsrc⟩:=qJL (P:=P) hs h2 hr;have hlen:X1.h.length=X.h.length:=by rw[fz.h];cases x<;>simp[yo,qeP]
   cases h1 with
   | nils=>
    simp only at hh;obtain⟨g1,g2⟩:=j7 hh;cases g2;have:=qiC (ty:=ty) fz.hs ht hc2 hc1 he hsrc (of_decide_eq_true g1);rw[hlen,fz.h] at this;exact this.frozen fz
   | vec b p n c hb hv=>
    simp only at hh;cases hbk:X.h[b]? with
    | none=>rw[hbk] at hh;cases hh
    | some k=>
     rw[hbk] at hh;cases k<;>try (cases hh)
     rename_i e' sh'' l;simp only at hh;by_cases hq:Sh.beqL sh sh''=true/\e=e'
     ·rw[if_pos hq] at hh;obtain rfl:=Sh.beqL_eq _ _ hq.1;obtain rfl:=hq.2;have hrep:Rep X (.vec b) (.slice p n c):=.vec b p n c hb hv;by_cases hxv:∃b',x=AV.vec b'
      ·obtain⟨b',rfl⟩:=hxv;simp only[qFX] at hh;by_cases hbb:b=b'
       ·rw[if_pos hbb] at hh;cases hh
       rw[if_neg hbb] at hh;obtain⟨g1,g2⟩:=j7 hh;cases g2;have hb1:X1.h[b]?=some (.vec e sh l):=by
        rw[fz.h];simp only[yo,zF];split
        ·rw[qMh (qMI hbb)];exact hbk
        ·exact hbk
       have:=qiZ (ty:=ty) fz.hs ht hc2 hc1 he hb1 (hrep.ext fz.ext) hsrc (of_decide_eq_true g1);rw[fz.h] at this;exact this.frozen fz
      ·have hh':(Tree.br (ile (qg l+qg m) rm) (.leaf ((.vec b,X.h.set b (.vec e sh (zR l m)),some b):Res)) .fail).run=some r:=by cases x<;>first|exact hh|exact absurd ⟨_,rfl⟩ hxv
       obtain⟨g1,g2⟩:=j7 hh';cases g2;have hx1:X1.h=X.h:=by rw[fz.h];cases x<;>first|rfl|exact absurd ⟨_,rfl⟩ hxv
       have:=qiZ (ty:=ty) fz.hs ht hc2 hc1 he (by rw[hx1];exact hbk) (hrep.ext fz.ext) hsrc (of_decide_eq_true g1);rw[hx1] at this;exact this.frozen fz
     ·rw[if_neg hq] at hh;cases hh
   | full sh'' l p n himm=>
    simp only at hh;by_cases hq:Sh.beqL sh sh''=true
    ·rw[if_pos hq] at hh;obtain rfl:=Sh.beqL_eq _ _ hq;have hrep:=(Rep.full (X:=X) sh l p n himm).ext fz.ext;cases hrep with
     | full _ _ _ _ himm'=>
      cases hlt:ilt 0 (qg m) with
      | true=>
       rw[hlt] at hh;obtain⟨g3,g4⟩:=j7 (show (Tree.br _ _ _).run=some r from hh);cases g4;have:=qqQ (ty:=ty) fz.hs ht hc2 hc1 he himm' hsrc (of_decide_eq_true hlt) (of_decide_eq_true g3);rw[hlen,fz.h] at this;exact this.frozen fz
      | false=>
       rw[hlt] at hh;obtain⟨g3,g4⟩:=j7 (show (Tree.br _ _ _).run=some r from hh);cases g4;have hm0:m=[]:=by have:¬(0:Int)<qg m:=of_decide_eq_false hlt;unfold qg at this;exact qNL (by omega)
       subst hm0;have hn0:n=0:=by
        have hl0:qg l<=0:=of_decide_eq_true g3;unfold qg at hl0;rcases himm' with⟨q1,_⟩|⟨_,_,q1,_⟩
        ·cases q1;rfl
        ·cases q1;omega
       subst hn0;have:=qqD (ty:=ty) fz.hs ht hc2 hsrc (p:=p);rw[hlen,fz.h] at this;exact this.frozen fz
    ·rw[if_neg hq] at hh;cases hh
   | _=>simp only at hh;cases hh
  ·rw[if_neg hbq] at hh;cases hh
theorem qwA (hE:E.tok P)(hs:HSim B X){t ty:TypeId}{s x:AV}{vs vx:Value}(h1:Rep X s vs)(h2:Rep X x vx)(h:(qws E X.h t s x).run=some r):qQ P B X (do pure (.value (<-Builtin.append_ #[t,t] ty #[vs,vx]))) r:=by
 unfold qws at h;cases hd:(E.ty t).d<;>rw[hd] at h<;>try (cases h)
 rename_i e es;obtain⟨ht,rfl⟩:=q0W hE hd;simp only at h;cases hsh:E.shape 16 e with
 | none=>rw[hsh] at h;cases h
 | some sh=>
  rw[hsh] at h;simp only at h;by_cases hc:sh.length=P.cellsOf e/\0<P.cellsOf e/\(E.ty e).zero.length=P.cellsOf e
  ·rw[if_pos hc] at h;obtain⟨hc1,hc2,hc4⟩:=hc;obtain⟨i,z,he⟩:=qDB hE hc2 hc4;cases x with
   | nils=>
    simp only at h;cases h1<;>simp only[okv] at h<;>cases h;cases h2;exact qQ.ofV hs (uZ ht hc2 (qMg 0)) .nils
   | _=>exact qgh hs ht hc2 hc1 he h1 h2 h
  ·rw[if_neg hc] at h;cases h
inductive RepLL (X:Ctx):List (List AV)->List (List Value)->Prop
 | nil:RepLL X [] []
 | cons {a:List AV} {v:List Value} {l:List (List AV)} {m:List (List Value)} (h:RepL X a v) (t:RepLL X l m):RepLL X (a::l) (v::m)
theorem RepLL.ren {X X':Ctx}{f:Nat->Option Nat}(hm:Move0 X X' f):∀{l:List (List AV)} {m:List (List Value)},RepLL X l m->RepLL X' (l.map (AV.renL f)) m
 | _,_,.nil=>.nil
 | _,_,.cons h t=>.cons (h.ren hm) (t.ren hm)
theorem RepLL.ext {X X':Ctx}(hm:Ext X X'):∀{l:List (List AV)} {m:List (List Value)},RepLL X l m->RepLL X' l m
 | _,_,.nil=>.nil
 | _,_,.cons h t=>.cons (h.ext hm) (t.ext hm)
theorem RepLL.ext0 {X X':Ctx}(hm:Move0 X X' some):∀{l:List (List AV)} {m:List (List Value)},RepLL X l m->RepLL X' l m
 | _,_,.nil=>.nil
 | _,_,.cons h t=>.cons (h.ext0 hm) (t.ext0 hm)
def qlb(D:Nat):Deferred:={ target:=.collected D,args:=#[] }
def qzH(kept pin:List (Nat×Obj))(ds:List Deferred):Prop:=∃Ds:List Nat,ds=Ds.map qlb/\Ds.Nodup/\∀D,D∈Ds->(D,.deferred (some []))∈kept/\∀p,p∈pin->p.1≠D
theorem qzH.nil {kept pin:List (Nat×Obj)}:qzH kept pin []:=⟨[],rfl,.nil,fun _ h=>by cases h⟩
def AV.span:AV->Nat
 | .eptr sh l _ _=>sh.length*l.length
 | _=>0
def qHw(X:Ctx)(x:Nat×AV):Prop:=Rep X x.2 (.pointer (some ⟨x.1,0,none⟩))/\X.M x.1/\X.w.cell? ⟨x.1,x.2.span,none⟩=none
theorem qHw.move {X X':Ctx}{x:Nat×AV}(h:qHw X x)(hM:∀n,X.M n->X'.M n)(hw:∀a:Addr,X.M a.block->X'.w.cell? a=X.w.cell? a)(hr:Rep X' x.2 (.pointer (some ⟨x.1,0,none⟩))):qHw X' x:=⟨hr,hM _ h.2.1,by rw[hw _ h.2.1];exact h.2.2⟩
def q4q(gl:List (Nat×AV))(X:Ctx):Prop:=∀x,x∈gl->(∃sh l i off,x.2=.eptr sh l i off)/\qHw X x
structure Sim (E:Env) (B:Base) (X:Ctx) (st:St) (a:Act):Prop where
 hs:HSim B X
 h:X.h=st.h
 t:RepL X st.t a.tmps.toList
 fs:RepLL X st.fs B.fs
 glob:∀x,x∈E.glob->(∃sh l i off,x.2=.eptr sh l i off)/\qHw X x
 df:qzH X.kept (B.pin st.pend) a.defers
 ni:B.imps.length<=E.nimp
 y:X.y=B.y
 pin:∀p,p∈B.pin st.pend->p∈X.kept
theorem q9N (hs:Sim E B X st a)(x:Operand):Rep X (E.opd st.t x) (a.eval x):=by
 cases x with
 | tmp i=>
  have:=hs.t.getD i;simpa[Env.opd,Act.eval,qNx,qMf] using this
 | const v=>exact qJI X v
 | global g=>
  simp only[Env.opd,Act.eval];cases hg:E.glob.find? fun x=>x.1==g with
  | none=>exact .undef _
  | some x=>
   have h1:=qNr hg;have h2:x.1=g:=by simpa using h1
   have:=(hs.glob x (qN9 hg)).2.1;rw[h2] at this;exact this
 | func f=>exact .fn f [] [] [] [] .nil .nil
theorem q3Q{E:Env}{B:Base}{X:Ctx}{st:St}{a:Act}(hs:Sim E B X st a):∀l:List Operand,RepL X (l.map (E.opd st.t)) (l.map a.eval)
 | []=>.nil
 | x::l=>.cons (q9N hs x) (q3Q hs l)
theorem qsa{E:Env}{B:Base}{X:Ctx}{st:St}{a:Act}(hs:Sim E B X st a):∀l:List (Nat×Operand),RepP X (l.map fun p=>(p.1,E.opd st.t p.2)) (l.map fun p=>(p.1,a.eval p.2))
 | []=>.nil
 | (_,x)::l=>.cons (q9N hs x) (qsa hs l)
theorem qw0 (hs:Sim E B X st a)(x:Option Operand):RepO X (x.map (E.opd st.t)) (x.map a.eval):=by
 cases x with
 | none=>exact .none
 | some x=>exact .some (q9N hs x)
theorem quN (hs:HSim B X){f:Int->Int->Int}{g:Value->Value->Sem Value}(hg:∀k k' x y w,(g (.int k x) (.int k' y)).run P w=.ok (.int k (f x y)) w){azz:List AV} {vs:List Value} (hv:RepL X azz vs) {r:Res} (h:(qwK f X.h azz).run=some r) {m:Sem Value} (hm:∀x rest,vs=x::rest->m=rest.foldlM g x):qQ P B X (do pure (.value (<-m))) r:=by
 cases hv with
 | nil=>cases h
 | cons hx ht=>
  rename_i a v azz vs;simp only[qwK] at h;cases h1:asI a with
  | none=>rw[h1] at h;cases h
  | some p=>
   obtain⟨k,n⟩:=p;rw[h1] at h;simp only at h;cases h2:qzs f k n azz with
   | none=>rw[h2] at h;cases h
   | some q=>
    rw[h2] at h;simp only at h;obtain rfl:=q3L hx h1;have hr:=qrp (P:=P) hg k azz n q vs h2 ht;rw[hm _ _ rfl];split at h<;>cases h
    ·exact qQ.ofV hs hr (.ilit _ _)
    ·exact qQ.ofV hs hr (.int _ _)
theorem qtM (hE:E.tok P)(hs:HSim B X){b:Builtin}{ts:Array TypeId}{azz:List AV}{vs:List Value}(hv:RepL X azz vs)(h:(q9b E X.h b ts.toList azz).run=some r) (ty:TypeId) (cs:Array Bool):qQ P B X (builtin b ts ty cs vs.toArray) r:=by
 obtain⟨ts⟩:=ts;cases b with
 | append=>
  simp only[q9b] at h;unfold qyq at h;split at h
  ·rename_i t t' s x;by_cases htt:t=t'
   ·subst htt;rw[if_pos rfl] at h;cases hv with
    | cons h1 hv=>cases hv with
     | cons h2 hv=>cases hv;exact qwA hE hs h1 h2 h
   ·rw[if_neg htt] at h;cases h
  ·cases h
 | len=>
  simp only[q9b] at h;unfold qrv at h;split at h
  ·rename_i t rest x;cases hv with
   | cons h1 hv=>
    cases hv;obtain⟨av,u,rfl,g1,g2⟩:=qzq (P:=P) (t:=t) (ty:=ty) (ts:=(t::rest:List TypeId).toArray) hE hs (by simp) h1 h;exact qQ.ofV hs g1 g2
  ·cases h
 | max=>
  simp only[q9b] at h;exact quN hs (f:=qxq) (g:=Builtin.max2) (fun _ _ _ _ _=>qGt) hv h (m:=Builtin.max_ ts.toArray ty vs.toArray) (fun x rest e=>by subst e;rfl)
 | min=>
  simp only[q9b] at h;exact quN hs (f:=qmL) (g:=Builtin.min2) (fun _ _ _ _ _=>qHQ) hv h (m:=Builtin.min_ ts.toArray ty vs.toArray) (fun x rest e=>by subst e;rfl)
 | copy=>
  simp only[q9b] at h;exact qyd hE hs hv h ty
 | _=>simp only[q9b] at h;cases h
theorem qno (hE:E.tok P)(hs:Sim E B X st a){o:Oper}(h:(qrd E st.h (E.opd st.t) o.op).run=some r):qQ P B X (execOp a.eval o) r:=by
 have ro:=q9N hs;rw[<-hs.h] at h;unfold qrd at h;unfold execOp;cases hop:o.op with
 | move x=>rw[hop] at h;cases h;exact qQ.val hs.hs rfl (ro x)
 | assign x=>rw[hop] at h;cases h;exact qQ.val hs.hs rfl (ro x)
 | pick c x y=>
  rw[hop] at h;simp only at h ⊢;have hc:=ro c;generalize E.opd st.t c=ac at *;generalize a.eval c=vc at *;cases hc<;>simp only at h<;>try (cases h)
  ·rename_i b;refine qQ.val hs.hs (v:=if b then a.eval x else a.eval y) rfl ?_;cases b<;>exact ro _
  ·rename_i b;cases b
   ·cases h;exact qQ.val hs.hs (v:=a.eval y) rfl (ro y)
   ·cases h;exact qQ.val hs.hs (v:=a.eval x) rfl (ro x)
 | box t x=>
  rw[hop] at h;simp only at h ⊢;obtain⟨z,hz,rfl⟩:=quG h;exact qE6 hs.hs (ro x) hz
 | alloc t=>
  rw[hop] at h;simp only at h ⊢;obtain⟨z,hz,rfl⟩:=quG h;exact qzy hE hs.hs hz
 | load t x=>
  rw[hop] at h;obtain⟨av,u,rfl,g1,g2⟩:=qwU hE hs.hs (ro x) h;exact qQ.ofV hs.hs g1 g2
 | store t x y=>rw[hop] at h;exact qxg hE hs.hs (ro x) (ro y) h
 | build t parts=>
  rw[hop] at h;obtain⟨av,u,rfl,g1,g2⟩:=qui (vparts:=parts.map fun p=>(p.1,a.eval p.2)) hE (by simpa using qsa hs parts.toList) h;exact qQ.ofV hs.hs g1 g2
 | buildSlice t len parts=>
  rw[hop] at h;have h:(q9g E X.h t len (parts.toList.map fun p=>(p.1,E.opd st.t p.2))).run=some r:=h;have hp:RepP X (parts.toList.map fun p=>(p.1,E.opd st.t p.2)) (parts.map fun p=>(p.1,a.eval p.2)).toList:=by rw[Array.toList_map];exact qsa hs parts.toList
  have hg:=qoW hE hs.hs hp h;exact hg
 | nilCheck x=>
  rw[hop] at h;simp only at h ⊢;have hx:=ro x;generalize E.opd st.t x=ax at *;generalize a.eval x=vx at *;cases hx<;>simp only at h<;>try (cases h)
  ·rename_i b off n hb hσ;split at h
   ·cases h;exact qQ.val hs.hs rfl (.ptr b off n hb hσ)
   ·cases h;exact qQ.val hs.hs rfl (.ptr b off n hb hσ)
   ·cases h
  ·rename_i sh l i off ad h1 h2 h3 h4;exact qQ.val hs.hs rfl (.eptr sh l i off ad h1 h2 h3 h4)
  ·rename_i sh l i off ad h1 h2 h3 h4;exact qQ.val hs.hs rfl (.eptr sh l i off ad h1 h2 h3 h4)
 | binOp op t x y ty=>
  rw[hop] at h;simp only at h ⊢;have hx:=ro x;have hy:=ro y;generalize E.opd st.t x=ax at *;generalize E.opd st.t y=ay at *;unfold qmr at h;split at h
  ·obtain⟨av,u,rfl,g1,g2⟩:=qxe (x:=x) (y:=y) hE hx hy h;exact qQ.ofV hs.hs g1 g2
  ·obtain⟨av,u,rfl,g1,g2⟩:=qA4 (x:=x) (y:=y) hE hs.hs hx hy h;exact qQ.ofV hs.hs g1 g2
 | unOp op t x=>
  rw[hop] at h;obtain⟨av,u,rfl,g1,g2⟩:=qC4 (P:=P) (ro x) h;exact qQ.ofV hs.hs g1 g2
 | convert s d x=>
  rw[hop] at h;obtain⟨av,u,rfl,g1,g2⟩:=qxk hE hs.hs (ro x) h;exact qQ.ofV hs.hs g1 g2
 | makeSlice t n m=>rw[hop] at h;exact qAB hE hs.hs (ro n) (ro m) h
 | makeFunc fn first caps=>
  rw[hop] at h;simp only at h ⊢;cases fn<;>simp only at h<;>try (cases h)
  rename_i f;have:Rep X (.fn f (first.toList.map (E.opd st.t)) (caps.toList.map (E.opd st.t))) (.func (.func f) (first.toList.map a.eval).toArray (caps.toList.map a.eval).toArray):=
   .fn f _ _ _ _ (q3Q hs _) (q3Q hs _)
  refine qQ.val hs.hs (v:=.func (.func f) (first.map a.eval) (caps.map a.eval)) rfl ?_;have e1:(first.toList.map a.eval).toArray=first.map a.eval:=by apply qNt;simp
  have e2:(caps.toList.map a.eval).toArray=caps.map a.eval:=by apply qNt;simp
  rwa [e1,e2] at this
 | slice t x lo hi mx=>
  rw[hop] at h;exact qwE hE hs.hs (ro x) (qw0 hs lo) (qw0 hs hi) (qw0 hs mx) h
 | fieldAddr s x f=>
  rw[hop] at h;obtain⟨av,u,rfl,g1,g2⟩:=qpo hE (ro x) h;exact qQ.ofV hs.hs g1 g2
 | field s x f=>
  rw[hop] at h;obtain⟨av,u,rfl,g1,g2⟩:=qxb hE (ro x) h;exact qQ.ofV hs.hs g1 g2
 | indexAddr t x i=>
  rw[hop] at h;obtain⟨av,u,rfl,g1,g2⟩:=qmS hE hs.hs (ro x) (ro i) h;exact qQ.ofV hs.hs g1 g2
 | index t x i=>
  rw[hop] at h;obtain⟨av,u,rfl,g1,g2⟩:=qx6 hE (ro x) (ro i) h;exact qQ.ofV hs.hs g1 g2
 | extract x i=>
  rw[hop] at h;simp only at h ⊢;have hx:=ro x;generalize E.opd st.t x=ax at *;generalize a.eval x=vx at *;cases hx<;>simp only at h<;>try (cases h)
  rename_i vs us hv;cases hi:vs[i]? with
  | none=>rw[hi] at h;cases h
  | some v=>
   rw[hi] at h;cases h;obtain⟨u,g1,g2⟩:=hv.get i v hi;refine qQ.ofV hs.hs (v:=u) ?_ g2;simp[Instr.extract,g1]
 | call c=>
  rw[hop] at h;obtain⟨callee,args,argTypes⟩:=c;cases callee with
  | value x=>simp only at h;cases h
  | invoke x n=>simp only at h;cases h
  | builtin b=>
   simp only at h ⊢;have hargs:=q3Q hs args.toList;have hrun:∀ty,(do let d <-resolve a.eval { callee:=.builtin b,args,argTypes } ty;invoke d.target d.args:Sem Next) =
     builtin b argTypes ty (args.map fun|.const _=>true|_=>false) (args.map a.eval):=by
    intro ty;rfl
   rw[hrun];have hA:args.map a.eval=(args.toList.map a.eval).toArray:=by apply qNt;simp
   rw[hA];generalize args.toList.map (E.opd st.t)=als at *;generalize args.toList.map a.eval=avs at *;exact qtM hE hs.hs hargs h _ _
 | _=>rw[hop] at h;simp only at h;cases h
end Go.Eng

namespace Go.Eng
variable {P:Program}{n:Nat}{w:World}
def q55(ro:Option Nat):Fence:={ Fence.wide with round:=ro }
theorem qga (ro:Option Nat):(q55 ro).depth.isSome=true->1<=n:=fun h=>by simp[q55,Fence.wide] at h
theorem qEo {ro:Option Nat}{f:FuncId}{args:Array Value}{R:Ending->World->Prop}:CallsIn (q55 ro) n P f args w R↔Calls P f args w R:=(callsIn_wide (n:=n))
theorem qLH {ro:Option Nat}{row:String}{args:Array Value}{R:Value->World->Prop}(h:Go.Rows P row args w R):RowsIn (q55 ro) n P row args w R:=by intro c cs _;obtain⟨v,w',h1,h2⟩:=h c cs;exact⟨v,w',h1,stepsIn_wide.2 h2⟩
theorem qrW (ro:Option Nat)(n:Nat){o:Oper}{a:Act}{next:Act->World->Prop}{Q:Exit->Act->World->Prop}(h:o.wp P a w next Q)(hd:∀c,o.op≠.defer c) :o.wpIn (q55 ro) n P a w next Q:=by
 refine⟨fun _ _=>trivial,?_⟩;rw[show (q55 ro).round=ro from rfl,Oper.semAt_eq _ _ _ hd];unfold Oper.wp at h;generalize (execOp a.eval o).run P w=r at h;cases r with
 | ok x w'=>
  cases x with
  | value v=>exact h
  | skip=>exact h
  | defer d=>exact h
  | enter f args=>exact⟨qga ro,qEo.2 h⟩
  | row row args=>exact⟨qga ro,qLH h⟩
  | round l f tmps assign body=>exact h.elim
  | _=>exact h
 | halt x w'=>cases x<;>exact h
end Go.Eng

namespace Go.Eng
variable {B:Base}{E:Env}{X:Ctx}{a:Act}{o:Oper}{st:St}{v:Value}
structure CallOK (E:Env) (P:Program) (callH:qaa) (B:Base):Prop where
 fn:∀(f:FuncId) (args:List AV) (st:St) (r:AV×St) (X:Ctx) (a:Act) (vargs:List Value),Sim E B X st a->RepL X args vargs->(callH (some f) args st).run=some r ->
  (∀w,(callFunc f vargs.toArray).run P w=.ok (.enter f vargs.toArray) w) /\
  Calls P f vargs.toArray X.w fun e w'=>∃v X',e=.returned v/\X'.w=w'/\Rep X' r.1 v/\Sim E B X' r.2 a
 yld:∀(args:List AV) (st:St) (r:AV×St) (X:Ctx) (a:Act) (vargs:List Value),Sim E B X st a->RepL X args vargs->(callH none args st).run=some r ->
  ∃(l:Nat) (f:FuncId) (tmps:Array Value) (assign body:Code),(Instr.yield X.y vargs.toArray).run P X.w=.ok (.round l f tmps assign body) X.w /\
  ∀n,RoundIn (q55 B.ro) n P l f tmps assign body X.w fun e w'=>∃v X',e=.returned v/\X'.w=w'/\Rep X' r.1 v/\Sim E B X' r.2 a
theorem qBv {t:List AV}(h:RepL X t a.tmps.toList){av:AV}(hv:Rep X av v)(dst:Option Tmp):RepL X (qlu t dst av) (a.put dst v).tmps.toList:=by
 cases dst with
 | none=>exact h
 | some d=>
  simp only[qlu,Act.put,Array.toList_setIfInBounds];exact RepL.set hv h d
theorem qvA (a:Act)(dst:Option Tmp)(v:Value):(a.put dst v).defers=a.defers:=by cases dst<;>rfl
theorem Sim.put (hs:Sim E B X st a){av:AV}(hv:Rep X av v)(dst:Option Tmp) :Sim E B X { st with t:=qlu st.t dst av } (a.put dst v):=⟨hs.hs,hs.h,qBv hs.t hv dst,hs.fs,hs.glob,by rw[qvA];exact hs.df,hs.ni,hs.y,hs.pin⟩
theorem Sim.ext {X X':Ctx}(hs:Sim E B X st a)(hx:Ext X X')(hs':HSim B X'):Sim E B X' { st with h:=X'.h } a:=⟨hs',rfl,hs.t.ext hx,hs.fs.ext hx,fun x hx'=>⟨(hs.glob x hx').1,(hs.glob x hx').2.move hx.M hx.w ((hs.glob x hx').2.1.ext hx)⟩,hx.kept▸hs.df,hs.ni,hx.y.trans hs.y,fun p hp=>hx.kept▸hs.pin p hp⟩
theorem Sim.apply {X X':Ctx}(hs:Sim E B X st a){r:Res}(hv:Rep X' r.1 v)(hs':HSim B X')(hm:match r.2.2 with|none=>X'.h=r.2.1/\Ext X X'|some b=>X'.h=r.2.1.map (Blk.ren (qep b))/\Move X X' (qep b)) (dst:Option Tmp) :Sim E B X' (st.apply dst r) (a.put dst v):=by
 unfold St.apply;cases hn:r.2.2 with
 | none=>
  rw[hn] at hm;obtain⟨h1,h2⟩:=hm;have:=(hs.ext h2 hs').put hv dst;rw[h1] at this;exact this
 | some b=>
  rw[hn] at hm;obtain⟨h1,h2⟩:=hm;refine⟨hs',h1,qBv (hs.t.ren h2.toMove0) hv dst,hs.fs.ren h2.toMove0,fun x hx=>?_,by rw[qvA];exact h2.kept▸hs.df,hs.ni,h2.y.trans hs.y,fun p hp=>h2.kept▸hs.pin p hp⟩;obtain⟨⟨sh,l,i,off,he⟩,hr⟩:=hs.glob x hx;refine⟨⟨sh,l,i,off,he⟩,hr.move h2.M h2.w ?_⟩;have:=hr.1.ren h2.toMove0;rw[he] at this ⊢;exact this
theorem qug {callH:qaa}{st s:St}(h:(qtq E callH o st).run=some s):∀c,o.op≠.defer c:=by intro c hc;unfold qtq at h;rw[hc] at h;simp[qrd,Tree.bind,Tree.run] at h
theorem qqm {P:Program}(hE:E.tok P){callH:qaa}(hc:CallOK E P callH B){st st':St}(hs:Sim E B X st a)(h:(qtq E callH o st).run=some st') {next:Act->World->Prop} {Q:Exit->Act->World->Prop} (hq:∀X' a',Sim E B X' st' a'->next a' X'.w) {n:Nat}:o.wpIn (q55 B.ro) n P a X.w next Q:=by
 have hnd:=qug h;have plain:∀(_:((qrd E st.h (E.opd st.t) o.op).bind fun r=>.leaf (st.apply o.dst r)).run=some st'),o.wp P a X.w next Q:=by
  intro hh;obtain⟨r,h1,h2⟩:=bind_some hh;cases h2;obtain⟨nx,v,X',g1,g2,g3,g4,g5⟩:=qno hE hs h1;unfold Oper.wp;rw[g1];rcases g2 with rfl|⟨rfl,rfl⟩
  ·exact hq X' _ (hs.apply g3 g4 g5 o.dst)
  ·exact hq X' _ (hs.apply g3 g4 g5 o.dst)
 unfold qtq at h;split at h
 ·rename_i x args tys hop;cases hx:E.opd st.t x with
  | fn f first caps=>
   rw[hx] at h;obtain⟨r,h1,h2⟩:=bind_some h;cases h2;have hv:=q9N hs x;rw[hx] at hv;generalize hev:a.eval x=vx at hv;cases hv with
   | fn _ _ _ vf vc q1 q2=>
    have hargs:=q3Q hs args.toList;have hall:RepL X (first++args.toList.map (E.opd st.t)++caps) (vf++args.toList.map a.eval++vc):=(q1.append hargs).append q2;obtain⟨g1,g2⟩:=hc.fn f _ st r X a _ hs hall h1;refine qrW B.ro n ?_ hnd;unfold Oper.wp;have hrun:(execOp a.eval o).run P X.w=.ok (.enter f (vf++args.toList.map a.eval++vc).toArray) X.w:=by
     simp only[execOp,hop,resolve,hev,Deferred.ofValue,qMj,qML,qMq,invoke];have:vf.toArray++args.map a.eval++vc.toArray=(vf++args.toList.map a.eval++vc).toArray:=by apply qNt;simp
     rw[this];exact g1 X.w
    rw[hrun];refine g2.mono fun e w' ⟨v,X',e1,e2,e3,e4⟩=>?_;subst e1 e2;exact hq X' _ (e4.put e3 o.dst)
  | yld=>
   rw[hx] at h;obtain⟨r,h1,h2⟩:=bind_some h;cases h2;have hv:=q9N hs x;rw[hx] at hv;generalize hev:a.eval x=vx at hv;cases hv;obtain⟨l,f,tmps,assign,body,g1,g2⟩:=hc.yld _ st r X a _ hs (q3Q hs args.toList) h1;refine⟨fun _ _=>trivial,?_⟩;rw[Oper.semAt_eq _ _ _ hnd];have hrun:(execOp a.eval o).run P X.w=.ok (.round l f tmps assign body) X.w:=by
    simp only[execOp,hop,resolve,hev,Deferred.ofValue,qMj,qML,qMq,invoke];have:#[]++args.map a.eval=(args.toList.map a.eval).toArray:=by apply qNt;simp
    rw[this];exact g1
   rw[hrun];refine⟨qga B.ro,(g2 (n-1)).mono fun e w' ⟨v,X',e1,e2,e3,e4⟩=>?_⟩;subst e1 e2;exact hq X' _ (e4.put e3 o.dst)
  | _=>rw[hx] at h;cases h
 ·exact qrW B.ro n (plain h) hnd
theorem Sim.lit (hs:Sim E B X st a){d:Nat}{b:Bool}(hd:st.t[d]?=some (.bool b)):Sim E B X { st with t:=st.t.set d (.blit b) } a:=by
 refine⟨hs.hs,hs.h,?_,hs.fs,hs.glob,hs.df,hs.ni,hs.y,hs.pin⟩;obtain⟨v,h1,h2⟩:=hs.t.get d _ hd;have hv:v=.bool b:=by cases h2;rfl
 subst hv;have:=RepL.set (X:=X) (a:=.blit b) (v:=.bool b) (.blit b) hs.t d;have e:a.tmps.toList.set d (.bool b)=a.tmps.toList:=by
  apply qN5;intro i;by_cases hi:i=d
  ·subst hi;rw[qMs (qq h1),h1]
  ·rw[qMh (qMI hi)]
 rwa [e] at this
theorem qtz {st st':St}(hs:Sim E B X st a){all:Array Oper}{k:Nat}(h:(quw all k o st).run=some st'):Sim E B X st' a:=by
 unfold quw at h;split at h
 ·split at h
  ·rename_i d _;split at h
   ·rename_i b hd;cases b
    ·cases h;exact hs.lit hd
    ·cases h;exact hs.lit hd
   ·cases h;exact hs
  ·cases h;exact hs
 ·cases h;exact hs
theorem qaD {t:List AV}(ht:RepL X t a.tmps.toList){all:Array Oper}{b:Bool}(h:q5V all o t=some b):Region.wanted o (yielded all a.tmps)=b:=by
 unfold q5V at h;unfold Region.wanted;cases hg:o.guard with
 | none=>rw[hg] at h;cases h;rfl
 | some p=>
  obtain⟨j,want⟩:=p;rw[hg] at h;simp only at h ⊢;cases hj:(all[j]?).bind (·.dst) with
  | none=>rw[hj] at h;cases h
  | some d=>
   rw[hj] at h;simp only at h;unfold yielded;rw[hj,qMG];split at h
   ·rename_i c hd;cases h;obtain⟨v,h1,h2⟩:=ht.get d _ hd;have h1':a.tmps[d]?=some v:=by simpa using h1
    cases h2;rw[h1'];cases c<;>cases want<;>rfl
   ·rename_i hd;cases h;obtain⟨v,h1,h2⟩:=ht.get d _ hd;have h1':a.tmps[d]?=some v:=by simpa using h1
    cases h2;rw[h1'];rfl
   ·cases h
theorem qlG{E:Env}{P:Program}(hE:E.tok P){callH:qaa}{B:Base}(hc:CallOK E P callH B){all:Array Oper}{st':St}{Q:Exit->Act->World->Prop}{n:Nat}
  (hq:∀X' a',Sim E B X' st' a'->Q .normal a' X'.w):∀(l:List Oper) (k:Nat) {X:Ctx} {st:St} {a:Act},Sim E B X st a->(qmb E callH all k l st).run=some st'->wpListIn (q55 B.ro) n P all Q l a X.w
 | [],k,X,st,a,hs,h=>by
  simp only[qmb,Tree.run,qMe] at h;subst h;exact hq X a hs
 | o::rest,k,X,st,a,hs,h=>by
  simp only[qmb] at h;simp only[wpListIn];cases hw:q5V all o st.t with
  | none=>rw[hw] at h;cases h
  | some b=>
   rw[hw] at h;rw[qaD hs.t hw];cases b with
   | true=>
    simp only[if_true];obtain⟨s1,h1,h2⟩:=bind_some h;obtain⟨s2,h3,h4⟩:=bind_some h2;refine qqm hE hc hs h1 fun X' a' hs'=>?_;exact qlG hE hc hq rest (k+1) (qtz hs' h3) h4
   | false=>
    simp only[qMR,if_false];exact⟨fun _ _=>trivial,qlG hE hc hq rest (k+1) (hs.put (av:=.skip) .skip o.dst) h⟩
theorem qtR {P:Program}(hE:E.tok P){callH:qaa}(hc:CallOK E P callH B){id:Nat}{ops:Array Oper}{st st':St}(hs:Sim E B X st a)(h:(qmb E callH ops 0 ops.toList st).run=some st') {Q:Exit->Act->World->Prop} {n:Nat} (hq:∀X' a',Sim E B X' st' a'->Q .normal a' X'.w):(Code.region id ops false).wpIn (q55 B.ro) n P Q a X.w:=wpIn_region_list (qlG hE hc hq ops.toList 0 hs h)
end Go.Eng

namespace Go.Eng
variable {B:Base}{X:Ctx}
structure Entry (B:Base) (X:Ctx):Prop where
 w0:B.w0=X.w
 imps:B.imps=(List.range X.h.length).map X.σ
 M0:∀n,X.M n->B.M0 n
def qdr(P:Program)(f:FuncId):Prop:=∀(args:Array Value) (w:World),(callFunc f args).run P w=.ok (.enter f args) w
def qI(P:Program)(gl:List (Nat×AV))(f:FuncId)(G:zj):Prop:=
 qdr P f/\∀(B:Base) (X:Ctx) (args:List AV) (vargs:List Value) (r:AV×List Blk),HSim B X->Entry B X->q4q gl X->RepL X args vargs->(G args X.h).run=some r ->
  Calls P f vargs.toArray X.w fun e w'=>∃v X',e=.returned v/\X'.w=w'/\Rep X' r.1 v/\X'.h=r.2/\HSim B X'/\X'.y=X.y
mutual
theorem qBj{B:Base}{X:Ctx}(hs:HSim B X):∀{av:AV} {v:Value},Rep X av v->Rep X (av.lend X.h) v
 | .vec b,v,h=>by
  unfold AV.lend;split
  ·rename_i e sh l hb;exact .imm _ _ _ (qkf hs hb h)
  ·exact .undef v
 | .agg cs,_,.agg _ vs h=>.agg _ vs (qfL hs h)
 | .tuple cs,_,.tuple _ vs h=>.tuple _ vs (qfL hs h)
 | .undef,_,h|.skip,_,h|.yld,_,h|.blit _,_,h|.bool _,_,h|.ilit _ _,_,h|.int _ _,_,h|.str _,_,h|.nilp,_,h|.ptr _ _,_,h|.eptr _ _ _ _,_,h|.mptr _ _ _ _ _,_,h|.vptr _ _ _,_,h|.vsub _ _,_,h|.aptr _ _ _,_,h|.asub _ _ _ _ _,_,h|.bagg _ _ _ _,_,h
 | .nils,_,h|.imm _ _,_,h|.full _ _,_,h|.nilf,_,h|.fn _ _ _,_,h=>h
theorem qfL{B:Base}{X:Ctx}(hs:HSim B X):∀{azz:List AV} {vs:List Value},RepL X azz vs->RepL X (AV.lendL X.h azz) vs
 | _,_,.nil=>.nil
 | _,_,.cons h t=>.cons (qBj hs h) (qfL hs t)
end
def Wk(X:Ctx)(k k':Blk):Prop:=k'=.dead\/k'=k\/(∃cs cs',k=.cells cs/\k'=.cells cs'/\∀vs,RepL X cs vs->RepL X cs' vs)\/∃cs cs' kk n l,k=.big cs kk n l/\k'=.big cs' kk n l/\∀vs,RepL X cs vs->RepL X cs' vs
theorem qbL (hs:HSim B X){h':List Blk}(hl:h'.length=X.h.length)(hw:∀(b:Nat) (k':Blk),h'[b]?=some k'->∃k0,X.h[b]?=some k0/\Wk X k0 k')(hc:∀b:Nat,b<B.imps.length->∀k':Blk,h'[b]?=some k'->k'.solid=true):HSim B { X with h:=h' }/\Ext X { X with h:=h' }:=by
 have hvec:∀b sh m,({ X with h:=h' }:Ctx).isVec b sh m->X.isVec b sh m:=by
  intro b sh m ⟨e,l,h1,h2⟩;refine⟨e,l,?_,h2⟩;rcases h1 with h1|h1
  ·obtain⟨k0,h3,h4⟩:=hw b _ h1;rcases h4 with h4|h4|⟨_,_,_,h4,_⟩|⟨_,_,_,_,_,_,h4,_⟩
   ·cases h4
   ·exact .inl (h4▸h3)
   ·cases h4
   ·cases h4
  ·obtain⟨k0,h3,h4⟩:=hw b _ h1;rcases h4 with h4|h4|⟨_,_,_,h4,_⟩|⟨_,_,_,_,_,_,h4,_⟩
   ·cases h4
   ·exact .inr (h4▸h3)
   ·cases h4
   ·cases h4
 have hx:Ext X { X with h:=h' }:=by refine Move.of (fun _ h=>h) (fun _ _=>rfl) (fun b b' hb hf=>?_);cases hf;exact⟨by show b<h'.length;omega,rfl,hvec b,fun sh m _ k hk c T fr hc=>⟨c,T,fr,hc,rfl⟩⟩
 have hown:∀b m,({ X with h:=h' }:Ctx).own b m->X.own b m:=by
  intro b m ⟨h1,k,h2,h3⟩;obtain⟨k0,h4,h5⟩:=hw b k h2;refine⟨h1,k0,h4,?_⟩;rcases h5 with h5|h5|⟨_,_,h5,_,_⟩|⟨_,_,_,_,_,h5,_,_⟩
  ·subst h5;cases h3
  ·exact h5▸h3
  ·subst h5;rfl
  ·subst h5;rfl
 refine⟨⟨?_,fun b b' m h h'=>hs.inj b b' m (hown _ _ h) (hown _ _ h'),fun b m h=>hs.notM b m (hown _ _ h),hs.ltM,hs.M0,hs.newM,hs.os,hs.tape,hs.output,hs.size,hs.frame,hs.imps,?_,fun b m h=>hs.fresh b m (hown _ _ h),hs.kept⟩,hx⟩
 ·intro b k hk;obtain⟨k0,h1,h2⟩:=hw b k hk;have h3:=hs.blk b k0 h1;rcases h2 with h2|h2|⟨cs,cs',h2,h4,h5⟩|⟨cs,cs',kk,N,l,h2,h4,h5⟩
  ·subst h2;trivial
  ·subst h2;exact jn.ext hx rfl (fun _ _=>rfl) h3
  ·subst h2 h4;obtain⟨m,c,T,e1,e2,e3⟩:=h3;exact⟨m,c,T,e1,e2,(h5 _ e3).ext hx⟩
  ·subst h2 h4;obtain⟨m,c,T,vs,e1,e2,e3,e4,e5⟩:=h3;exact⟨m,c,T,vs,e1,e2,(h5 _ e3).ext hx,e4,e5⟩
 ·intro b hb;have hlt:b<h'.length:=by have:=hs.hlen;omega
  exact⟨_,qMl hlt,hc b hb _ (qMl hlt)⟩
theorem Frozen.trans {X Y Z:Ctx}{h h':List Blk}(f:Frozen B X Y h)(g:Frozen B Y Z h'):Frozen B X Z h':=⟨g.h,g.w.trans f.w,g.σ.trans f.σ,g.hs,Move.trans f.ext g.ext⟩
theorem qmB{B:Base}:∀(l:List Nat) {X:Ctx} (_:HSim B X),∃X',Frozen B X X' (qdq X.h l)
 | [],X,hs=>⟨X,rfl,rfl,rfl,hs,Ext.refl X⟩
 | b::l,X,hs=>by
  simp only[qdq];split
  ·rename_i cs hb;obtain⟨d1,d2⟩:=qbL hs (h':=X.h.set b (.cells (AV.lendL X.h cs))) (by simp) (fun b' k' hk=>by
    by_cases hbb:b'=b
    ·subst hbb;rw[qMs (qq hb)] at hk;exact⟨.cells cs,hb,.inr (.inr (.inl ⟨cs,_,rfl,(qMZ hk).symm,fun vs hv=>qfL hs hv⟩))⟩
    ·rw[qMh (qMI hbb)] at hk;exact⟨k',hk,.inr (.inl rfl)⟩) (fun b' hb' k' hk=>by
    by_cases hbb:b'=b
    ·subst hbb;rw[qMs (qq hb)] at hk;rw[<-qMZ hk];rfl
    ·rw[qMh (qMI hbb)] at hk;obtain⟨cs',h1,h2⟩:=hs.impc b' hb';rw[h1] at hk;rw[<-qMZ hk];exact h2)
   obtain⟨X2,f⟩:=qmB l d1;have f0:Frozen B X { X with h:=X.h.set b (.cells (AV.lendL X.h cs)) } (X.h.set b (.cells (AV.lendL X.h cs))):=⟨rfl,rfl,rfl,d1,d2⟩;exact⟨X2,f0.trans f⟩
  ·exact qmB l hs
theorem qwX (args:List AV)(hs:HSim B X):∃X',Frozen B X X' (vj X.h args):=by unfold vj;obtain⟨X1,f1⟩:=q5D (args.flatMap zY) hs;simp only;rw[<-f1.h];obtain⟨X2,f2⟩:=q5D (q8W X1.h (AV.menL (AV.lendL X1.h args))) f1.hs;rw[<-f2.h];obtain⟨X3,f3⟩:=qmB (AV.menL (AV.lendL X1.h args)) f2.hs;exact⟨X3,(f1.trans f2).trans f3⟩
mutual
theorem AV.ren_of_men(f:Nat->Option Nat):∀av:AV,av.men=[]->av.ren f=av
 | .undef,_|.skip,_|.yld,_|.blit _,_|.bool _,_|.ilit _ _,_|.int _ _,_|.str _,_|.nilp,_|.eptr _ _ _ _,_|.mptr _ _ _ _ _,_|.nils,_|.imm _ _,_|.full _ _,_|.nilf,_=>rfl
 | .ptr _ _,h=>by simp[AV.men] at h
 | .vptr _ _ _,h=>by simp[AV.men] at h
 | .vsub _ _,h=>by simp[AV.men] at h
 | .aptr _ _ _,h=>by simp[AV.men] at h
 | .asub _ _ _ _ _,h=>by simp[AV.men] at h
 | .bagg cs k n l,h=>by simp only[AV.men] at h;simp only[AV.ren,AV.renL_of_men f cs h]
 | .vec _,h=>by simp[AV.men] at h
 | .fn g a b,h=>by
  simp only[AV.men,List.append_eq_nil_iff] at h;simp only[AV.ren,AV.renL_of_men f a h.1,AV.renL_of_men f b h.2]
 | .agg cs,h=>by simp only[AV.men] at h;simp only[AV.ren,AV.renL_of_men f cs h]
 | .tuple cs,h=>by simp only[AV.men] at h;simp only[AV.ren,AV.renL_of_men f cs h]
theorem AV.renL_of_men(f:Nat->Option Nat):∀l:List AV,AV.menL l=[]->AV.renL f l=l
 | [],_=>rfl
 | a::l,h=>by
  simp only[AV.menL,List.append_eq_nil_iff] at h;simp only[AV.renL,AV.ren_of_men f a h.1,AV.renL_of_men f l h.2]
end
theorem RepL.noMen {X X':Ctx}{azz:List AV}{vs:List Value}(h:RepL X azz vs)(hm:AV.menL azz=[])(hM:∀n,X.M n->X'.M n)(hw:∀a:Addr,X.M a.block->X'.w.cell? a=X.w.cell? a)(hy:X'.y=X.y:=by rfl):RepL X' azz vs:=by
 have:=h.ren (X':=X') (f:=fun _=>none) ⟨hM,hw,(fun _ _ _ h=>by cases h),hy⟩
 rwa [AV.renL_of_men _ _ hm] at this
theorem Rep.noMen {X X':Ctx}{a:AV}{v:Value}(h:Rep X a v)(hm:a.men=[])(hM:∀n,X.M n->X'.M n)(hw:∀a:Addr,X.M a.block->X'.w.cell? a=X.w.cell? a)(hy:X'.y=X.y:=by rfl):Rep X' a v:=by
 have:=h.ren (X':=X') (f:=fun _=>none) ⟨hM,hw,(fun _ _ _ h=>by cases h),hy⟩
 rwa [AV.ren_of_men _ _ hm] at this
theorem qm0:∀l:List Nat,(qmj l).Nodup
 | []=>List.nodup_nil
 | a::l=>by
  simp only[qmj];split
  ·exact qm0 l
  ·rename_i h;exact List.nodup_cons.2 ⟨by simpa using h,qm0 l⟩
theorem qD7 {l:List Nat}{b k:Nat}(h:qFH l b=some k):l[k]?=some b:=by
 simp only[qFH] at h;split at h
 ·rename_i hlt;cases h;rw[qMl hlt];have:=List.findIdx_getElem (p:=(·==b)) (w:=hlt);simpa using this
 ·cases h
theorem qoj:∀{fp:List Nat} {h:List Blk} {hin:List Blk},q6x h fp=some hin->hin.length=fp.length /\
  ∀(k:Nat) (b:Nat),fp[k]?=some b->∃cs,h[b]?=some cs/\hin[k]?=some cs/\cs.plain=true
 | [],h,hin,e=>by simp[q6x] at e;subst e;exact⟨rfl,fun k b hk=>by simp at hk⟩
 | b::l,h,hin,e=>by
  simp only[q6x] at e;split at e
  ·rename_i cs r h1 h2;split at e
   ·rename_i hm;cases e;obtain⟨g1,g2⟩:=qoj h2;refine⟨by simp[g1],fun k b' hk=>?_⟩;cases k with
    | zero=>simp at hk;subst hk;exact⟨cs,h1,by simp,hm⟩
    | succ k=>
     obtain⟨cs',q1,q2,q3⟩:=g2 k b' (by simpa using hk);exact⟨cs',q1,by simpa using q2,q3⟩
   ·cases e
  ·cases e
theorem qpT:∀{fp:List Nat} {h hout h2:List Blk},q0S h fp hout=some h2->fp.Nodup->(∀b∈fp,b<h.length)->h2.length=h.length/\fp.length<=hout.length /\
  (∀b,b∉fp->h2[b]?=h[b]?)/\∀(k:Nat) (b:Nat),fp[k]?=some b->∃cs,hout[k]?=some cs/\h2[b]?=some cs/\cs.plain=true
 | [],h,hout,h2,e,_,_=>by
  simp[q0S] at e;subst e;exact⟨rfl,by simp,fun _ _=>rfl,fun k b hk=>by simp at hk⟩
 | b::l,h,hout,h2,e,hn,hl=>by
  cases hout with
  | nil=>simp[q0S] at e
  | cons cs r=>
    simp only[q0S] at e;by_cases hm:cs.plain=true
    ·rw[if_pos hm] at e;cases hp:q0S h l r with
     | none=>rw[hp] at e;cases e
     | some h'=>
      rw[hp] at e;simp only[qMO,qMe] at e;subst e;obtain⟨hn1,hn2⟩:=List.nodup_cons.1 hn;obtain⟨g1,g2,g3,g4⟩:=qpT hp hn2 (fun x hx=>hl x (qMF _ hx));have hb:=hl b qMB;refine⟨by simp[g1],by simp;omega,fun x hx=>?_,fun k b' hk=>?_⟩
      ·have:x≠b:=fun e=>hx (e▸qMB);rw[qMh (qMI this)];exact g3 x fun h=>hx (qMF _ h)
      ·cases k with
       | zero=>simp at hk;subst hk;exact⟨cs,by simp,by rw[qMs (by omega)],hm⟩
       | succ k=>
        have hk':l[k]?=some b':=by simpa using hk
        obtain⟨cs',q1,q2,q3⟩:=g4 k b' hk';have:b'≠b:=fun e=>hn1 (e▸qN2 hk');exact⟨cs',by simpa using q1,by rw[qMh (qMI this)];exact q2,q3⟩
    ·rw[if_neg hm] at e;cases e
theorem qCy {b:Nat}{k:Blk}(hp:k.plain=true)(h:jn X b k):∃n,X.σ b=some n:=by
 cases k with
 | cells cs=>obtain⟨n,_,_,e,_⟩:=h;exact⟨n,e⟩
 | big cs k N l=>obtain⟨n,_,_,_,e,_⟩:=h;exact⟨n,e⟩
 | _=>cases hp
theorem quO {X X':Ctx}{b b':Nat}{k:Blk}(hp:k.plain=true)(h:jn X b k)(hσ:X'.σ b'=X.σ b)(hw:∀n,X.σ b=some n->X'.w.heap[n]?=X.w.heap[n]?)(hM:∀n,X.M n->X'.M n) (hc:∀a:Addr,X.M a.block->X'.w.cell? a=X.w.cell? a) (hy:X'.y=X.y):jn X' b' k:=by
 cases k with
 | cells cs=>
  obtain⟨n,c,T,e1,e2,e3⟩:=h;exact⟨n,c,T,by rw[hσ];exact e1,by rw[hw n e1];exact e2,e3.noMen (by simpa[Blk.plain] using hp) hM hc hy⟩
 | big cs k N l=>
  obtain⟨n,c,T,vs,e1,e2,e3,e4,e5⟩:=h;exact⟨n,c,T,vs,by rw[hσ];exact e1,by rw[hw n e1];exact e2,e3.noMen (by simpa[Blk.plain] using hp) hM hc hy,e4,e5⟩
 | _=>cases hp
theorem qmk {k:Blk}(hp:k.plain=true):k.solid=true/\k.mut=true/\(∀e sh l,k≠.vec e sh l/\k≠.frz e sh l):=by cases k<;>first|(cases hp;done)|exact⟨rfl,rfl,fun _ _ _=>⟨(nomatch ·),(nomatch ·)⟩⟩
theorem q8D {E:Env}{P:Program}{f:FuncId}{G:zj}(hG:qI P E.glob f G){args:List AV}{st:St}{r:AV×St}{a:Act}{vargs:List Value}(hsim:Sim E B X st a) (hargs:RepL X args vargs) (h:(q0J G args st).run=some r) :Calls P f vargs.toArray X.w fun e w'=>∃v X',e=.returned v/\X'.w=w'/\Rep X' r.1 v/\Sim E B X' r.2 a:=by
 unfold q0J at h;obtain⟨X1,fz⟩:=qwX args hsim.hs;rw[<-hsim.h] at h;rw[<-fz.h] at h;simp only at h;have hs1:=fz.hs;generalize hfp:qmj (AV.menL (AV.lendL X1.h args))=fp at h;have hnd:fp.Nodup:=hfp▸qm0 _;cases htk:q6x X1.h fp with
 | none=>rw[htk] at h;cases h
 | some hin=>
  rw[htk] at h;obtain⟨r0,h1,h2⟩:=bind_some h;cases hput:q0S X1.h fp r0.2 with
  | none=>rw[hput] at h2;cases h2
  | some hh2=>
   rw[hput] at h2;cases h2;obtain⟨k1,k2⟩:=qoj htk;have hfpl:∀b∈fp,b<X1.h.length:=by intro b hb;obtain⟨k,hk⟩:=qOt hb;obtain⟨cs,q1,_⟩:=k2 k b hk;exact qq q1
   obtain⟨p1,p2,p3,p4⟩:=qpT hput hnd hfpl;have hcell:∀(k b:Nat),fp[k]?=some b->∃cs n,X1.h[b]?=some cs/\hin[k]?=some cs/\cs.plain=true/\X1.σ b=some n/\X1.own b n:=by intro k b hk;obtain⟨cs,q1,q2,q3⟩:=k2 k b hk;obtain⟨n,e1⟩:=qCy q3 (hs1.blk b _ q1);exact⟨cs,n,q1,q2,q3,e1,e1,_,q1,(qmk q3).2.1⟩
   let X0:Ctx:={ σ:=fun k=>(fp[k]?).bind X1.σ,h:=hin,w:=X1.w,M:=X1.M,y:=X1.y }
   let B0:Base:={ w0:=X1.w,imps:=(List.range hin.length).map X0.σ,M0:=X1.M,fs:=[] }
   have hget0:∀(k:Nat) (blk:Blk),X0.h[k]?=some blk->∃(b:Nat) (cs:Blk) (n:Nat),fp[k]?=some b/\blk=cs/\X1.h[b]?=some cs/\cs.plain=true/\X1.σ b=some n/\X1.own b n:=by
    intro k blk hk;have hlt:k<fp.length:=by rw[<-k1];exact qq hk
    have hfk:fp[k]?=some fp[k]:=qMl hlt;obtain⟨cs,n,q1,q2,q3,q4,q5⟩:=hcell k _ hfk;have:blk=cs:=by have hk':hin[k]?=some blk:=hk;rw[q2] at hk';exact(qMZ hk').symm
    exact⟨fp[k],cs,n,hfk,this,q1,q3,q4,q5⟩
   have hσ0:∀(k b:Nat),fp[k]?=some b->X0.σ k=X1.σ b:=by intro k b hk;show (fp[k]?).bind X1.σ=_;rw[hk];rfl
   have hown0:∀(k n:Nat),X0.own k n->∃b:Nat,fp[k]?=some b/\X1.own b n:=by intro k n ⟨e1,blk,e2,e3⟩;obtain⟨b,cs,n',q1,q2,q3,q4,q5,q6⟩:=hget0 k blk e2;rw[hσ0 k b q1,q5] at e1;cases e1;exact⟨b,q1,q6⟩
   have hs0:HSim B0 X0:=by
    constructor
    ·intro k blk hk;obtain⟨b,cs,n,q1,q2,q3,q4,q5,q6⟩:=hget0 k blk hk;subst q2;exact quO q4 (hs1.blk b _ q3) (hσ0 k b q1) (fun _ _=>rfl) (fun _ h=>h) (fun _ _=>rfl) rfl
    ·intro k k' n hk hk';obtain⟨b,q1,q2⟩:=hown0 k n hk;obtain⟨b',q3,q4⟩:=hown0 k' n hk';have:=hs1.inj b b' n q2 q4;subst this;have hlt:=qq q1;exact(List.getElem?_inj hlt hnd).1 (q1.trans q3.symm)
    ·intro k n hk;obtain⟨b,_,q2⟩:=hown0 k n hk;exact hs1.notM b n q2
    ·exact hs1.ltM
    ·exact fun n hn=>hn
    ·exact fun n hn=>.inl hn
    ·rfl
    ·rfl
    ·rfl
    ·exact qMg _
    ·intro _ _ _;rfl
    ·intro k hk;have hk':k<hin.length:=by simpa[B0] using hk
     simp[B0,hk']
    ·intro k hk;have hk':k<hin.length:=by simpa[B0] using hk
     obtain⟨b,cs,n,q1,q2,q3,q4,q5,q6⟩:=hget0 k _ (qMl hk');exact⟨cs,by rw[<-q2];exact qMl hk',(qmk q4).1⟩
    ·intro k n hk hk2;obtain⟨b,q1,_⟩:=hown0 k n hk;have:k<hin.length:=by rw[k1];exact qq q1
     simp[B0] at hk2;omega
    ·intro p hp;cases hp
   have hent:Entry B0 X0:=⟨rfl,rfl,fun _ h=>h⟩;have hgl:q4q E.glob X0:=by intro x hx;obtain⟨⟨sh,l,i,off,he⟩,hr⟩:=hsim.glob x hx;refine⟨⟨sh,l,i,off,he⟩,hr.move fz.ext.M fz.ext.w ?_⟩;have h3:=hr.1.ext fz.ext;rw[he] at h3 ⊢;exact h3.noMen rfl (fun _ h=>h) (fun _ _=>rfl)
   have hmove:Move0 X1 X0 (qFH fp):=by
    refine⟨fun _ h=>h,fun _ _=>rfl,fun b k hb hk=>?_,rfl⟩;have hfk:=qD7 hk;have hnv:∀sh m,¬X0.isVec k sh m:=by intro sh m ⟨e,l,q1,_⟩;rcases q1 with q1|q1<;>obtain⟨_,_,_,_,q2,_,q4,_⟩:=hget0 k _ q1<;>subst q2<;>cases q4
    exact⟨by show k<hin.length;rw[k1];exact qq hfk,hσ0 k b hfk,fun sh m hv=>absurd hv (hnv sh m),fun sh m hv=>absurd hv (hnv sh m)⟩
   have hrep0:RepL X0 (AV.renL (qFH fp) (AV.lendL X1.h args)) vargs:=(qfL hs1 (hargs.ext fz.ext)).ren hmove;have hcalls:=hG.2 B0 X0 _ vargs r0 hs0 hent hgl hrep0 h1;have hw1:X0.w=X.w:=fz.w;rw[hw1] at hcalls;refine hcalls.mono fun e w' ⟨v,X0',e1,e2,e3,e4,e5,e6⟩=>?_;have hB0:B0.imps.length=fp.length:=by simp[B0,k1]
   have hσ0':∀(k b:Nat),fp[k]?=some b->X0'.σ k=X1.σ b:=by
    intro k b hk;have hlt:=qq hk;have:=e5.imps k (by rw[hB0];exact hlt);rw[this,<-hσ0 k b hk];have hk':k<hin.length:=by omega
    simp[B0,hk']
   let X':Ctx:={ σ:=fun b=>if b<X1.h.length then X1.σ b else X0'.σ (fp.length+(b-X1.h.length)),h:=hh2++(r0.2.drop fp.length).map (Blk.ren (qpX fp X1.h.length)),w:=X0'.w,M:=X0'.M,kept:=X1.kept,y:=X1.y }
   have hM01:∀n,X1.M n->X0'.M n:=fun n hn=>e5.M0 n hn;have himp:∀n,some n∈B0.imps->∃(k b:Nat),fp[k]?=some b/\X1.own b n:=by
    intro n hn;obtain⟨k,hk,hk2⟩:=qN3.1 hn;have hk':k<fp.length:=by rw[<-k1];simpa using hk
    have hfk:fp[k]?=some fp[k]:=qMl hk';obtain⟨cs,n',q1,q2,q3,q4,q5⟩:=hcell k _ hfk;rw[hσ0 k _ hfk,q4] at hk2;cases hk2;exact⟨k,_,hfk,q5⟩
   have hkeep:∀n,n<X1.w.heap.size->(∀(k b:Nat),fp[k]?=some b->¬X1.own b n)->X0'.w.heap[n]?=X1.w.heap[n]?:=by intro n hn hno;refine e5.frame n hn fun hm=>?_;obtain⟨k,b,q1,q2⟩:=himp n hm;exact hno k b q1 q2
   have hh2l:hh2.length=X1.h.length:=p1;have hget':∀(b:Nat) (blk:Blk),X'.h[b]?=some blk ->
     (b<X1.h.length/\b∉fp/\X1.h[b]?=some blk)\/(b<X1.h.length/\∃(k:Nat) (cs:Blk),fp[k]?=some b/\blk=cs/\X0'.h[k]?=some cs/\cs.plain=true) \/
     (X1.h.length<=b/\∃k0,X0'.h[fp.length+(b-X1.h.length)]?=some k0/\blk=k0.ren (qpX fp X1.h.length)):=by
    intro b blk hb;have hb':(hh2++(r0.2.drop fp.length).map (Blk.ren (qpX fp X1.h.length)))[b]?=some blk:=hb;rcases qMn b X1.h.length with hlt|hge
    ·rw[qMr (by omega)] at hb';by_cases hbf:b∈fp
     ·obtain⟨k,hk⟩:=qOt hbf;obtain⟨cs,q1,q2,q3⟩:=p4 k b hk;rw[q2] at hb';cases hb';exact .inr (.inl ⟨hlt,k,blk,hk,rfl,by rw[e4];exact q1,q3⟩)
     ·rw[p3 b hbf] at hb';exact .inl ⟨hlt,hbf,hb'⟩
    ·rw[qMv (by omega),qMo,qNi] at hb';refine .inr (.inr ⟨hge,?_⟩);rw[hh2l] at hb';cases hq:r0.2[fp.length+(b-X1.h.length)]? with
     | none=>rw[hq] at hb';cases hb'
     | some k0=>
      rw[hq] at hb';simp only[qMO,qMe] at hb';exact⟨k0,by rw[e4];exact hq,hb'.symm⟩
   have hσlt:∀b,b<X1.h.length->X'.σ b=X1.σ b:=fun b hb=>by show (if b<X1.h.length then _ else _)=_;rw[if_pos hb]
   have hσge:∀b,X1.h.length<=b->X'.σ b=X0'.σ (fp.length+(b-X1.h.length)):=fun b hb=>by show (if b<X1.h.length then _ else _)=_;rw[if_neg (by omega)]
   have hnotin:∀b n,b∉fp->X1.own b n->∀(k b':Nat),fp[k]?=some b'->¬X1.own b' n:=by intro b n hb ho k b' hk ho';exact hb (hs1.inj b b' n ho ho'▸qN2 hk)
   have hMnot:∀n,X1.M n->∀(k b':Nat),fp[k]?=some b'->¬X1.own b' n:=fun n hn k b' _ ho=>hs1.notM b' n ho hn;have hsz:=e5.size;have hback:Move0 X0' X' (qpX fp X1.h.length):=by
    refine⟨fun _ h=>h,fun _ _=>rfl,fun k b hk hf=>?_,e6.symm⟩;simp only[qpX] at hf;by_cases hlt:k<fp.length
    ·rw[if_pos hlt] at hf;have hbl:=hfpl b (qN2 hf);have hnv:∀sh m,¬X'.isVec b sh m:=by
      intro sh m ⟨e,l,q1,_⟩;rcases q1 with q1|q1<;>rcases hget' b _ q1 with⟨_,h3,_⟩|⟨_,_,_,_,h3,_,h3p⟩|⟨h3,_⟩ <;>
       first|omega|exact absurd (qN2 hf) h3|(subst h3;cases h3p)
     exact⟨by show b<List.length (_++_);simp;omega,by rw[hσlt b hbl,hσ0' k b hf],fun sh m hv=>absurd hv (hnv sh m),fun sh m hv=>absurd hv (hnv sh m)⟩
    ·rw[if_neg hlt] at hf;cases hf;have hk2:k<r0.2.length:=by rw[<-e4];exact hk
     have hidx:fp.length+(X1.h.length+(k-fp.length)-X1.h.length)=k:=by omega
     refine⟨?_,?_,fun sh m ⟨e,l,q1,q2⟩=>?_,fun sh m _ n hn c T fr hc=>⟨c,T,fr,hc,rfl⟩⟩
     ·show _<List.length (_++_);simp;omega
     ·rw[hσge _ (by omega),hidx]
     ·rcases q1 with q1|q1<;>rcases hget' _ _ q1 with⟨h3,_⟩|⟨h3,_⟩|⟨_,k0,h3,h4⟩<;>first|omega|skip
      ·rw[hidx] at h3;rcases qpn (.inl h4) with rfl|rfl
       ·exact⟨e,l,.inl h3,q2⟩
       ·exact⟨e,l,.inr h3,q2⟩
      ·rw[hidx] at h3;rcases qpn (.inr h4) with rfl|rfl
       ·exact⟨e,l,.inl h3,q2⟩
       ·exact⟨e,l,.inr h3,q2⟩
   have hext:Ext X1 X':=by
    refine Move.of hM01 (fun ad had=>qNg (hkeep _ (hs1.ltM _ had) (hMnot _ had))) (fun b b' hb hf=>?_);cases hf;have hvec:∀sh m,X'.isVec b sh m->b∉fp/\X1.isVec b sh m:=by
     intro sh m ⟨e,l,q1,q2⟩;rcases q1 with q1|q1<;>rcases hget' b _ q1 with⟨_,h3,h4⟩|⟨_,_,_,_,h3,_,h3p⟩|⟨h3,_⟩<;>first|omega|(subst h3;cases h3p;done)|skip
     ·exact⟨h3,e,l,.inl h4,q2⟩
     ·exact⟨h3,e,l,.inr h4,q2⟩
    refine⟨by show _<List.length (_++_);simp;omega,hσlt b hb,fun sh m hv=>(hvec sh m hv).2,fun sh m hv n hn c T fr hc=>⟨c,T,fr,?_,rfl⟩⟩;obtain⟨h3,e,l,h4,_⟩:=hvec sh m hv;refine(hkeep n (qMk.1 hc).1 ?_).trans hc;rcases h4 with h4|h4
    ·exact hnotin b n h3 ⟨hn,_,h4,rfl⟩
    ·rcases hs1.blk b _ h4 with⟨h5,_⟩|⟨n',c',h5,_,_,h6⟩
     ·rw[hn] at h5;cases h5
     ·rw[hn] at h5;cases h5;exact hMnot n h6
   have hown':∀(b n:Nat),X'.own b n->(b<X1.h.length/\X1.own b n)\/(X1.h.length<=b/\X0'.own (fp.length+(b-X1.h.length)) n):=by
    intro b n ⟨q1,blk,q2,q3⟩;rcases hget' b blk q2 with⟨h3,_,h4⟩|⟨h3,k,cs,h4,h5,_,_⟩|⟨h3,k0,h4,h5⟩
    ·exact .inl ⟨h3,by rw[<-hσlt b h3];exact q1,blk,h4,q3⟩
    ·obtain⟨cs',n',w1,_,_,w4,w5⟩:=hcell k b h4;rw[hσlt b h3,w4] at q1;cases q1;exact .inl ⟨h3,w5⟩
    ·subst h5;exact .inr ⟨h3,by rw[<-hσge b h3];exact q1,k0,h4,by rwa [Blk.mut_ren] at q3⟩
   have hnewge:∀k n,fp.length<=k->X0'.own k n->X1.w.heap.size<=n:=fun k n hk ho=>e5.fresh k n ho (by rw[hB0];exact hk);have hs':HSim B X':=by
    constructor
    ·intro b blk hb;rcases hget' b blk hb with⟨h3,h4,h5⟩|⟨h3,k,cs,h4,h5,h6,h7⟩|⟨h3,k0,h4,h5⟩
     ·by_cases hd:blk=.dead
      ·subst hd;trivial
      ·refine jn.ext hext (hσlt b h3) (fun n hn=>hkeep n (hs1.lt h5 hd hn) ?_) (hs1.blk b blk h5);by_cases hm1:blk.mut=true
       ·exact hnotin b n h4 ⟨hn,blk,h5,hm1⟩
       ·cases blk with
        | cells=>exact absurd rfl hm1
        | big=>exact absurd rfl hm1
        | vec=>exact absurd rfl hm1
        | dead=>exact absurd rfl hd
        | frz e sh l=>
         rcases hs1.blk b _ h5 with⟨h6,_⟩|⟨n',c',h6,_,_,h7⟩
         ·rw[hn] at h6;cases h6
         ·rw[hn] at h6;cases h6;exact hMnot n h7
     ·subst h5;exact quO h7 (e5.blk k _ h6) (by rw[hσlt b h3,<-hσ0' k b h4]) (fun _ _=>rfl) (fun _ h=>h) (fun _ _=>rfl) e6.symm
     ·subst h5;exact jn.move hback (hσge b h3) (fun _ _=>rfl) (e5.blk _ k0 h4)
    ·intro b b' n h3 h4;rcases hown' b n h3 with⟨w1,w2⟩|⟨w1,w2⟩<;>rcases hown' b' n h4 with⟨w3,w4⟩|⟨w3,w4⟩
     ·exact hs1.inj b b' n w2 w4
     ·have:=hnewge _ n (by omega) w4;have:=Ctx.own.lt hs1 w2;omega
     ·have:=hnewge _ n (by omega) w2;have:=Ctx.own.lt hs1 w4;omega
     ·have:=e5.inj _ _ n w2 w4;omega
    ·intro b n h3 h4;rcases hown' b n h3 with⟨w1,w2⟩|⟨w1,w2⟩
     ·rcases e5.newM n h4 with h5|h5
      ·exact hs1.notM b n w2 h5
      ·have h6:X1.w.heap.size<=n:=h5;have:=Ctx.own.lt hs1 w2;omega
     ·exact e5.notM _ n w2 h4
    ·exact e5.ltM
    ·exact fun n hn=>hM01 n (hs1.M0 n hn)
    ·intro n hn;rcases e5.newM n hn with h5|h5
     ·exact hs1.newM n h5
     ·have h6:X1.w.heap.size<=n:=h5;have:=hs1.size;exact .inr (by omega)
    ·exact e5.os.trans hs1.os
    ·exact e5.tape.trans hs1.tape
    ·exact e5.output.trans hs1.output
    ·have h6:X1.w.heap.size<=X0'.w.heap.size:=hsz;have:=hs1.size;show B.w0.heap.size<=X0'.w.heap.size;omega
    ·intro n hn hni;have h6:=hs1.size;have:X0'.w.heap[n]?=X1.w.heap[n]?:=by
      refine hkeep n (by omega) fun k b hk ho=>?_;rcases qMn b B.imps.length with hlt|hge
      ·have h7:=hs1.imps b hlt;rw[ho.1,qMl hlt] at h7;simp at h7;exact hni (h7▸qMT hlt)
      ·have:=hs1.fresh b n ho hge;omega
     exact this.trans (hs1.frame n hn hni)
    ·intro b hb;have:=hs1.hlen;rw[hσlt b (by omega)];exact hs1.imps b hb
    ·intro b hb;have:=hs1.hlen;obtain⟨cs,h3,h3s⟩:=hs1.impc b hb;by_cases hbf:b∈fp
     ·obtain⟨k,hk⟩:=qOt hbf;obtain⟨cs',q1,q2,q3⟩:=p4 k b hk;exact⟨cs',by show (_++_)[b]?=_;rw[qMr (by omega)];exact q2,(qmk q3).1⟩
     ·exact⟨cs,by show (_++_)[b]?=_;rw[qMr (by omega),p3 b hbf];exact h3,h3s⟩
    ·intro b n h3 h4;rcases hown' b n h3 with⟨w1,w2⟩|⟨w1,w2⟩
     ·exact hs1.fresh b n w2 h4
     ·have:=hnewge _ n (by omega) w2;have:=hs1.size;omega
    ·intro p hp;obtain⟨q1,q2,q3⟩:=hs1.kept p hp;refine⟨(hkeep p.1 (qMk.1 q1).1 fun k b _ ho=>?_).trans q1,q2,q3⟩;obtain⟨c,T,fr,hc⟩:=ho.cells hs1;rw[hc] at q1;exact q2 _ _ _ (qMZ q1).symm
   exact⟨v,X',e1,e2,e3.ren hback,(hsim.ext fz.ext hs1).ext hext hs'⟩
end Go.Eng

namespace Go.Eng
variable {E:Env}{t:TypeId}
def kg(h:List Blk):Tree Res->Prop
 | .leaf r=>r.2=(h,none)
 | .br _ t e=>kg h t/\kg h e
 | .fail=>True
theorem kg.run {h:List Blk}{t:Tree Res}{r:Res}(ht:kg h t)(hr:t.run=some r):r.2=(h,none):=by
 induction t with
 | leaf x=>cases hr;exact ht
 | br b t e iht ihe=>cases b<;>simp only[Tree.run] at hr<;>first|exact iht ht.1 hr|exact ihe ht.2 hr
 | fail=>cases hr
theorem qnX (h:List Blk)(k:IntKind)(f:Int->Int->Int)(l:Bool)(x y:Int):kg h (q7D h k f l x y):=by unfold q7D;split<;>rfl
theorem qA5 (h:List Blk)(f:Int->Int->Bool)(l:Bool)(x y:Int):kg h (qCA h f l x y):=by unfold qCA;split<;>rfl
theorem qCt (E:Env)(h:List Blk)(t:TypeId)(p:AV):kg h (qhM E h t p):=by
 unfold qhM;dsimp only
 repeat' (first|exact rfl|exact trivial|split)
theorem qzI (E:Env)(h:List Blk)(t:TypeId)(ps:List (Nat×AV)):kg h (qju E h t ps):=by
 unfold qju
 repeat' (first|exact rfl|exact trivial|split)
theorem qzv (E:Env)(h:List Blk)(t:TypeId)(p:AV):kg h (qew E h t p):=by
 unfold qew qFd
 repeat' (first|exact qCt _ _ _ _|exact rfl|exact trivial|exact⟨rfl,trivial⟩|split)
theorem qz2 (E:Env)(h:List Blk)(t:TypeId)(ps:List (Nat×AV)):kg h (qd9 E h t ps):=by
 unfold qd9
 repeat' (first|exact qzI _ _ _ _|exact rfl|exact trivial|split)
theorem qs9 (E:Env)(h:List Blk)(s:TypeId)(x:AV)(f:Nat):kg h (q2x E h s x f):=by
 unfold q2x
 repeat' (first|exact rfl|exact trivial|split)
theorem qvE (E:Env)(h:List Blk)(t:TypeId)(cs:List AV)(o:Nat):kg h (qlk E h t cs o):=by
 unfold qlk
 repeat' (first|exact rfl|exact trivial|split)
theorem qAb (E:Env)(h:List Blk)(s:TypeId)(x:AV)(f:Nat):kg h (qj6 E h s x f):=by
 unfold qj6
 repeat' (first|exact rfl|exact trivial|exact qvE _ _ _ _ _|split)
theorem qo9(h:List Blk)(i:Int)(f:Nat->AV):∀n,kg h (qiq h i f n)
 | 0=>trivial
 | n+1=>⟨rfl,qo9 h i f n⟩
theorem qrN (E:Env)(h:List Blk)(t:TypeId)(x i:AV):kg h (ug E h t x i):=by
 unfold ug
 repeat' (first|exact qo9 _ _ _ _|exact rfl|exact trivial|exact⟨rfl,trivial⟩|split)
theorem qqH (E:Env)(h:List Blk)(t:TypeId)(x i:AV):kg h (q0C E h t x i):=by
 unfold q0C
 repeat' (first|exact qrN _ _ _ _ _|exact rfl|exact trivial|exact⟨rfl,trivial⟩|split)
theorem qAA (E:Env)(h:List Blk)(t:TypeId)(x i:AV):kg h (qiQ E h t x i):=by
 unfold qiQ
 repeat' (first|exact rfl|exact trivial|exact⟨rfl,trivial⟩|exact qvE _ _ _ _ _|split)
theorem qFQ (d:TD)(h:List Blk)(op:BinOp)(x y:AV):kg h (qyi d h op x y):=by
 unfold qyi
 repeat' (first|exact rfl|exact trivial|exact qnX _ _ _ _ _ _|exact qA5 _ _ _ _ _|exact⟨rfl,trivial⟩|exact⟨qnX _ _ _ _ _ _,trivial⟩|split)
theorem qAr (E:Env)(h:List Blk)(op:BinOp)(t:TypeId)(x y:AV):kg h (qmr E h op t x y):=by
 unfold qmr;split
 ·unfold qsN
  repeat' (first|exact rfl|exact trivial|split)
 ·exact qFQ _ _ _ _ _
theorem qHL (h:List Blk)(op:UnOp)(x:AV):kg h (qIw h op x):=by
 unfold qIw
 repeat' (first|exact rfl|exact trivial|split)
theorem qC5 (E:Env)(h:List Blk)(s d:TypeId)(x:AV):kg h (qpZ E h s d x):=by
 unfold qpZ
 repeat' (first|exact rfl|exact trivial|split)
theorem qAc (E:Env)(h:List Blk)(s d:TypeId)(x:AV):kg h (qit E h s d x):=by
 unfold qit;split
 ·split
  ·unfold qsq
   repeat' (first|exact rfl|exact trivial|split)
  ·trivial
 ·exact qC5 _ _ _ _ _
theorem qDA (E:Env)(h:List Blk)(ts:List TypeId)(azz:List AV):kg h (qrv E h ts azz):=by
 unfold qrv;split
 ·unfold qF9
  repeat' (first|exact rfl|exact trivial|split)
 ·trivial
theorem qBs (f:Int->Int->Int)(h:List Blk)(azz:List AV):kg h (qwK f h azz):=by
 unfold qwK
 repeat' (first|exact rfl|exact trivial|split)
theorem qA8 (ht:(E.ty t).d=.str)(h:List Blk)(x:AV)(lo hi mx:Option AV):kg h (qeD E h t x lo hi mx):=by
 unfold qeD;rw[ht];cases mx with
 | some _=>trivial
 | none=>
  cases x<;>first|trivial|skip
  simp only;split
  ·exact⟨⟨rfl,trivial⟩,trivial⟩
  ·trivial
theorem qyM (ht:(E.ty t).d=.str)(h:List Blk)(x:AV)(lo hi mx:Option AV):kg h (uD E h t x lo hi mx):=by unfold uD;rw[ht];exact qA8 ht _ _ _ _ _
theorem qyS {n:Nat}{e:TypeId}{es:Nat}(ht:(E.ty t).d=.array n e es)(h:List Blk)(x:AV)(lo hi mx:Option AV):kg h (uD E h t x lo hi mx):=by
 unfold uD;rw[ht];simp only;unfold qHR qxI
 repeat' (first|exact rfl|exact trivial|exact⟨⟨rfl,trivial⟩,trivial⟩|exact⟨⟨⟨rfl,trivial⟩,trivial⟩,trivial⟩|split)
theorem qyU {e:TypeId}{es:Nat}(ht:(E.ty t).d=.slice e es)(h:List Blk)(x:AV)(lo hi:Option AV){mx:Option AV}(hm:mx.isSome=true):kg h (uD E h t x lo hi mx):=by
 unfold uD;rw[ht];simp only;unfold qeD;cases mx with
 | none=>cases hm
 | some m=>
  simp only;rw[ht]
  repeat' (first|exact rfl|exact trivial|exact⟨⟨⟨rfl,trivial⟩,trivial⟩,trivial⟩|split)
theorem quU {h:List Blk}{ev:Operand->AV}{op:Op}(hs:qeh E op=true){r:Res}(hr:(qrd E h ev op).run=some r):r.2=(h,none):=by
 have key:kg h (qrd E h ev op):=by
  unfold qrd;cases op<;>simp only[qeh] at hs<;>try (cases hs)
  case move=>rfl
  case assign=>rfl
  case pick=>simp only;split<;>first|rfl|exact⟨rfl,rfl⟩|trivial
  case build=>exact qz2 _ _ _ _
  case load=>exact qzv _ _ _ _
  case nilCheck=>simp only;repeat' (first|exact rfl|exact⟨rfl,trivial⟩|exact trivial|split)
  case binOp=>exact qAr _ _ _ _ _ _
  case unOp=>exact qHL _ _ _
  case convert=>exact qAc _ _ _ _ _
  case makeFunc fn _ _=>cases fn<;>first|rfl|trivial
  case slice t x lo hi mx=>
   split at hs
   ·rename_i ht;exact qyM ht _ _ _ _ _
   ·rename_i ht;exact qyS ht _ _ _ _ _
   ·rename_i ht;exact qyU ht _ _ _ _ (by simpa using hs)
   ·cases hs
  case fieldAddr=>exact qs9 _ _ _ _ _
  case field=>exact qAb _ _ _ _ _
  case indexAddr=>exact qqH _ _ _ _ _
  case index=>exact qAA _ _ _ _ _
  case extract=>simp only;repeat' (first|exact rfl|exact trivial|split)
  case call c=>
   obtain⟨callee,args,tys⟩:=c;cases callee with
   | builtin b=>
    cases b<;>simp only at hs<;>try (cases hs)
    ·exact qDA _ _ _ _
    ·exact qBs _ _ _
    ·exact qBs _ _ _
   | value x=>simp only at hs;cases hs
   | invoke x n=>simp only at hs;cases hs
 exact key.run hr
end Go.Eng

namespace Go.Eng
variable {E:Env}
theorem qwY {callS:q87}{h:List Blk}{f g:Operand->AV}{op:Op}(hfg:∀x∈op.operands.toList,f x=g x):qe8 E callS h f op=qe8 E callS h g op:=by
 have hmap:∀(l:List Operand),(∀x∈l,x∈op.operands.toList)->l.map f=l.map g:=fun l hl=>qNo fun x hx=>hfg x (hl x hx);have hop:qeh E op=true->qrd E h f op=qrd E h g op:=by
  intro hst;unfold qrd;cases op<;>simp only[qeh] at hst<;>try (cases hst)
  case move x=>simp only;rw[hfg x (by simp[Op.operands])]
  case assign x=>simp only;rw[hfg x (by simp[Op.operands])]
  case pick c a b=>simp only;rw[hfg c (by simp[Op.operands]),hfg a (by simp[Op.operands]),hfg b (by simp[Op.operands])]
  case build t ps=>
   simp only;have:(ps.toList.map fun p=>(p.1,f p.2))=ps.toList.map fun p=>(p.1,g p.2):=qNo fun p hp=>by rw[hfg p.2 (by simp only[Op.operands];exact List.mem_map_of_mem hp)]
   rw[this]
  case load t a=>simp only;rw[hfg a (by simp[Op.operands])]
  case nilCheck a=>simp only;rw[hfg a (by simp[Op.operands])]
  case binOp o t x y ty=>simp only;rw[hfg x (by simp[Op.operands]),hfg y (by simp[Op.operands])]
  case unOp o t x=>simp only;rw[hfg x (by simp[Op.operands])]
  case convert s d x=>simp only;rw[hfg x (by simp[Op.operands])]
  case makeFunc fn a b=>cases fn<;>simp only;rw[hmap a.toList (fun x hx=>by simp only[Op.operands,qOg];exact qN8 _ hx),hmap b.toList (fun x hx=>by simp only[Op.operands,qOg];exact qMX _ hx)]
  case slice t x lo hi mx=>
   simp only;have hlo:∀y,lo=some y->f y=g y:=fun y hy=>hfg y (by subst hy;simp[Op.operands]);have hhi:∀y,hi=some y->f y=g y:=fun y hy=>hfg y (by subst hy;simp[Op.operands]);have hmx:∀y,mx=some y->f y=g y:=fun y hy=>hfg y (by subst hy;simp[Op.operands]);have e1:lo.map f=lo.map g:=by
    cases lo with
    | none=>rfl
    | some y=>exact congrArg some (hlo y rfl)
   have e2:hi.map f=hi.map g:=by
    cases hi with
    | none=>rfl
    | some y=>exact congrArg some (hhi y rfl)
   have e3:mx.map f=mx.map g:=by
    cases mx with
    | none=>rfl
    | some y=>exact congrArg some (hmx y rfl)
   rw[e1,e2,e3,hfg x (by simp[Op.operands])]
  case fieldAddr s x i=>simp only;rw[hfg x (by simp[Op.operands])]
  case field s x i=>simp only;rw[hfg x (by simp[Op.operands])]
  case indexAddr t x i=>simp only;rw[hfg x (by simp[Op.operands]),hfg i (by simp[Op.operands])]
  case index t x i=>simp only;rw[hfg x (by simp[Op.operands]),hfg i (by simp[Op.operands])]
  case extract x i=>simp only;rw[hfg x (by simp[Op.operands])]
  case call c=>
   obtain⟨callee,args,tys⟩:=c;cases callee with
   | builtin b=>
    simp only;rw[hmap args.toList (fun x hx=>by simpa[Op.operands,Call.operands] using hx)]
   | value x=>simp only at hst;cases hst
   | invoke x n=>simp only at hst;cases hst
 unfold qe8;split
 ·rename_i x args tys;rw[hfg x (by simp[Op.operands,Call.operands]),hmap args.toList (fun y hy=>by simp only[Op.operands,Call.operands,qOg];exact qMX _ hy)]
 ·split
  ·rename_i hst;rw[hop hst]
  ·rfl
def qmy(E:Env)(P:Program)(callS:List Blk->q87):Prop:=
 ∀(f:FuncId) (args:List AV) (st:St) (v:AV) (B:Base) (X:Ctx) (a:Act) (vargs:List Value),Sim E B X st a->RepL X args vargs->(callS st.h f args).run=some v ->
  (∀w,(callFunc f vargs.toArray).run P w=.ok (.enter f vargs.toArray) w) /\
  Calls P f vargs.toArray X.w fun e w'=>∃u X',e=.returned u/\X'.w=w'/\Rep X' v u/\Sim E B X' st a
def q7t(E:Env)(callS:List Blk->q87):Prop:=∀(h h':List Blk) (f:FuncId) (args:List AV),(qjr E f).isSome=true->(∀b,b∈AV.menL args->h'[b]?=h[b]?)->callS h' f args=callS h f args
def qpg(P:Program)(f:FuncId)(e:TypeId):Prop:=(∀args w,(callFunc f args).run P w=.ok (.enter f args) w) /\
 ∀(w:World) (n len cap i j:Nat) (c:Array Value) (T:TypeId),w.heap[n]?=some (.cells c T (0,0))->c.size=cap*P.cellsOf e->(∀k v,k<len*P.cellsOf e->c[k]?=some v->v.oneCell'=true)->0<P.cellsOf e ->
  len<=cap->cap<=9223372036854775807->i<=j->j<=len ->
  Calls P f #[.slice (some ⟨n,0,none⟩) len cap,.int .i64 i,.int .i64 j] w fun x w'=>x=.returned (.slice (some ⟨n,0,none⟩) (len-(j-i)) cap) /\
   ∃c',w'.heap[n]?=some (.cells c' T (0,0))/\c'.size=c.size/\(∀k,k<(len-(j-i))*P.cellsOf e->c'[k]?=if k<i*P.cellsOf e then c[k]? else c[k+(j-i)*P.cellsOf e]?) /\
    (∀m,m≠n->w'.heap[m]?=w.heap[m]?)/\w'.heap.size=w.heap.size/\w'.os=w.os/\w'.tape=w.tape/\w'.output=w.output
structure Env.specs (E:Env) (P:Program):Prop where
 sp:∀x,x∈E.spec->qI P E.glob x.1 x.2
 dl:∀x,x∈E.dels->qpg P x.1 x.2
theorem qkH:∀(l:List Nat) (h:List Blk),l.all (qmK h)=true->qP h l=h
 | [],_,_=>rfl
 | b::l,h,hl=>by
  simp only[qOe,qMt] at hl;have:zF h b=h:=by
   unfold zF;have:=hl.1;unfold qmK at this;split at this
   ·rename_i hb;rw[hb]
   ·cases this
  simp only[qP,this];exact qkH l h hl.2
theorem qwW {P:Program}(hS:E.specs P):qmy E P (qbo E):=by
 intro f args st v B X a vargs hsim hargs h;unfold qbo at h;cases hf:E.spec.find? fun x=>x.1==f with
 | none=>rw[hf] at h;cases h
 | some G=>
  rw[hf] at h;have hG:=hS.sp G (qN9 hf);have hfe:G.1=f:=by simpa using qNr hf
  simp only at h;split at h
  ·rename_i hc;obtain⟨r,h1,h2⟩:=bind_some h;have hr2:r.2=[]/\(r.1.men)=[]/\v=r.1:=by
    split at h2
    ·rename_i he;split at h2
     ·rename_i hm;cases h2;exact⟨he,by simpa using hm,rfl⟩
     ·cases h2
    ·cases h2
   obtain⟨q1,q2,rfl⟩:=hr2;have hfz:qP st.h (args.flatMap zY)=st.h:=qkH _ _ hc.1;have hmen:AV.menL (AV.lendL st.h args)=[]:=by simpa using hc.2
   have hcs:(q0J G.2 args st).run=some (r.1,st):=by
    unfold q0J;have hpr:vj st.h args=st.h:=by unfold vj;simp only[hfz,hmen,q8W,qP,qdq]
    simp only[hpr,hmen,qmj,q6x];rw[AV.renL_of_men _ _ hmen,Tree.run_bind,h1];simp only[qMG,q0S,q1,qMU,List.drop_nil,List.map_nil,qNc];rw[AV.ren_of_men _ _ q2];rfl
   rw[hfe] at hG;refine⟨hG.1 _,?_⟩;exact q8D hG hsim hargs hcs
  ·cases h
theorem qwp {P:Program}(hE:E.tok P){callS:List Blk->q87}(hc:qmy E P callS){B:Base}{X:Ctx}{st:St}{a:Act}(hs:Sim E B X st a){o:Oper}{av:AV}(h:(qe8 E (callS st.h) st.h (E.opd st.t) o.op).run=some av) {next:Act->World->Prop} {Q:Exit->Act->World->Prop}(hq:∀X' v,Sim E B X' st a->Rep X' av v->next (a.put o.dst v) X'.w):o.wp P a X.w next Q:=by
 unfold qe8 at h;split at h
 ·rename_i x args tys hop;cases hx:E.opd st.t x with
  | fn f first caps=>
   rw[hx] at h;have hv:=q9N hs x;rw[hx] at hv;generalize hev:a.eval x=vx at hv;cases hv with
   | fn _ _ _ vf vc q1 q2=>
    have hargs:=q3Q hs args.toList;have hall:RepL X (first++args.toList.map (E.opd st.t)++caps) (vf++args.toList.map a.eval++vc):=(q1.append hargs).append q2;obtain⟨g1,g2⟩:=hc f _ st av B X a _ hs hall h;unfold Oper.wp;have hrun:(execOp a.eval o).run P X.w=.ok (.enter f (vf++args.toList.map a.eval++vc).toArray) X.w:=by
     simp only[execOp,hop,resolve,hev,Deferred.ofValue,qMj,qML,qMq,invoke];have:vf.toArray++args.map a.eval++vc.toArray=(vf++args.toList.map a.eval++vc).toArray:=by apply qNt;simp
     rw[this];exact g1 X.w
    rw[hrun];refine g2.mono fun e w' ⟨v,X',e1,e2,e3,e4⟩=>?_;subst e1 e2;exact hq X' _ e4 e3
  | _=>rw[hx] at h;cases h
 ·split at h
  ·rename_i hst;obtain⟨r,h1,h2⟩:=bind_some h;cases h2;have hr2:=quU hst h1;obtain⟨nx,v,X',g1,g2,g3,g4,g5⟩:=qno hE hs h1;have hrn:r.2.2=none:=by rw[hr2]
   rw[hrn] at g5;have hXh:X'.h=st.h:=by rw[g5.1,hr2]
   have hs':Sim E B X' st a:=by have:=hs.ext g5.2 g4;rw[hXh] at this;exact this
   unfold Oper.wp;rw[g1];rcases g2 with rfl|⟨rfl,rfl⟩
   ·exact hq X' _ hs' g3
   ·exact hq X' _ hs' g3
  ·cases h
theorem Sim.drawn {B:Base}{X:Ctx}{st:St}{a:Act}(hs:Sim E B X st a)(n:Nat):Sim E B { X with w:={ X.w with drawn:=n } } st a:=by
 have hx:Ext X { X with w:={ X.w with drawn:=n } }:=
  Move.of (fun _ h=>h) (fun _ _=>rfl) (fun b b' hb h=>by cases h;exact⟨hb,rfl,fun _ _ h=>h,fun _ _ _ _ _ c T fr h=>⟨c,T,fr,h,rfl⟩⟩)
 have h0:=hs.hs;have hs':HSim B { X with w:={ X.w with drawn:=n } }:=
  ⟨fun b k hk=>jn.ext hx rfl (fun _ _=>rfl) (h0.blk b k hk),h0.inj,h0.notM,h0.ltM,h0.M0,h0.newM,h0.os,h0.tape,h0.output,h0.size,h0.frame,h0.imps,h0.impc,h0.fresh,h0.kept⟩
 have:=hs.ext hx hs';have e:({ st with h:=X.h }:St)=st:=by rw[hs.h]
 exact e▸this
end Go.Eng

namespace Go.Eng
def qzw(all:Array Oper)(k:Nat)(v:AV):AV:=if qzT all k then (match v with|.bool b=>.blit b|v=>v) else v
theorem qrx{X:Ctx}{all:Array Oper}{k:Nat}{v:AV}{u:Value}(h:Rep X v u):Rep X (qzw all k v) u:=by
 unfold qzw;split
 ·cases h with
  | bool b=>exact .blit b
  | undef=>exact .undef _
  | skip=>exact .skip
  | yld=>exact .yld
  | blit b=>exact .blit b
  | ilit k n=>exact .ilit k n
  | int k n=>exact .int k n
  | str s=>exact .str s
  | nilp=>exact .nilp
  | ptr b off n h1 h2=>exact .ptr b off n h1 h2
  | eptr sh l i off a h1 h2 h3 h4=>exact .eptr sh l i off a h1 h2 h3 h4
  | mnil sh l i off=>exact .mnil sh l i off
  | mptr sh l i off a h1 h2 h3 h4=>exact .mptr sh l i off a h1 h2 h3 h4
  | vptr b i off n k h1 h2 h3=>exact .vptr b i off n k h1 h2 h3
  | vsub b i n k m c h1 h2 h3=>exact .vsub b i n k m c h1 h2 h3
  | aptr b o i n h1 h2 h3=>exact .aptr b o i n h1 h2 h3
  | asub b o N i m n k c h1 h2 h3 h4 h5 h6=>exact .asub b o N i m n k c h1 h2 h3 h4 h5 h6
  | nils=>exact .nils
  | imm sh l _ h=>exact .imm sh l _ h
  | full sh l p n h=>exact .full sh l p n h
  | vec b p n c h1 h2=>exact .vec b p n c h1 h2
  | nilf=>exact .nilf
  | fn f a b c d h1 h2=>exact .fn f a b c d h1 h2
  | agg cs vs h=>exact .agg cs vs h
  | tuple cs vs h=>exact .tuple cs vs h
  | bagg cs k n l vs h hl=>exact .bagg cs k n l vs h hl
 ·exact h
theorem qF6{all:Array Oper}{k:Nat}{o:Oper}{st st':St}{v:AV}(h:(quw all k o { st with t:=qlu st.t o.dst v }).run=some st') :st'={ st with t:=qlu st.t o.dst (qzw all k v) }:=by
 unfold quw at h;unfold qzw;by_cases hg:qzT all k=true
 ·rw[if_pos hg] at h ⊢;cases hd:o.dst with
  | none=>rw[hd] at h;cases h;rfl
  | some d=>
   rw[hd] at h;simp only[qlu] at h ⊢;rcases qMn d st.t.length with hlt|hge
   ·rw[qMs hlt] at h;cases v<;>simp only at h<;>try (cases h;rfl)
    rename_i b;cases b<;>(cases h;simp[List.set_set])
   ·rw[List.set_eq_of_length_le hge] at h;rw[qMA hge] at h;cases h;rw[List.set_eq_of_length_le hge]
 ·rw[if_neg hg] at h ⊢;cases h;rfl
def qfD(V:Nat->AV):Nat->List Oper->List AV->List AV
 | _,[],t=>t
 | k,o::rest,t=>qfD V (k+1) rest (qlu t o.dst (V k))
theorem qsf{V W:Nat->AV}:∀(l:List Oper) (k:Nat) (t:List AV),(∀j,k<=j->V j=W j)->qfD V k l t=qfD W k l t
 | [],_,_,_=>rfl
 | o::l,k,t,h=>by
  simp only[qfD];rw[h k (qMg _)];exact qsf l (k+1) _ fun j hj=>h j (by omega)
section
variable (dst:Nat->Option Tmp) (V:Nat->AV) (T0:List AV)
def TLp(L:Nat->Bool):Nat->List AV
 | 0=>T0
 | m+1=>if L m then qlu (TLp L m) (dst m) (V m) else TLp L m
variable {dst V T0}
theorem qzx(t:List AV)(d:Option Tmp)(v:AV):(qlu t d v).length=t.length:=by cases d<;>simp[qlu]
theorem qfW(L:Nat->Bool):∀m,(TLp dst V T0 L m).length=T0.length
 | 0=>rfl
 | m+1=>by simp only[TLp];split<;>simp[qzx,qfW L m]
theorem qaG{L:Nat->Bool}{t:Tmp}:∀m,(∀j,j<m->L j=true->dst j≠some t)->(TLp dst V T0 L m)[t]?=T0[t]?
 | 0,_=>rfl
 | m+1,h=>by
  simp only[TLp];split
  ·rename_i hl;have:=h m (qO2 m) hl;cases hd:dst m with
   | none=>exact qaG m fun j hj=>h j (by omega)
   | some d=>
    rw[hd] at this;simp only[qlu];rw[qMh (fun e=>this (by rw[e]))];exact qaG m fun j hj=>h j (by omega)
  ·exact qaG m fun j hj=>h j (by omega)
theorem qjR{L:Nat->Bool}{t:Tmp}{j:Nat}(hj:L j=true)(hd:dst j=some t):∀m,j<m->(∀k,k<m->k≠j->dst k≠some t) ->
  (TLp dst V T0 L m)[t]?=if t<T0.length then some (V j) else none
 | 0,h,_=>by omega
 | m+1,h,hu=>by
  by_cases hm:j=m
  ·subst hm;simp only[TLp,hj,if_true,hd,qlu];rw[List.getElem?_set];simp[qfW]
  ·simp only[TLp];split
   ·have:=hu m (qO2 m) (fun e=>hm e.symm);cases hdm:dst m with
    | none=>exact qjR hj hd m (by omega) fun k hk=>hu k (by omega)
    | some d=>
     rw[hdm] at this;simp only[qlu];rw[qMh (fun e=>this (by rw[e]))];exact qjR hj hd m (by omega) fun k hk=>hu k (by omega)
   ·exact qjR hj hd m (by omega) fun k hk=>hu k (by omega)
theorem qJe{L:Nat->Bool}{i n:Nat}(hi:i<n)(hL:L i=false)(hu:∀k,k<n->k≠i->∀t,dst i=some t->dst k≠some t) :TLp dst V T0 (fun j=>if j=i then true else L j) n=qlu (TLp dst V T0 L n) (dst i) (V i):=by
 apply qN5;intro t;cases hd:dst i with
 | none=>
  simp only[qlu];by_cases hex:∃j,j<n/\L j=true/\dst j=some t
  ·
   clear hex;have:∀m,m<=n->TLp dst V T0 (fun j=>if j=i then true else L j) m=TLp dst V T0 L m:=by
    intro m;induction m with
    | zero=>intro _;rfl
    | succ m ih=>
     intro hm;simp only[TLp];by_cases hmi:m=i
     ·subst hmi;rw[ih (by omega)];simp[hL,hd,qlu]
     ·rw[ih (by omega)];simp[hmi]
   rw[this n (qMg _)]
  ·have h1:∀j,j<n->L j=true->dst j≠some t:=fun j hj hl he=>hex ⟨j,hj,hl,he⟩;rw[qaG n h1];refine qaG n fun j hj hl he=>?_;by_cases hji:j=i
   ·subst hji;rw[hd] at he;cases he
   ·simp[hji] at hl;exact h1 j hj hl he
 | some d=>
  simp only[qlu];by_cases htd:t=d
  ·subst htd;rw[qjR (j:=i) (by simp) hd n hi (fun k hk hki=>hu k hk hki t hd),List.getElem?_set];simp[qfW]
  ·rw[qMh (fun e=>htd e.symm)];have:∀m,m<=n->(TLp dst V T0 (fun j=>if j=i then true else L j) m)[t]?=(TLp dst V T0 L m)[t]?:=by
    intro m;induction m with
    | zero=>intro _;rfl
    | succ m ih=>
     intro hm;simp only[TLp];by_cases hmi:m=i
     ·subst hmi;simp only[if_true,hL,qMR,if_false,hd,qlu];rw[qMh (fun e=>htd e.symm)];exact ih (by omega)
     ·simp only[hmi,if_false];split
      ·cases hdm:dst m with
       | none=>exact ih (by omega)
       | some d'=>
        simp only[qlu,List.getElem?_set];rw[qfW,qfW,ih (by omega)]
      ·exact ih (by omega)
   exact this n (qMg _)
end
theorem qHm{V:Nat->AV}{l:List Oper}{T0:List AV}:∀j,j<=l.length->TLp (fun i=>(l[i]?).bind (·.dst)) V T0 (fun _=>true) j=qfD V 0 (l.take j) T0:=by
 have app:∀(l:List Oper) (o:Oper) (k:Nat) (t:List AV),qfD V k (l++[o]) t=qlu (qfD V k l t) o.dst (V (k+l.length)):=by
  intro l;induction l with
  | nil=>intro o k t;simp[qfD]
  | cons a l ih=>intro o k t;simp only[qNE,qfD,ih];congr 2;simp;omega
 intro j;induction j with
 | zero=>intro _;simp[TLp,qfD]
 | succ j ih=>
  intro hj;have hlt:j<l.length:=by omega
  have ht:l.take (j+1)=l.take j++[l[j]]:=by rw[List.take_succ_eq_append_getElem hlt]
  rw[ht,app,<-ih (by omega)];simp only[TLp,if_true];rw[qMl hlt];simp only[qMG];congr 2;simp;omega
end Go.Eng

namespace Go.Eng
variable {all:Array Oper}
def qAL(acc:List Nat)(o:Oper):Nat:=o.after.toList.foldl (fun s e=>if Region.binds .any e then s ||| 2^e.on ||| acc.getD e.on 0 else s) 0
theorem qs7(acc:List Nat)(x:Nat):∀(es:List Edge) (s:Nat),(es.foldl (fun s e=>if Region.binds .any e then s ||| 2^e.on ||| acc.getD e.on 0 else s) s).testBit x=true ->
  s.testBit x=true\/∃e,e∈es/\Region.binds .any e=true/\(x=e.on\/(acc.getD e.on 0).testBit x=true)
 | [],s,h=>.inl h
 | e::es,s,h=>by
  simp only[qO3] at h;rcases qs7 acc x es _ h with h1|⟨e',h1,h2,h3⟩
  ·split at h1
   ·rename_i hb;rw[Nat.testBit_or,Nat.testBit_or,qNF,qNF] at h1;rcases h1 with (h1|h1)|h1
    ·exact .inl h1
    ·rw[Nat.testBit_two_pow] at h1;have h2:e.on=x:=by simpa using h1
     exact .inr ⟨e,qMB,hb,.inl h2.symm⟩
    ·exact .inr ⟨e,qMB,hb,.inr h1⟩
   ·exact .inl h1
  ·exact .inr ⟨e',qMF _ h1,h2,h3⟩
def qJH(ops:List Oper)(acc:List Nat):Prop:=∀i x,(acc.getD i 0).testBit x=true->∃o e,ops[i]?=some o/\e∈o.after.toList/\Region.binds .any e=true/\(x=e.on\/(acc.getD e.on 0).testBit x=true)
theorem qvj:∀(rest done:List Oper) (acc:List Nat),acc.length=done.length->qJH done acc->qJH (done++rest) (rest.foldl (fun acc o=>acc++[qAL acc o]) acc)
 | [],done,acc,_,h=>by simpa using h
 | o::rest,done,acc,hl,h=>by
  simp only[qO3];have:=qvj rest (done++[o]) (acc++[qAL acc o]) (by simp[hl]) ?_
  ·simpa using this
  ·intro i x hb;have grow:∀(j x:Nat),(acc.getD j 0).testBit x=true->((acc++[qAL acc o]).getD j 0).testBit x=true:=by
    intro j x hj;rcases qMn j acc.length with hlt|hge
    ·rw[qMf,qMr hlt,<-qMf];exact hj
    ·rw[qMf,qMA hge] at hj;simp at hj
   rcases qMn i acc.length with hlt|hge
   ·rw[qMf,qMr hlt,<-qMf] at hb;obtain⟨o',e,h1,h2,h3,h4⟩:=h i x hb;refine⟨o',e,by rw[qMr (by omega)];exact h1,h2,h3,?_⟩;exact h4.elim .inl fun q=>.inr (grow _ _ q)
   ·rcases qNO hge with he|hgt
    ·rw[qMf,<-he,qMv (qMg _)] at hb;simp only[qMS,qNu,qNs] at hb;rcases qs7 acc x _ _ hb with h1|⟨e,h1,h2,h3⟩
     ·simp at h1
     ·exact⟨o,e,by rw[<-he,qMv (by omega)];simp[hl],h1,h2,h3.elim .inl fun q=>.inr (grow _ _ q)⟩
    ·rw[qMf,qMA (by simp;omega)] at hb;simp at hb
theorem qwi (ops:List Oper):qJH ops (qi3 ops):=by have:=qvj ops [] [] rfl (fun i x h=>by simp at h);exact this
structure DrawOk (all:Array Oper):Prop where
 edge:∀i o,all[i]?=some o->∀e,e∈o.after.toList->Region.binds .any e=true->e.on<i
 dst:∀i j oi oj,all[i]?=some oi->all[j]?=some oj->j≠i->∀t,oj.dst=some t->oi.dst≠some t /\
  (t∈qCV all oi->((qi3 all.toList).getD i 0).testBit j=true\/((qi3 all.toList).getD j 0).testBit i=true)
theorem qHF (h:qEq all=true):DrawOk all:=by
 unfold qEq at h;simp only[qMM,qNf] at h;have main:∀i oi,all[i]?=some oi->(∀e,e∈oi.after.toList->Region.binds .any e=true->e.on<i) /\
   ∀j oj,all[j]?=some oj->j≠i->∀t,oj.dst=some t->oi.dst≠some t/\(t∈qCV all oi->((qi3 all.toList).getD i 0).testBit j=true\/((qi3 all.toList).getD j 0).testBit i=true):=by
  intro i oi hi;have hi':all.toList[i]?=some oi:=by simpa using hi
  have:=h i (qq hi');rw[hi'] at this;simp only[qMt,qMM,qNf,qNF,beq_iff_eq] at this;obtain⟨h1,h2⟩:=this;refine⟨fun e he hb=>?_,fun j oj hj hne t ht=>?_⟩
  ·have:=h1 e he;rw[hb] at this;simpa using this
  ·have hj':all.toList[j]?=some oj:=by simpa using hj
   have:=(h2 j (qq hj')).resolve_left hne;rw[hj'] at this;simp only[ht,qMt,bne_iff_ne,ne_eq,qNF,qNP,List.contains_eq_mem,decide_eq_false_iff_not] at this;refine⟨this.1,fun hm=>?_⟩;rcases this.2 with (h3|h3)|h3
   ·exact absurd hm h3
   ·exact .inl h3
   ·exact .inr h3
 exact⟨fun i o hi=>(main i o hi).1,fun i j oi oj hi hj hne=>(main i oi hi).2 j oj hj hne⟩
theorem qIa (hd:DrawOk all):∀(i x:Nat),((qi3 all.toList).getD i 0).testBit x=true->x<i:=by
 intro i;induction i using Nat.strongRecOn with
 | _ i ih=>
  intro x hx;obtain⟨o,e,h1,h2,h3,h4⟩:=qwi all.toList i x hx;have he:=hd.edge i o (by simpa using h1) e h2 h3;rcases h4 with rfl|h4
  ·exact he
  ·have:=ih e.on he x h4;omega
def qqc(all:Array Oper)(L:Nat->Bool):Prop:=∀i o,all[i]?=some o->L i=true->∀e,e∈o.after.toList->Region.binds .any e=true->L e.on=true
theorem qvk (hd:DrawOk all){L:Nat->Bool}(hc:qqc all L):∀(i x:Nat),L i=true->((qi3 all.toList).getD i 0).testBit x=true->L x=true:=by
 intro i;induction i using Nat.strongRecOn with
 | _ i ih=>
  intro x hi hx;obtain⟨o,e,h1,h2,h3,h4⟩:=qwi all.toList i x hx;have ho:all[i]?=some o:=by simpa using h1
  have he:=hc i o ho hi e h2 h3;rcases h4 with rfl|h4
  ·exact he
  ·exact ih e.on (hd.edge i o ho e h2 h3) x he h4
section
variable {E:Env} {callS:q87} {h:List Blk} {all:Array Oper} {V:Nat->AV} {T0:List AV}
def yV(all:Array Oper):Nat->Option Tmp:=fun i=>(all[i]?).bind (·.dst)
theorem qJa (hd:DrawOk all){L:Nat->Bool}(hc:qqc all L){n i:Nat}{o:Oper}(hi:all[i]?=some o)(hin:i<=n)(hL:L i=false)(hedge:∀e,e∈o.after.toList->Region.binds .any e=true->L e.on=true) {t:Tmp} (ht:t∈qCV all o) :(TLp (yV all) V T0 L n)[t]?=(TLp (yV all) V T0 (fun _=>true) i)[t]?:=by
 by_cases hex:∃j oj,all[j]?=some oj/\j≠i/\oj.dst=some t
 ·obtain⟨j,oj,hj,hne,hjt⟩:=hex;have hdj:yV all j=some t:=by simp[yV,hj,hjt]
  have huniq:∀m k,k<m->k≠j->yV all k≠some t:=by
   intro m k _ hkj he;unfold yV at he;cases hk:all[k]? with
   | none=>rw[hk] at he;cases he
   | some ok=>
    rw[hk] at he;simp only[qMG] at he;exact(hd.dst j k oj ok hj hk hkj t he).1 hjt
  rcases (hd.dst i j o oj hi hj hne t hjt).2 ht with ha|ha
  ·
   have hji:=qIa hd i j ha;have hLj:L j=true:=by
    obtain⟨o',e,h1,h2,h3,h4⟩:=qwi all.toList i j ha;have:o'=o:=by
     have h1':all[i]?=some o':=by simpa using h1
     rw[hi] at h1';exact(qMZ h1').symm
    subst this;have he:=hedge e h2 h3;rcases h4 with rfl|h4
    ·exact he
    ·exact qvk hd hc _ _ he h4
   rw[qjR hLj hdj n (by omega) (huniq n),qjR rfl hdj i hji (huniq i)]
  ·
   have hij:=qIa hd j i ha;have hLj:L j=false:=by
    cases hLj:L j with
    | false=>rfl
    | true=>have:=qvk hd hc _ _ hLj ha;rw[hL] at this;cases this
   have e1:(TLp (yV all) V T0 L n)[t]?=T0[t]?:=qaG n fun k hk hLk he=>by
    by_cases hkj:k=j
    ·subst hkj;rw[hLj] at hLk;cases hLk
    ·exact huniq n k hk hkj he
   have e2:(TLp (yV all) V T0 (fun _=>true) i)[t]?=T0[t]?:=qaG i fun k hk _ he=>by
    by_cases hkj:k=j
    ·omega
    ·exact huniq i k hk hkj he
   rw[e1,e2]
 ·have hno:∀k,k≠i->yV all k≠some t:=by
   intro k hki he;unfold yV at he;cases hk:all[k]? with
   | none=>rw[hk] at he;cases he
   | some ok=>
    rw[hk] at he;exact hex ⟨k,ok,hk,hki,he⟩
  have e1:(TLp (yV all) V T0 L n)[t]?=T0[t]?:=qaG n fun k hk hLk=>hno k (fun e=>by subst e;rw[hL] at hLk;cases hLk);have e2:(TLp (yV all) V T0 (fun _=>true) i)[t]?=T0[t]?:=qaG i fun k hk _=>hno k (by omega);rw[e1,e2]
end
def unl(listed:Array Bool):Nat->Nat
 | 0=>0
 | m+1=>unl listed m+if listed.getD m false then 0 else 1
theorem qwf{listed:Array Bool}:∀{m:Nat},unl listed m=0->∀i,i<m->listed.getD i false=true
 | 0,_,i,hi=>by omega
 | m+1,h,i,hi=>by
  simp only[unl] at h;by_cases him:i=m
  ·subst him;cases hl:listed.getD i false with
   | true=>rfl
   | false=>rw[hl] at h;simp at h
  ·exact qwf (Nat.add_eq_zero_iff.1 h).1 i (by omega)
theorem q0E {listed:Array Bool}{i j:Nat}(hi:i<listed.size):(listed.setIfInBounds i true).getD j false=if j=i then true else listed.getD j false:=by
 by_cases h:j=i
 ·subst h;simp[hi]
 ·simp[h,Array.getElem?_setIfInBounds_ne (qMI h)]
theorem qAG{listed:Array Bool}{i:Nat}(hi:i<listed.size)(hl:listed.getD i false=false):∀m,(m<=i->unl (listed.setIfInBounds i true) m=unl listed m)/\(i<m->unl (listed.setIfInBounds i true) m+1=unl listed m)
 | 0=>⟨fun _=>rfl,fun h=>by omega⟩
 | m+1=>by
  obtain⟨h1,h2⟩:=qAG hi hl m;refine⟨fun h=>?_,fun h=>?_⟩
  ·simp only[unl];rw[h1 (by omega),q0E hi,if_neg (show ¬m=i by omega)]
  ·simp only[unl];rw[q0E hi];by_cases him:m=i
   ·subst him;rw[h1 (qMg _),if_pos rfl,hl];simp
   ·rw[if_neg him];have:=h2 (by omega);omega
end Go.Eng

namespace Go.Eng
variable {E:Env}{op:Op}{t:TypeId}
def q08(h':List Blk):Tree Res->Tree Res->Prop
 | .leaf r,t'=>t'=.leaf (r.1,h',none)
 | .br b t e,.br b' t' e'=>b=b'/\q08 h' t t'/\q08 h' e e'
 | .fail,_=>True
 | .br _ _ _,_=>False
theorem q08.run{h':List Blk}:∀{t t':Tree Res} {r:Res},q08 h' t t'->t.run=some r->t'.run=some (r.1,h',none)
 | .leaf _,t',_,hm,hr=>by cases hr;simp only[q08] at hm;subst hm;rfl
 | .fail,_,_,_,hr=>by cases hr
 | .br b t e,.br b' t' e',r,hm,hr=>by
  simp only[q08] at hm;obtain⟨rfl,h1,h2⟩:=hm;cases b<;>simp only[Tree.run] at hr ⊢
  ·exact q08.run h2 hr
  ·exact q08.run h1 hr
 | .br _ _ _,.leaf _,_,hm,_=>by cases hm
 | .br _ _ _,.fail,_,hm,_=>by cases hm
section
variable {h h':List Blk}
def Agr(h h':List Blk)(p:AV):Prop:=∀b,b∈p.men->h'[b]?=h[b]?
theorem w8 (v:AV):q08 h' (okv h v) (okv h' v):=rfl
theorem yq {b:Bool}{t t' e e':Tree Res}(h1:q08 h' t t')(h2:q08 h' e e'):q08 h' (.br b t e) (.br b t' e'):=⟨rfl,h1,h2⟩
theorem zv {c:Prop}[Decidable c]{t t' e e':Tree Res}(h1:q08 h' t t')(h2:q08 h' e e'):q08 h' (if c then t else e) (if c then t' else e'):=by split<;>assumption
theorem qc3 (kk:IntKind)(f:Int->Int->Int)(l:Bool)(x y:Int):q08 h' (q7D h kk f l x y) (q7D h' kk f l x y):=by unfold q7D;cases l<;>rfl
theorem qEJ (f:Int->Int->Bool)(l:Bool)(x y:Int):q08 h' (qCA h f l x y) (qCA h' f l x y):=by unfold qCA;cases l<;>rfl
theorem qk3 {v:AV}(H:Agr h h' v):vl h' v=vl h v:=by
 cases v<;>first|rfl|skip
 rename_i b;simp only[vl];rw[H b (by simp[AV.men])]
theorem qxX (E:Env)(t:TypeId)(p:AV)(H:Agr h h' p):q08 h' (qhM E h t p) (qhM E h' t p):=by
 unfold qhM;dsimp only;refine zv trivial ?_;cases p with
 | ptr b off=>
  simp only;rw[H b (by simp[AV.men])];cases hb:h[b]? with
  | none=>trivial
  | some x=>
   cases x with
   | cells cs=>
    simp only;refine zv (zv (w8 _) trivial) ?_;cases cs[off]?<;>first|trivial|rfl
   | _=>trivial
 | eptr sh l i off=>
  simp only;refine zv ?_ ?_
  ·cases qbD sh l i off (E.ty t).size<;>first|trivial|rfl
  ·cases qhO sh l i off<;>first|trivial|rfl
 | vptr b i off=>
  simp only;rw[qk3 (v:=.vec b) H];cases hb:vl h (.vec b) with
  | none=>trivial
  | some x=>
   obtain⟨sh,l⟩:=x;simp only;refine zv ?_ ?_
   ·cases qbD sh l i off (E.ty t).size<;>first|trivial|rfl
   ·cases qhO sh l i off<;>first|trivial|rfl
 | _=>trivial
theorem qCf (E:Env)(t:TypeId)(p:AV)(H:Agr h h' p):q08 h' (qew E h t p) (qew E h' t p):=by
 cases p with
 | ptr b off=>
  have hm:=qxX E t (.ptr b off) H;unfold qew;simp only;rw[H b (by simp[AV.men])];cases hb:h[b]? with
  | none=>
   have:qhM E h t (.ptr b off)=.fail:=by unfold qhM;simp only[hb];split<;>rfl
   simp only[this];trivial
  | some x=>
   cases x with
   | big cs kk n l=>
    simp only;unfold qFd;refine zv trivial (zv (zv (w8 _) trivial) ?_);cases cs[off]? with
    | none=>exact zv (w8 _) trivial
    | some v=>exact w8 _
   | _=>exact hm
 | aptr b o i=>
  unfold qew;simp only;rw[H b (by simp[AV.men])];cases hb:h[b]? with
  | none=>trivial
  | some x=>
   cases x with
   | big cs kk n l=>exact zv (yq (w8 _) trivial) trivial
   | _=>trivial
 | _=>unfold qew;exact qxX _ _ _ H
theorem qCz (E:Env)(t:TypeId)(ps:List (Nat×AV)):q08 h' (qju E h t ps) (qju E h' t ps):=by
 unfold qju;refine zv trivial ?_;cases (E.ty t).d with
 | struct fs=>
  simp only;refine zv ?_ trivial;cases qfK (fun i=>(fs[i]?).map fun f=>(f.1,f.2.2)) ((E.ty t).zero.map jm) ps<;>first|trivial|rfl
 | array n e es=>
  simp only;refine zv trivial ?_;cases qfK (fun i=>some (i*es,es)) ((E.ty t).zero.map jm) ps<;>first|trivial|rfl
 | _=>trivial
theorem qzC (E:Env)(t:TypeId)(ps:List (Nat×AV)):q08 h' (qd9 E h t ps) (qd9 E h' t ps):=by
 unfold qd9;cases qCB E t with
 | none=>exact qCz _ _ _
 | some q=>
  obtain⟨o,kk,n⟩:=q;simp only;cases (E.ty t).d with
  | struct fs=>
   simp only;refine zv ?_ trivial;cases qfK (fun i=>(fs[i]?).map fun f=>(f.1,f.2.2)) (((E.ty t).zero.take o).map jm) ps<;>first|trivial|rfl
  | _=>trivial
theorem qtW (E:Env)(s:TypeId)(x:AV)(f:Nat):q08 h' (q2x E h s x f) (q2x E h' s x f):=by
 unfold q2x;cases (E.ty s).d with
 | struct fs=>
  simp only;cases fs[f]? with
  | none=>trivial
  | some o=>
   obtain⟨o,tt,sz⟩:=o;simp only;refine zv trivial ?_;cases x<;>first|rfl|trivial
 | _=>trivial
theorem qyX (E:Env)(t:TypeId)(cs:List AV)(o:Nat):q08 h' (qlk E h t cs o) (qlk E h' t cs o):=by unfold qlk;cases qhn E t cs o<;>first|rfl|trivial
theorem qDj (E:Env)(s:TypeId)(x:AV)(f:Nat):q08 h' (qj6 E h s x f) (qj6 E h' s x f):=by
 unfold qj6;cases (E.ty s).d with
 | struct fs=>
  cases x with
  | agg cs=>
   simp only;cases fs[f]? with
   | none=>trivial
   | some o=>exact qyX _ _ _ _
  | _=>trivial
 | _=>trivial
theorem qjz(i:Int)(f:Nat->AV):∀n,q08 h' (qiq h i f n) (qiq h' i f n)
 | 0=>trivial
 | n+1=>⟨rfl,rfl,qjz i f n⟩
theorem qum (E:Env)(t:TypeId)(x i:AV)(H:Agr h h' x):q08 h' (ug E h t x i) (ug E h' t x i):=by
 unfold ug;cases (E.ty t).d with
 | slice e es=>
  cases x with
  | imm sh l=>
   cases asI i with
   | none=>trivial
   | some y=>exact zv (yq (w8 _) trivial) trivial
  | vec b=>
   cases asI i with
   | none=>trivial
   | some y=>
    simp only;rw[qk3 (v:=.vec b) H];cases hb:vl h (.vec b) with
    | none=>trivial
    | some z=>exact zv (yq (w8 _) trivial) trivial
  | _=>trivial
 | array n e es=>
  cases x with
  | ptr b off=>
   simp only;cases i with
   | ilit kk j=>exact zv (w8 _) trivial
   | int kk j=>exact zv (qjz _ _ _) trivial
   | _=>trivial
  | eptr sh l i0 off=>
   simp only;cases i with
   | ilit kk j=>exact zv (w8 _) trivial
   | int kk j=>exact zv (qjz _ _ _) trivial
   | _=>trivial
  | _=>trivial
 | _=>trivial
theorem qsy (E:Env)(t:TypeId)(x i:AV)(H:Agr h h' x):q08 h' (q0C E h t x i) (q0C E h' t x i):=by
 have hm:=qum E t x i H;unfold q0C;split
 ·split
  ·split
   ·split
    ·exact zv (yq (w8 _) trivial) trivial
    ·exact hm
   ·exact hm
  ·exact hm
 ·exact hm
theorem qCa (E:Env)(t:TypeId)(x i:AV):q08 h' (qiQ E h t x i) (qiQ E h' t x i):=by
 unfold qiQ;cases (E.ty t).d with
 | array n e es=>
  cases x with
  | agg cs=>
   cases hi:asI i with
   | none=>trivial
   | some y=>
    cases i with
    | ilit kk j=>exact zv (qyX _ _ _ _) trivial
    | int kk j=>
     simp only;cases (E.ty e).d with
     | int k2=>
      simp only;refine zv ?_ trivial;cases qnH k2 cs with
      | none=>trivial
      | some l=>exact yq (w8 _) trivial
     | _=>trivial
    | _=>cases hi
  | _=>trivial
 | str=>
  cases x with
  | str s=>
   cases asI i with
   | none=>trivial
   | some y=>exact yq (w8 _) trivial
  | _=>trivial
 | _=>trivial
theorem qBH (d:TD)(op:BinOp)(x y:AV)(H:Agr h h' x):q08 h' (qyi d h op x y) (qyi d h' op x y):=by
 unfold qyi;cases hx:asI x with
 | some p=>
  obtain⟨kk,a⟩:=p;cases hy:asI y with
  | some q=>
   obtain⟨kk',b⟩:=q;simp only;refine zv ?_ trivial;cases op<;>simp only<;>first
    | exact qc3 _ _ _ _ _
    | exact qEJ _ _ _ _
    | trivial
    | skip
   ·cases y<;>simp only<;>first|exact zv trivial (qc3 _ _ _ _ _)|exact yq (qc3 _ _ _ _ _) trivial
   ·cases y<;>simp only<;>first|exact zv trivial (qc3 _ _ _ _ _)|exact yq (qc3 _ _ _ _ _) trivial
  | none=>cases x<;>first|cases hx;done|(cases y<;>first|(cases hy;done)|trivial)
 | none=>
  simp only;cases hbx:asB x with
  | some a=>
   cases hby:asB y with
   | some b=>simp only;cases d<;>simp only<;>first|trivial|(cases op<;>first|rfl|trivial)
   | none=>cases x<;>first|(cases hbx;done)|(cases y<;>first|(cases hby;done)|trivial)
  | none=>
   simp only;cases x with
   | str a=>
    cases y with
    | str b=>cases op<;>first|rfl|trivial|exact yq (w8 _) trivial
    | _=>trivial
   | nilp=>
    cases y with
    | nilp=>cases d<;>first|trivial|(cases op<;>first|rfl|trivial)
    | _=>trivial
   | ptr b off=>
    cases y with
    | nilp=>
     cases d<;>first|trivial|skip
     simp only;rw[H b (by simp[AV.men])];cases hb:h[b]? with
     | none=>trivial
     | some z=>cases z<;>first|trivial|(cases op<;>first|rfl|trivial)
    | _=>trivial
   | eptr sh l i o=>
    cases y with
    | nilp=>cases d<;>first|trivial|(cases op<;>first|rfl|trivial)
    | _=>trivial
   | imm sh l=>
    cases y with
    | nils=>cases d<;>first|trivial|(cases op<;>first|trivial|exact yq (w8 _) trivial)
    | _=>trivial
   | mptr c sh l i o=>
    cases y with
    | nilp=>cases d<;>first|trivial|(cases op<;>first|rfl|trivial)
    | _=>trivial
   | _=>trivial
theorem qCM (E:Env)(op:BinOp)(t:TypeId)(x y:AV)(H:Agr h h' x):q08 h' (qmr E h op t x y) (qmr E h' op t x y):=by
 unfold qmr;cases x with
 | agg xs=>
  cases y with
  | agg ys=>
   simp only;unfold qsN;cases eqT E 32 t (.agg xs) (.agg ys) with
   | none=>trivial
   | some r=>cases op<;>first|rfl|trivial
  | _=>exact qBH _ _ _ _ H
 | _=>exact qBH _ _ _ _ H
theorem qJ9 (op:UnOp)(x:AV):q08 h' (qIw h op x) (qIw h' op x):=by cases op<;>cases x<;>first|rfl|trivial
theorem qFp (E:Env)(s d:TypeId)(x:AV):q08 h' (qpZ E h s d x) (qpZ E h' s d x):=by unfold qpZ;cases (E.ty s).d<;>cases (E.ty d).d<;>cases x<;>first|rfl|trivial
theorem qCT (E:Env)(s d:TypeId)(x:AV)(H:Agr h h' x):q08 h' (qit E h s d x) (qit E h' s d x):=by
 unfold qit;cases (E.ty s).d with
 | slice e es=>
  simp only;cases (E.ty d).d with
  | str=>
   simp only;unfold qsq;cases (E.ty e).d with
   | int kk=>
    cases kk<;>first|trivial|skip
    simp only;rw[qk3 H];cases hr:vl h x with
    | none=>trivial
    | some q=>
     obtain⟨sh,l⟩:=q;simp only;split
     ·rfl
     ·trivial
   | _=>trivial
  | _=>trivial
 | _=>exact qFp _ _ _ _
theorem qH1 (E:Env)(ts:List TypeId)(azz:List AV)(H:∀x,x∈azz->Agr h h' x):q08 h' (qrv E h ts azz) (qrv E h' ts azz):=by
 unfold qrv;cases ts with
 | nil=>trivial
 | cons t ts=>
  cases azz with
  | nil=>trivial
  | cons x azz=>
   cases azz with
   | cons _ _=>trivial
   | nil=>
    simp only;unfold qF9;cases (E.ty t).d with
    | str=>cases x<;>first|rfl|trivial
    | array n e es=>rfl
    | slice e es=>
     cases x with
     | nils=>rfl
     | vec b=>
      simp only;rw[qk3 (v:=.vec b) (H _ qMB)];cases hb:vl h (.vec b) with
      | none=>trivial
      | some z=>rfl
     | imm sh l=>rfl
     | _=>trivial
    | _=>cases x<;>trivial
theorem qIQ (f:Int->Int->Int)(azz:List AV):q08 h' (qwK f h azz) (qwK f h' azz):=by
 unfold qwK;cases azz with
 | nil=>trivial
 | cons x l=>
  simp only;cases asI x with
  | none=>trivial
  | some p=>
   obtain⟨kk,n⟩:=p;simp only;cases qzs f kk n l with
   | none=>trivial
   | some m=>exact zv (w8 _) (w8 _)
theorem qD3 (ht:(E.ty t).d=.str)(x:AV)(lo hi mx:Option AV):q08 h' (qeD E h t x lo hi mx) (qeD E h' t x lo hi mx):=by
 unfold qeD;rw[ht];cases mx with
 | some _=>trivial
 | none=>
  cases x<;>first|trivial|skip
  rename_i s;simp only;cases qg4 lo 0 with
  | none=>trivial
  | some l=>
   cases qg4 hi (qx s) with
   | none=>trivial
   | some r=>exact yq (yq (w8 _) trivial) trivial
theorem qzQ (ht:(E.ty t).d=.str)(x:AV)(lo hi mx:Option AV):q08 h' (uD E h t x lo hi mx) (uD E h' t x lo hi mx):=by unfold uD;rw[ht];exact qD3 ht _ _ _ _
theorem qzS {n:Nat}{e:TypeId}{es:Nat}(ht:(E.ty t).d=.array n e es)(x:AV)(lo hi mx:Option AV):q08 h' (uD E h t x lo hi mx) (uD E h' t x lo hi mx):=by
 unfold uD;rw[ht];simp only;cases x<;>first|trivial|skip
 ·cases mx with
  | some _=>trivial
  | none=>
   simp only;refine zv ?_ trivial;unfold qHR;split
   ·exact yq (yq (w8 _) trivial) trivial
   ·trivial
 ·refine zv ?_ trivial;split
  ·unfold qxI;split
   ·split
    ·exact yq (yq (w8 _) trivial) trivial
    ·trivial
   ·split
    ·exact yq (yq (yq (w8 _) trivial) trivial) trivial
    ·trivial
  ·trivial
theorem qzW {e:TypeId}{es:Nat}(ht:(E.ty t).d=.slice e es)(x:AV)(lo hi:Option AV){mx:Option AV}(hm:mx.isSome=true):q08 h' (uD E h t x lo hi mx) (uD E h' t x lo hi mx):=by
 unfold uD;rw[ht];simp only;unfold qeD;cases mx with
 | none=>cases hm
 | some m=>
  simp only;rw[ht];split
  ·split
   ·exact zv (yq (yq (yq (w8 _) trivial) trivial) trivial) trivial
   ·trivial
  ·trivial
theorem qFO {ev:Operand->AV}(hs:qeh E op=true)(H:qDH op=true->∀x,x∈op.operands.toList->Agr h h' (ev x)):q08 h' (qrd E h ev op) (qrd E h' ev op):=by
 unfold qrd;cases op<;>simp only[qeh] at hs<;>try (cases hs)
 case move=>exact w8 _
 case assign=>exact w8 _
 case pick c a b=>simp only;cases ev c<;>first|exact w8 _|exact yq (w8 _) (w8 _)|trivial
 case build=>exact qzC _ _ _
 case load x=>exact qCf _ _ _ (H rfl x (by simp[Op.operands]))
 case nilCheck x=>
  have H:=H rfl x (by simp[Op.operands]);simp only;cases hx:ev x with
  | ptr b o=>
   rw[hx] at H;simp only;rw[H b (by simp[AV.men])];cases hb:h[b]? with
   | none=>trivial
   | some z=>cases z<;>first|rfl|trivial
  | eptr sh l i o=>rfl
  | mptr c sh l i o=>exact yq (w8 _) trivial
  | _=>trivial
 case binOp op t x y r=>exact qCM _ _ _ _ _ (H rfl x (by simp[Op.operands]))
 case unOp=>exact qJ9 _ _
 case convert s d x=>exact qCT _ _ _ _ (H rfl x (by simp[Op.operands]))
 case makeFunc fn _ _=>cases fn<;>first|rfl|trivial
 case slice t x lo hi mx=>
  split at hs
  ·rename_i ht;exact qzQ ht _ _ _ _
  ·rename_i ht;exact qzS ht _ _ _ _
  ·rename_i ht;exact qzW ht _ _ _ (by simpa using hs)
  ·cases hs
 case fieldAddr=>exact qtW _ _ _ _
 case field=>exact qDj _ _ _ _
 case indexAddr t x i=>exact qsy _ _ _ _ (H rfl x (by simp[Op.operands]))
 case index=>exact qCa _ _ _ _
 case extract x i=>
  simp only;cases ev x with
  | tuple vs=>simp only;cases vs[i]?<;>first|rfl|trivial
  | _=>trivial
 case call c=>
  obtain⟨callee,args,tys⟩:=c;cases callee with
  | builtin b=>
   cases b<;>first|exact qH1 _ _ _ (fun x hx=>by obtain⟨y,hy,rfl⟩:=qN3.1 hx;exact H rfl y (by simpa[Op.operands,Call.operands] using hy))|exact qIQ _ _|(cases hs;done)
  | value x=>simp only at hs;cases hs
  | invoke x n=>simp only at hs;cases hs
end
mutual
theorem qEw{h h':List Blk}:∀(a:AV),Agr h h' a->a.lend h'=a.lend h
 | .vec b,H=>by simp only[AV.lend];rw[H b (by simp[AV.men])]
 | .agg cs,H=>by simp only[AV.lend];rw[q1r cs H]
 | .tuple cs,H=>by simp only[AV.lend];rw[q1r cs H]
 | .undef,_|.yld,_|.skip,_|.blit _,_|.bool _,_|.ilit _ _,_|.int _ _,_|.str _,_|.nilp,_|.ptr _ _,_|.eptr _ _ _ _,_|.mptr _ _ _ _ _,_|.vptr _ _ _,_|.vsub _ _,_|.aptr _ _ _,_|.asub _ _ _ _ _,_|.bagg _ _ _ _,_|.nils,_|.imm _ _,_|.full _ _,_|.nilf,_|.fn _ _ _,_=>rfl
theorem q1r{h h':List Blk}:∀(l:List AV),(∀b,b∈AV.menL l->h'[b]?=h[b]?)->AV.lendL h' l=AV.lendL h l
 | [],_=>rfl
 | a::l,H=>by
  simp only[AV.lendL];rw[qEw a fun b hb=>H b (by simp only[AV.menL];exact qN8 _ hb),q1r l fun b hb=>H b (by simp only[AV.menL];exact qMX _ hb)]
end
theorem qvi:∀(a:AV) (b:Nat),b∈zY a->b∈a.men:=by
 intro a b hb;cases a<;>simp only[zY] at hb<;>first|(cases hb;done)|skip
 case vec c=>simpa[AV.men] using hb
 case agg cs=>
  simp only[AV.men];induction cs with
  | nil=>cases hb
  | cons c cs ih=>
   simp only[AV.menL];simp only[List.filterMap_cons] at hb;cases c<;>simp only at hb<;>first|exact qMX _ (ih hb)|skip
   rcases qMy.1 hb with rfl|hb
   ·exact qN8 _ (by simp[AV.men])
   ·exact qMX _ (ih hb)
theorem qr4 {l:List AV}{a:AV}{b:Nat}(ha:a∈l)(hb:b∈a.men):b∈AV.menL l:=by
 induction l with
 | nil=>cases ha
 | cons c l ih=>
  simp only[AV.menL];rcases qMy.1 ha with rfl|ha
  ·exact qN8 _ hb
  ·exact qMX _ (ih ha)
theorem qsK {h h':List Blk}{f:FuncId}{args:List AV}(H:∀b,b∈AV.menL args->h'[b]?=h[b]?):qbo E h' f args=qbo E h f args:=by
 unfold qbo;cases hf:E.spec.find? fun x=>x.1==f with
 | none=>rfl
 | some G=>
  simp only;have e1:(args.flatMap zY).all (qmK h')=(args.flatMap zY).all (qmK h):=by
   have:∀b,b∈args.flatMap zY->qmK h' b=qmK h b:=by intro b hb;obtain⟨a,ha,hb⟩:=qOl.1 hb;unfold qmK;rw[H b (qr4 ha (qvi a b hb))]
   generalize args.flatMap zY=l at this;induction l with
   | nil=>rfl
   | cons b l ih=>simp only[qOe];rw[this b qMB,ih fun b hb=>this b (qMF _ hb)]
  rw[e1,q1r args H]
theorem q8S (E:Env):q7t E (q95 E):=by
 intro h h' f args hs H;unfold q95;unfold qjr at hs;cases hf:E.spec.find? fun x=>x.1==f with
 | none=>rw[hf] at hs;cases hs
 | some G=>simp only;exact qsK H
theorem qyA (E:Env):q7t E qwm:=fun _ _ _ _ _ _=>rfl
theorem qy0 {callS:List Blk->q87}(hm:q7t E callS){h h':List Blk}{ev:Operand->AV}{v:AV}{R:List Nat}(hR:qJP E ev op=some R)(H:∀b,b∈R->h'[b]?=h[b]?)(hr:(qe8 E (callS h) h ev op).run=some v):(qe8 E (callS h') h' ev op).run=some v:=by
 unfold qe8 at hr ⊢;split at hr
 ·rename_i x args tys;cases hx:ev x with
  | fn f first caps=>
   rw[hx] at hr;unfold qJP at hR;simp only[qiF,jA,hx] at hR;cases hf:qjr E f with
   | none=>rw[hf] at hR;cases hR
   | some G=>
    rw[hf] at hR;simp only[qMe] at hR;subst hR;simp only;rw[hm h h' f _ (by rw[hf];rfl) H];exact hr
  | _=>rw[hx] at hr;cases hr
 ·rename_i hno;split at hr
  ·rename_i hst;rw[if_pos hst];obtain⟨r,h1,h2⟩:=bind_some hr;cases h2;have hR':qDH op=true->R=AV.menL (op.operands.toList.map ev):=by
    intro hlk;unfold qJP at hR;have:qiF op=false:=by
     unfold qiF;split
     ·rename_i x args tys;exact absurd rfl (hno x args tys)
     ·rfl
    rw[this,hlk] at hR;simpa using hR.symm
   rw[Tree.run_bind,q08.run (qFO (h':=h') hst fun hlk x hx b hb=>H b (by rw[hR' hlk];exact qr4 (List.mem_map_of_mem hx) hb)) h1];rfl
  ·cases hr
section
variable {h:List Blk}
theorem qiy:∀(cs:List AV),cs.all qEf=true->qc5 h cs=h
 | [],_=>rfl
 | c::cs,hc=>by
  simp only[qOe,qMt] at hc;cases c<;>first|(simp only[qc5];exact qiy cs hc.2)|(cases hc.1)
theorem qEO {ev:Operand->AV}{v:AV}{z:Blk}(hr:(qkU E h ev op).run=some (v,z)):(qrd E h ev op).run=some (v,h++[z],none):=by
 unfold qkU at hr;cases op<;>simp only at hr<;>first|(cases hr;done)|skip
 case buildSlice t len parts=>
  unfold qrd;simp only;unfold q9g;cases hd:(E.ty t).d<;>rw[hd] at hr<;>simp only at hr ⊢<;>first|(cases hr;done)|skip
  rename_i e es;split at hr
  ·rename_i hc;rw[if_pos hc];cases hf:qfK (fun i=>some (i*es,es)) ((List.replicate len ((E.ty e).zero.map jm)).flatten) (parts.toList.map fun p=>(p.1,ev p.2)) with
   | none=>rw[hf] at hr;cases hr
   | some cs=>
    cases hs:E.shape 16 e with
    | none=>rw[hf,hs] at hr;cases hr
    | some sh=>
     rw[hf,hs] at hr;simp only at hr ⊢;split at hr
     ·rename_i hl;rw[if_pos hl.1];cases hch:qkq h sh len cs with
      | none=>rw[hch] at hr;cases hr
      | some l=>
       rw[hch] at hr;cases hr;simp only[qiy cs hl.2];rfl
     ·cases hr
  ·cases hr
theorem qyx {f g:Operand->AV}(hfg:∀x∈op.operands.toList,f x=g x):qkU E h f op=qkU E h g op:=by
 unfold qkU;cases op<;>simp only
 case buildSlice t len ps=>
  have:(ps.toList.map fun p=>(p.1,f p.2))=ps.toList.map fun p=>(p.1,g p.2):=qNo fun p hp=>by rw[hfg p.2 (by simp only[Op.operands];exact List.mem_map_of_mem hp)]
  rw[this]
end
end Go.Eng

namespace Go.Eng
variable {B:Base}{E:Env}{X:Ctx}{s:Nat}
mutual
theorem AV.ren_void{s:Nat}:∀av:AV,s∉av.men->av.ren (qep s)=av
 | .undef,_|.skip,_|.yld,_|.blit _,_|.bool _,_|.ilit _ _,_|.int _ _,_|.str _,_|.nilp,_|.eptr _ _ _ _,_|.mptr _ _ _ _ _,_|.nils,_|.imm _ _,_|.full _ _,_|.nilf,_=>rfl
 | .ptr b _,h=>by simp only[AV.men,qMJ] at h;simp[AV.ren,qep,qMI h]
 | .vptr b _ _,h=>by simp only[AV.men,qMJ] at h;simp[AV.ren,qep,qMI h]
 | .vsub b _,h=>by simp only[AV.men,qMJ] at h;simp[AV.ren,qep,qMI h]
 | .aptr b _ _,h=>by simp only[AV.men,qMJ] at h;simp[AV.ren,qep,qMI h]
 | .asub b _ _ _ _,h=>by simp only[AV.men,qMJ] at h;simp[AV.ren,qep,qMI h]
 | .vec b,h=>by simp only[AV.men,qMJ] at h;simp[AV.ren,qep,qMI h]
 | .fn g first caps,h=>by
  simp only[AV.men,qMD,not_or] at h;simp[AV.ren,AV.renL_void first h.1,AV.renL_void caps h.2]
 | .agg cs,h=>by simp only[AV.men] at h;simp[AV.ren,AV.renL_void cs h]
 | .tuple cs,h=>by simp only[AV.men] at h;simp[AV.ren,AV.renL_void cs h]
 | .bagg cs k n l,h=>by simp only[AV.men] at h;simp[AV.ren,AV.renL_void cs h]
theorem AV.renL_void{s:Nat}:∀l:List AV,s∉AV.menL l->AV.renL (qep s) l=l
 | [],_=>rfl
 | a::l,h=>by
  simp only[AV.menL,qMD,not_or] at h;simp[AV.renL,AV.ren_void a h.1,AV.renL_void l h.2]
end
theorem Blk.ren_void (k:Blk)(h:s∉k.menB):k.ren (qep s)=k:=by cases k<;>simp only[Blk.menB,Blk.ren] at h ⊢<;>rw[AV.renL_void _ h]
theorem qoM{s:Nat}:∀l:List (List AV),s∉qnn l->l.map (AV.renL (qep s))=l
 | [],_=>rfl
 | a::l,h=>by
  simp only[qnn,qMD,not_or] at h;simp only[qNj,AV.renL_void a h.1,qoM l h.2]
theorem qqY {s b:Nat}{k:Blk}:∀{h:List Blk},s∉qe3 h->h[b]?=some k->s∉k.menB:=by
 intro h;induction h generalizing b with
 | nil=>intro _ hb;simp at hb
 | cons a h ih=>
  intro hs hb;simp only[qe3,qMD,not_or] at hs;cases b with
  | zero=>simp only[qNu,qMe] at hb;subst hb;exact hs.1
  | succ b=>exact ih hs.2 (by simpa using hb)
def Ctx.slot(X:Ctx)(s:Nat)(z:Blk)(o:Obj):Ctx:={ σ:=fun b=>if b=s then some X.w.heap.size else X.σ b,h:=X.h.set s z,w:=X.w.alloc o,M:=X.M,kept:=X.kept,y:=X.y }
theorem qtg (hs:HSim B X){z:Blk}{o:Obj}:Move X (X.slot s z o) (qep s):=by
 refine Move.of (fun _ h=>h) (fun a ha=>qNg (w9 _ _ (hs.ltM _ ha))) (fun b b' hb h=>?_);unfold qep at h;split at h
 ·cases h
 ·rename_i hne;cases h;refine⟨by simpa[Ctx.slot] using hb,by simp[Ctx.slot,hne],fun sh m ⟨e,l,h1,h2⟩=>⟨e,l,?_,h2⟩,fun _ _ _ n hn c T fr hc=>⟨c,T,fr,?_,rfl⟩⟩
  ·have e1:(X.slot s z o).h[b]?=X.h[b]?:=qMh (fun e=>hne e.symm);rw[e1] at h1;exact h1
  ·exact(w9 _ _ (qMk.1 hc).1).trans hc
theorem qyb (hs:HSim B X){z:Blk}{o:Obj}(hd:X.h[s]?=some .dead)(hmen:s∉qe3 X.h)(hz:jn (X.slot s z o) s z):HSim B (X.slot s z o):=by
 have hm:=qtg hs (s:=s) (z:=z) (o:=o);have hsl:=qq hd;have himp:B.imps.length<=s:=by
  rcases qMn s B.imps.length with h|h
  ·obtain⟨k,h1,h2⟩:=hs.impc s h;rw[hd] at h1;cases h1;cases h2
  ·exact h
 have hget:∀b k',(X.slot s z o).h[b]?=some k'->b≠s/\X.h[b]?=some k'\/b=s/\k'=z:=by
  intro b k' h;by_cases hb:b=s
  ·subst hb;have:(X.h.set b z)[b]?=some k':=h;rw[qMs hsl] at this;exact .inr ⟨rfl,(qMZ this).symm⟩
  ·have:(X.h.set s z)[b]?=some k':=h;rw[qMh (fun e=>hb e.symm)] at this;exact .inl ⟨hb,this⟩
 have hσ:∀b,b≠s->(X.slot s z o).σ b=X.σ b:=fun b hb=>by simp[Ctx.slot,hb]
 have hσn:(X.slot s z o).σ s=some X.w.heap.size:=by simp[Ctx.slot]
 have hold:∀n,n<X.w.heap.size->(X.slot s z o).w.heap[n]?=X.w.heap[n]?:=fun n hn=>w9 _ _ hn;have hsize:X.w.heap.size<=(X.slot s z o).w.heap.size:=by show _<=(X.w.alloc o).heap.size;simp
 have hown:∀b n,(X.slot s z o).own b n->X.own b n\/b=s/\n=X.w.heap.size:=by
  intro b n ⟨h1,k',h2,h3⟩;rcases hget b k' h2 with⟨hb,h4⟩|⟨rfl,rfl⟩
  ·exact .inl ⟨by rw[<-hσ b hb];exact h1,k',h4,h3⟩
  ·rw[hσn] at h1;exact .inr ⟨rfl,(qMZ h1).symm⟩
 constructor
 ·intro b k' h;rcases hget b k' h with⟨hb,h4⟩|⟨rfl,rfl⟩
  ·by_cases hdd:k'=.dead
   ·subst hdd;trivial
   ·have:=jn.move hm.toMove0 (b':=b) (hσ b hb) (fun n hn=>hold n (hs.lt h4 hdd hn)) (hs.blk b k' h4)
    rwa [Blk.ren_void k' (qqY hmen h4)] at this
  ·exact hz
 ·intro b b' n h h';rcases hown b n h with h1|⟨g1,g2⟩
  ·rcases hown b' n h' with h2|⟨g3,g4⟩
   ·exact hs.inj b b' n h1 h2
   ·exact absurd (Ctx.own.lt hs h1) (by omega)
  ·rcases hown b' _ h' with h2|⟨g3,_⟩
   ·exact absurd (Ctx.own.lt hs h2) (by omega)
   ·rw[g1,g3]
 ·intro b n h hM;rcases hown b n h with h1|⟨g1,g2⟩
  ·exact hs.notM b n h1 hM
  ·exact absurd (hs.ltM _ hM) (by omega)
 ·intro n h;have:=hs.ltM n h;omega
 ·exact hs.M0
 ·exact hs.newM
 ·exact hs.os
 ·exact hs.tape
 ·exact hs.output
 ·have:=hs.size;omega
 ·intro n hn hni;have:=hs.size;rw[hold _ (by omega)];exact hs.frame n hn hni
 ·intro b hb;rw[hσ b (by omega)];exact hs.imps b hb
 ·intro b hb;obtain⟨cs,h,hc⟩:=hs.impc b hb;exact⟨cs,by show (X.h.set s z)[b]?=_;rw[qMh (by omega)];exact h,hc⟩
 ·intro b n h hb;rcases hown b n h with h1|⟨g1,g2⟩
  ·exact hs.fresh b n h1 hb
  ·have:=hs.size;omega
 ·intro p hp;obtain⟨q1,q2,q3⟩:=hs.kept p hp;exact⟨(hold _ (qMk.1 q1).1).trans q1,q2,q3⟩
theorem qCq {P:Program}(hE:E.tok P)(hs:HSim B X){t:TypeId}{z:Blk}(hz:qh7 E t=some z)(hd:X.h[s]?=some .dead)(hmen:s∉qe3 X.h) :∃o:Obj,((do pure (.value (<-Instr.alloc t true (.tuple #[]))):Sem Next)).run P X.w=.ok (.value (.pointer (some ⟨X.w.heap.size,0,none⟩))) (X.w.alloc o)/\HSim B (X.slot s z o)/\Move X (X.slot s z o) (qep s) /\Rep (X.slot s z o) (.ptr s 0) (.pointer (some ⟨X.w.heap.size,0,none⟩)):=by
 have hsl:=qq hd;have hptr:∀o,Rep (X.slot s z o) (.ptr s 0) (.pointer (some ⟨X.w.heap.size,0,none⟩)):=fun o=>.ptr _ _ _ (by simpa[Ctx.slot] using hsl) (by simp[Ctx.slot]);unfold qh7 at hz;split at hz
 ·rename_i o k n hb;split at hz
  ·cases hz;obtain⟨b1,b2,b3,b4,_⟩:=qk1 hb;obtain⟨v,h1,h2,_⟩:=qgR hE (t:=t) (by omega) X.w;refine⟨.cells v.cells t,by simp[Instr.alloc,h1,qbl],qyb hs hd hmen ?_,qtg hs,hptr _⟩;exact⟨X.w.heap.size,v.cells,t,(E.ty t).zero.take o,by simp[Ctx.slot],wi _ _,jG _ _,by rw[h2];exact qoK hb,qtr _ _⟩
  ·cases hz
 ·split at hz
  ·rename_i hc;cases hz;obtain⟨v,h1,h2,_⟩:=qgR hE (t:=t) (by simpa using hc.2) X.w;refine⟨.cells v.cells t,by simp[Instr.alloc,h1,qbl],qyb hs hd hmen ?_,qtg hs,hptr _⟩;exact⟨X.w.heap.size,v.cells,t,by simp[Ctx.slot],wi _ _,by rw[h2];exact jG _ _⟩
  ·cases hz
theorem qwt {P:Program}(hE:E.tok P){st:St}{a:Act}(hs:Sim E B X st a){o:Oper}{t:TypeId}(hop:o.op=.alloc t){z:Blk}(hz:qh7 E t=some z)(hd:st.h[s]?=some .dead)(hmen:s∉qe3 st.h) (ht:s∉AV.menL st.t) (hf:s∉qnn st.fs) {next:Act->World->Prop} {Q:Exit->Act->World->Prop}(hq:∀X' v,Sim E B X' { st with h:=st.h.set s z } a->Rep X' (.ptr s 0) v->next (a.put o.dst v) X'.w):o.wp P a X.w next Q:=by
 rw[<-hs.h] at hd hmen;obtain⟨ob,h1,h2,h3,h4⟩:=qCq hE hs.hs hz hd hmen;unfold Oper.wp;have hrun:(execOp a.eval o).run P X.w=.ok (.value (.pointer (some ⟨X.w.heap.size,0,none⟩))) (X.w.alloc ob):=by rw[<-h1];simp only[execOp,hop]
 rw[hrun];refine hq (X.slot s z ob) _ ⟨h2,?_,?_,?_,fun x hx=>?_,h3.kept▸hs.df,hs.ni,h3.y.trans hs.y,fun p hp=>h3.kept▸hs.pin p hp⟩ h4
 ·show X.h.set s z=st.h.set s z;rw[hs.h]
 ·have:=hs.t.ren h3.toMove0
  rwa [AV.renL_void _ ht] at this
 ·have:=hs.fs.ren h3.toMove0
  rwa [qoM _ hf] at this
 ·obtain⟨⟨sh,l,i,off,he⟩,hr⟩:=hs.glob x hx;refine⟨⟨sh,l,i,off,he⟩,hr.move h3.M h3.w ?_⟩;have:=hr.1.ren h3.toMove0;rw[he] at this ⊢;exact this
theorem Sim.pad {st:St}{a:Act}(hs:Sim E B X st a):∃X',X'.w=X.w/\Sim E B X' { st with h:=st.h++[.dead] } a:=by
 have hw:=PushW.same X;have hs1:=HSim.push hs.hs (k:=.dead) hw trivial;have:=hs.ext (Ctx.push_ext hs.hs .dead hw) hs1;refine⟨X.pushW .dead none X.w,rfl,?_⟩;have e:(X.pushW .dead none X.w).h=st.h++[.dead]:=by rw[<-hs.h];rfl
 rw[e] at this;exact this
theorem Sim.padN{E:Env}{B:Base}{a:Act}:∀(n:Nat) {X:Ctx} {st:St},Sim E B X st a->∃X',X'.w=X.w/\Sim E B X' { st with h:=st.h++List.replicate n .dead } a
 | 0,X,st,hs=>⟨X,rfl,by simpa using hs⟩
 | n+1,X,st,hs=>by
  obtain⟨X1,h1,h2⟩:=hs.pad;obtain⟨X2,h3,h4⟩:=Sim.padN n h2;refine⟨X2,h3.trans h1,?_⟩;have e:st.h++[.dead]++List.replicate n .dead=st.h++List.replicate (n+1) .dead:=by simp[qND]
  simp only at h4;rw[e] at h4;exact h4
end Go.Eng

namespace Go.Eng
variable {E:Env}{args:List AV}{b:Nat}{h:List Blk}{op:Op}
theorem stL{all:Array Oper}{V:Nat->AV}{T0:List AV}{L L':Nat->Bool}:∀n,(∀j,j<n->L j=L' j)->TLp (yV all) V T0 L n=TLp (yV all) V T0 L' n
 | 0,_=>rfl
 | n+1,h=>by
  simp only[TLp];rw[h n (qO2 n),stL n fun j hj=>h j (by omega)]
theorem qz5 {all:Array Oper}(hd:DrawOk all){listed:Array Bool}(hsz:listed.size=all.size)(h:Region.ready .any all listed=[]):∀i,i<all.size->listed.getD i false=true:=by
 intro i;induction i using Nat.strongRecOn with
 | _ i ih=>
  intro hi;cases hl:listed.getD i false with
  | true=>rfl
  | false=>
   have ho:all[i]?=some all[i]:=qNV hi;have:i∈Region.ready .any all listed:=by
    rw[mem_ready];refine⟨?_,all[i],ho,fun e he hb=>?_⟩
    ·have hi':i<listed.size:=by omega
     simpa[qNx,hi'] using hl
    ·have hlt:=hd.edge i _ ho e (by simpa using he) hb;exact ih e.on hlt (by omega)
   rw[h] at this;cases this
theorem qoA {all:Array Oper}{listed:Array Bool}{i:Nat}{o:Oper}(hsz:listed.size=all.size)(ho:all[i]?=some o)(hc:qqc all fun j=>listed.getD j false)(hedge:∀e,e∈o.after.toList->Region.binds .any e=true->listed.getD e.on false=true):qqc all fun j=>(listed.setIfInBounds i true).getD j false:=by
 have hi:i<listed.size:=by rw[hsz];exact(qMk.1 ho).1
 intro j oj hj hL e he hb;show (listed.setIfInBounds i true).getD e.on false=true;rw[q0E hi];split
 ·rfl
 ·by_cases hji:j=i
  ·subst hji;rw[ho] at hj;cases hj;exact hedge e he hb
  ·have hL':(listed.setIfInBounds i true).getD j false=true:=hL;rw[q0E hi,if_neg hji] at hL';exact hc j oj hj hL' e he hb
theorem qbn {b c:Nat}(hb:b≠c):(zF h c)[b]?=h[b]?:=by
 unfold zF;split
 ·rw[qMh (fun e=>hb e.symm)]
 ·rfl
theorem qh4{b:Nat}:∀(l:List Nat) (h:List Blk),b∉l->(qP h l)[b]?=h[b]?
 | [],_,_=>rfl
 | c::l,h,hb=>by
  simp only[qMy,not_or] at hb;simp only[qP];rw[qh4 l _ hb.2,qbn hb.1]
theorem qpr{b:Nat}:∀(l:List Nat) (h:List Blk),b∉l->(qdq h l)[b]?=h[b]?
 | [],_,_=>rfl
 | c::l,h,hb=>by
  simp only[qMy,not_or] at hb;simp only[qdq];split
  ·rw[qpr l _ hb.2,qMh (fun e=>hb.1 e.symm)]
  ·exact qpr l _ hb.2
theorem qtw{b:Nat}:∀(l:List Nat) (h:List Blk) (ks:List Blk) (h':List Blk),q0S h l ks=some h'->b∉l->h'[b]?=h[b]?
 | [],h,ks,h',hp,_=>by cases ks<;>(simp only[q0S,qMe] at hp;rw[hp])
 | c::l,h,[],h',hp,_=>by simp[q0S] at hp
 | c::l,h,k::ks,h',hp,hb=>by
  simp only[qMy,not_or] at hb;simp only[q0S] at hp;split at hp
  ·cases hq:q0S h l ks with
   | none=>rw[hq] at hp;cases hp
   | some h2=>
    rw[hq] at hp;simp only[qMO,qMe] at hp;rw[<-hp,qMh (fun e=>hb.1 e.symm)];exact qtw l h ks h2 hq hb.2
  ·cases hp
theorem qkb{b:Nat}:∀(l:List Nat),b∈qmj l->b∈l
 | [],h=>h
 | a::l,h=>by
  simp only[qmj] at h;split at h
  ·exact qMF _ (qkb l h)
  ·rcases qMy.1 h with rfl|h
   ·exact qMB
   ·exact qMF _ (qkb l h)
mutual
theorem qHE:∀(a:AV) (h h':List Blk),(a.lend h).men=(a.lend h').men
 | .vec b,h,h'=>by
  have:∀h,((AV.vec b).lend h).men=[]:=fun h=>by simp only[AV.lend];split<;>rfl
  rw[this,this]
 | .agg cs,h,h'=>by simp only[AV.lend,AV.men];exact qn9 cs h h'
 | .tuple cs,h,h'=>by simp only[AV.lend,AV.men];exact qn9 cs h h'
 | .undef,_,_|.yld,_,_|.skip,_,_|.blit _,_,_|.bool _,_,_|.ilit _ _,_,_|.int _ _,_,_|.str _,_,_|.nilp,_,_|.ptr _ _,_,_|.eptr _ _ _ _,_,_|.mptr _ _ _ _ _,_,_|.vptr _ _ _,_,_|.vsub _ _,_,_|.aptr _ _ _,_,_|.asub _ _ _ _ _,_,_|.bagg _ _ _ _,_,_|.nils,_,_|.imm _ _,_,_|.full _ _,_,_|.nilf,_,_|.fn _ _ _,_,_=>rfl
theorem qn9:∀(l:List AV) (h h':List Blk),AV.menL (AV.lendL h l)=AV.menL (AV.lendL h' l)
 | [],_,_=>rfl
 | a::l,h,h'=>by simp only[AV.lendL,AV.menL];rw[qHE a h h',qn9 l h h']
end
theorem que {G:zj}{st:St}{r:AV×St}(h:(q0J G args st).run=some r)(hb:b<st.h.length)(hw:b∉qpW st.h args):r.2.h[b]?=st.h[b]?:=by
 unfold q0J at h;unfold qpW at hw;simp only[qMD,not_or] at hw;obtain⟨⟨w1,w2⟩,w3⟩:=hw;have hpre:(vj st.h args)[b]?=st.h[b]?:=by unfold vj;simp only;rw[qpr _ _ w3,qh4 _ _ w2,qh4 _ _ w1]
 simp only at h;split at h
 ·cases h
 ·obtain⟨r0,h1,h2⟩:=bind_some h;split at h2
  ·cases h2
  ·rename_i hput;cases h2;have hfp:b∉qmj (AV.menL (AV.lendL (vj st.h args) args)):=by intro hm;have hm:=qkb _ hm;rw[qn9 args (vj st.h args) (qP st.h (args.flatMap zY))] at hm;exact w3 hm
   have:=qtw _ _ _ _ hput hfp;rw[hpre] at this;have hl:st.h[b]?=some st.h[b]:=qMl hb;rw[hl] at this;rw[qMr (qq this),this,hl]
theorem qwB {ev:Operand->AV}{q:FuncId×List AV}(h:jA ev op=some q):qiF op=true/\∃x args tys first caps,op=.call { callee:=.value x,args:=args,argTypes:=tys }/\ev x=.fn q.1 first caps/\q.2=first++args.toList.map ev++caps:=by
 unfold jA at h;split at h
 ·rename_i x args tys;split at h
  ·rename_i f first caps hx
   cases h;exact⟨rfl,x,args,tys,first,caps,rfl,hx,rfl⟩
  ·cases h
 ·cases h
theorem brR {α:Type}{b:Bool}{t:Tree α}{r:α}(h:(Tree.br b t .fail).run=some r):b=true/\t.run=some r:=by
 cases b
 ·cases h
 ·exact⟨rfl,h⟩
theorem yg:∀(l:List Nat) (h:List Blk),(qP h l).length=h.length
 | [],_=>rfl
 | c::l,h=>by
  simp only[qP];rw[yg l];unfold zF;split<;>simp
theorem qxl (hb:b∈args.flatMap zY):b∈AV.menL args:=by obtain⟨a,ha,hb⟩:=qOl.1 hb;exact qr4 ha (qvi a b hb)
theorem qEe {h h':List Blk}{s:Sh}{a:AV}(hv:qEf a=true):toU h s a=toU h' s a:=by cases a<;>first|(cases hv;done)|(cases s<;>rfl)
theorem qp9{h h':List Blk}:∀(sh:List Sh) (azz:List AV),azz.all qEf=true->qrb h sh azz=qrb h' sh azz
 | [],[],_=>rfl
 | [],_::_,_=>rfl
 | _::_,[],_=>rfl
 | s::sh,a::azz,hv=>by
  simp only[qOe,qMt] at hv;simp only[qrb];rw[qEe (h':=h') hv.1,qp9 (h':=h') sh azz hv.2]
theorem qGp {p:AV->Bool}{l:List AV}(h:l.all p=true)(n:Nat):(l.take n).all p=true:=by rw[qMM] at h ⊢;exact fun x hx=>h x (qOo hx)
theorem qHp {p:AV->Bool}{l:List AV}(h:l.all p=true)(n:Nat):(l.drop n).all p=true:=by rw[qMM] at h ⊢;exact fun x hx=>h x (qOp hx)
theorem qsn{h h':List Blk}{sh:List Sh}:∀(n:Nat) (cs:List AV),cs.all qEf=true->qkq h sh n cs=qkq h' sh n cs
 | 0,[],_=>rfl
 | 0,_::_,_=>rfl
 | n+1,cs,hv=>by
  simp only[qkq];rw[qp9 (h':=h') _ _ (qGp hv _),qsn (h':=h') n _ (qHp hv _)]
theorem qy6 {t:TypeId}{p v:AV}{r:Res}(hr:(q06 E h t p v).run=some r) :∃b x,p.men=[b]/\r=(.skip,h.set b x,none)/\∀h',h'[b]?=h[b]?->(q06 E h' t p v).run=some (.skip,h'.set b x,none):=by
 have plain:∀{p:AV} {r:Res},(qgW E h t p v).run=some r->∃b x,p.men=[b]/\r=(.skip,h.set b x,none)/\∀h',h'[b]?=h[b]?->(qgW E h' t p v).run=some (.skip,h'.set b x,none):=by
  intro p r hr;unfold qgW at hr;simp only at hr;split at hr
  case isFalse=>cases hr
  rename_i hc;cases p<;>simp only at hr<;>first|(cases hr;done)|skip
  case ptr b off=>
   split at hr
   case h_2=>cases hr
   split at hr
   case isFalse=>cases hr
   rename_i cs hb hc2;cases hr;refine⟨b,_,rfl,rfl,fun h' e=>?_⟩;unfold qgW;simp only;rw[if_pos hc,e,hb];simp only;rw[if_pos hc2];rfl
  case vptr b i off=>
   split at hr
   case h_2=>cases hr
   split at hr
   case isFalse=>cases hr
   split at hr
   case h_2=>cases hr
   rename_i e0 sh l hb hm _ us hu;cases hr;refine⟨b,_,rfl,rfl,fun h' e=>?_⟩;unfold qgW;simp only;have hu':qrb h' ((sh.drop off).take v.cells.length) v.cells=some us:=by
    rw[<-hu];refine qp9 _ _ (qMM.2 fun x hx=>?_);cases x<;>first|rfl|skip
    rename_i b';exact absurd (qr4 hx (b:=b') (by simp[AV.men])) (by rw[List.isEmpty_iff.1 hm];simp)
   rw[if_pos hc,e,hb];simp only;rw[if_pos hm,hu'];rfl
 unfold q06 at hr;split at hr
 ·rename_i b off;split at hr
  ·rename_i cs k n l hb;unfold qxm at hr;split at hr
   ·split at hr
    case isFalse=>cases hr
    rename_i hc;cases hr;refine⟨b,_,rfl,rfl,fun h' e=>?_⟩;unfold q06;simp only[e,hb];unfold qxm;simp only;rw[if_pos hc];rfl
   ·rename_i hno;split at hr
    case isFalse=>cases hr
    rename_i hc;have fin:∀(x:Blk),(qxm E h t b off cs k n l v).run=some (.skip,h.set b x,none)->(∀h':List Blk,(qxm E h' t b off cs k n l v).run=some (.skip,h'.set b x,none))->∃b_1 x_1,(AV.ptr b off).men=[b_1]/\((AV.skip,h.set b x,none):Res)=(.skip,h.set b_1 x_1,none)/\∀h',h'[b_1]?=h[b_1]?->(q06 E h' t (.ptr b off) v).run=some (.skip,h'.set b_1 x_1,none):=by intro x _ h2;refine⟨b,x,rfl,rfl,fun h' e=>?_⟩;unfold q06;simp only[e,hb];exact h2 h'
    split at hr
    ·rename_i hle;cases hr;refine⟨b,_,rfl,rfl,fun h' e=>?_⟩;unfold q06;simp only[e,hb];unfold qxm;cases v<;>first|exact absurd rfl (hno _ _ _ _)|(simp only;rw[if_pos hc,hle];rfl)
    ·rename_i hle;split at hr
     case h_2=>cases hr
     split at hr
     case isFalse=>cases hr
     rename_i k' x hx hc2;cases hr;refine⟨b,_,rfl,rfl,fun h' e=>?_⟩;unfold q06;simp only[e,hb];unfold qxm;cases v<;>first|exact absurd rfl (hno _ _ _ _)|(simp only;rw[if_pos hc,hle];simp only[hx];rw[if_pos hc2];rfl)
  ·rename_i hno;obtain⟨b',x,h1,h2,h3⟩:=plain hr;refine⟨b',x,h1,h2,fun h' e=>?_⟩;simp only[AV.men,qNG,and_true] at h1;subst h1;unfold q06;simp only;rw[e];split
   ·rename_i cs k n l hb;exact absurd hb (hno _ _ _ _)
   ·exact h3 h' e
 ·rename_i b o i;split at hr
  case h_2=>cases hr
  split at hr
  case h_2=>cases hr
  split at hr
  case isFalse=>cases hr
  rename_i cs k n l hb _ k' x hx hc;obtain⟨g1,g2⟩:=brR hr;cases g2;refine⟨b,_,rfl,rfl,fun h' e=>?_⟩;unfold q06;simp only[e,hb,hx];rw[if_pos hc];simp only[Tree.run,g1]
 ·rename_i hn1 hn2;obtain⟨b',x,h1,h2,h3⟩:=plain hr;refine⟨b',x,h1,h2,fun h' e=>?_⟩;unfold q06;split
  ·rename_i b off;exact absurd rfl (hn1 _ _)
  ·rename_i b o i;exact absurd rfl (hn2 _ _ _)
  ·exact h3 h' e
theorem qtp {h h':List Blk}{ev:Operand->AV}{v:AV}(hr:(qpD E h ev op).run=some (v,h'))(hb:b<h.length)(hw:b∉qzL h ev op):h'[b]?=h[b]?:=by
 unfold qpD at hr;unfold qzL at hw;cases hc:jA ev op with
 | some q=>
  obtain⟨f,args⟩:=q;rw[hc] at hr hw;simp only at hr hw;cases hs:qjr E f with
  | none=>rw[hs] at hr;cases hr
  | some G=>
   rw[hs] at hr;obtain⟨r,h1,h2⟩:=bind_some hr;cases h2;exact que (st:={ t:=[],fs:=[],h:=h,pend:=none }) h1 hb hw
 | none=>
  rw[hc] at hr hw;simp only at hr hw;cases hst:qpp op with
  | true=>
   rw[hst] at hr;obtain⟨r,h1,h2⟩:=bind_some hr;cases op<;>first|(cases hst;done)|skip
   rename_i t x y;simp only at hw;obtain⟨b',z,q1,rfl,_⟩:=qy6 (show (q06 E h t (ev x) (ev y)).run=some r from h1);cases h2;rw[q1] at hw;exact qMh (fun e=>hw (by simp[e]))
  | false=>rw[hst] at hr;cases hr
theorem quk {f g:Operand->AV}(hfg:∀x∈op.operands.toList,f x=g x):jA f op=jA g op:=by
 unfold jA;split
 ·rename_i x args tys;rw[hfg x (by simp[Op.operands,Call.operands])];have:args.toList.map f=args.toList.map g:=qNo fun y hy=>hfg y (by simp only[Op.operands,Call.operands,qOg];exact qMX _ hy);rw[this]
 ·rfl
theorem qs5 {f g:Operand->AV}(hfg:∀x∈op.operands.toList,f x=g x):qmW E h f op=qmW E h g op/\qpD E h f op=qpD E h g op:=by
 have hc:=quk hfg;constructor
 ·unfold qmW;rw[hc]
 ·unfold qpD;rw[hc];cases jA g op with
  | some q=>rfl
  | none=>
   simp only;cases hs:qpp op with
   | true=>
    cases op<;>first|(cases hs;done)|skip
    rename_i t x y;have e:qrd E h f (.store t x y)=qrd E h g (.store t x y):=by unfold qrd;simp only;rw[hfg x (by simp[Op.operands]),hfg y (by simp[Op.operands])]
    simp only[e]
   | false=>rfl
theorem qzu {P:Program}(hE:E.tok P)(hS:E.specs P){B:Base}{X:Ctx}{st:St}{a:Act}(hs:Sim E B X st a){o:Oper}{av:AV}{h':List Blk}(h:(qpD E st.h (E.opd st.t) o.op).run=some (av,h')) {next:Act->World->Prop} {Q:Exit->Act->World->Prop}(hq:∀X' v,Sim E B X' { st with h:=h' } a->Rep X' av v->next (a.put o.dst v) X'.w):o.wp P a X.w next Q/\∀c,o.op≠.defer c:=by
 unfold qpD at h;cases hcl:jA (E.opd st.t) o.op with
 | some q=>
  obtain⟨f,aargs⟩:=q;rw[hcl] at h;simp only at h;obtain⟨_,x,args,tys,first,caps,hop,hx,ha⟩:=qwB hcl;simp only at hx ha;refine⟨?_,fun c hc=>by rw[hop] at hc;cases hc⟩;cases hsp:qjr E f with
  | none=>rw[hsp] at h;cases h
  | some G=>
   rw[hsp] at h;obtain⟨r,h1,h2⟩:=bind_some h;simp only[Tree.run,qMe,qMN] at h2;obtain⟨rfl,rfl⟩:=h2;unfold qjr at hsp;cases hf:E.spec.find? fun x=>x.1==f with
   | none=>rw[hf] at hsp;cases hsp
   | some G'=>
    rw[hf] at hsp;simp only[qMO,qMe] at hsp;subst hsp;have hG:=hS.sp G' (qN9 hf);have hfe:G'.1=f:=by simpa using qNr hf
    rw[hfe] at hG;have hv:=q9N hs x;rw[hx] at hv;generalize hev:a.eval x=vx at hv;cases hv with
    | fn _ _ _ vf vc q1 q2=>
     have hargs:=q3Q hs args.toList;have hall:RepL X aargs (vf++args.toList.map a.eval++vc):=by rw[ha];exact(q1.append hargs).append q2
     have hcs:(q0J G'.2 aargs st).run=some (r.1,{ st with h:=r.2.h }):=by
      unfold q0J at h1 ⊢;simp only at h1 ⊢;split at h1
      ·cases h1
      ·obtain⟨r0,k1,k2⟩:=bind_some h1;rw[Tree.run_bind,k1];simp only[qMG];split at k2
       ·cases k2
       ·cases k2;rfl
     have g2:=q8D hG hs hall hcs;have g1:=hG.1 (vf++args.toList.map a.eval++vc).toArray;unfold Oper.wp;have hrun:(execOp a.eval o).run P X.w=.ok (.enter f (vf++args.toList.map a.eval++vc).toArray) X.w:=by
      simp only[execOp,hop,resolve,hev,Deferred.ofValue,qMj,qML,qMq,invoke];have:vf.toArray++args.map a.eval++vc.toArray=(vf++args.toList.map a.eval++vc).toArray:=by apply qNt;simp
      rw[this];exact g1 X.w
     rw[hrun];refine g2.mono fun e w' ⟨v,X',e1,e2,e3,e4⟩=>?_;subst e1 e2;exact hq X' _ e4 e3
 | none=>
  rw[hcl] at h;simp only at h;have hop:(qrd E st.h (E.opd st.t) o.op).run=some (av,h',none)/\∀c,o.op≠.defer c:=by
   cases hst:qpp o.op with
   | true=>
    rw[hst] at h;obtain⟨r,h1,h3⟩:=bind_some h;refine⟨?_,fun c hc=>by rw[hc] at hst;cases hst⟩;split at h3
    ·rename_i hn;simp only[Tree.run,qMe,qMN] at h3;rw[h1];obtain⟨r1,r2,r3⟩:=r;simp only at hn h3;rw[hn,h3.1,h3.2]
    ·cases h3
   | false=>rw[hst] at h;cases h
  refine⟨?_,hop.2⟩;obtain⟨nx,v,X',g1,g2,g3,g4,g5⟩:=qno hE hs hop.1;have hs2:Sim E B X' { st with h:=h' } a:=by have:=hs.ext g5.2 g4;rw[g5.1] at this;exact this
  unfold Oper.wp;rw[g1];rcases g2 with rfl|⟨rfl,rfl⟩
  ·exact hq X' _ hs2 g3
  ·exact hq X' _ hs2 g3
mutual
theorem qH5:∀(a:AV) (h:List Blk) (b:Nat),b∈(a.lend h).men->b∈a.men
 | .vec c,h,b,hb=>by
  simp only[AV.lend] at hb;split at hb<;>cases hb
 | .agg cs,h,b,hb=>by simp only[AV.lend,AV.men] at hb ⊢;exact qfB cs h b hb
 | .tuple cs,h,b,hb=>by simp only[AV.lend,AV.men] at hb ⊢;exact qfB cs h b hb
 | .undef,_,_,hb|.yld,_,_,hb|.skip,_,_,hb|.blit _,_,_,hb|.bool _,_,_,hb|.ilit _ _,_,_,hb|.int _ _,_,_,hb|.str _,_,_,hb|.nilp,_,_,hb|.ptr _ _,_,_,hb|.eptr _ _ _ _,_,_,hb|.mptr _ _ _ _ _,_,_,hb|.vptr _ _ _,_,_,hb|.vsub _ _,_,_,hb|.aptr _ _ _,_,_,hb|.asub _ _ _ _ _,_,_,hb|.bagg _ _ _ _,_,_,hb|.nils,_,_,hb|.imm _ _,_,_,hb|.nilf,_,_,hb|.fn _ _ _,_,_,hb=>hb
theorem qfB:∀(l:List AV) (h:List Blk) (b:Nat),b∈AV.menL (AV.lendL h l)->b∈AV.menL l
 | [],_,_,hb=>hb
 | a::l,h,b,hb=>by
  simp only[AV.lendL,AV.menL,qMD] at hb ⊢;exact hb.imp (qH5 a h b) (qfB l h b)
end
theorem qjc {h h':List Blk}{s c:Nat}{k:Blk}(hl:h'.length=h.length)(hc:c≠s->h'[c]?=h[c]?):(h'.set s k)[c]?=(h.set s k)[c]?:=by
 by_cases e:c=s
 ·subst e;simp only[List.getElem?_set,if_true,hl]
 ·rw[qMh (fun e'=>e e'.symm),qMh (fun e'=>e e'.symm)];exact hc e
theorem qD5 {h h':List Blk}{b c:Nat}(hl:h'.length=h.length)(hc:h'[c]?=h[c]?):(zF h' b)[c]?=(zF h b)[c]?:=by
 by_cases e:c=b
 ·subst e;unfold zF;rw[hc];split
  ·exact qjc hl fun h=>absurd rfl h
  ·exact hc
 ·rw[qbn e,qbn e,hc]
theorem qjY{c:Nat}:∀(l:List Nat) (h h':List Blk),h'.length=h.length->h'[c]?=h[c]?->(qP h' l)[c]?=(qP h l)[c]?
 | [],_,_,_,hc=>hc
 | b::l,h,h',hl,hc=>qjY l _ _ (by have:=yg [b] h;have:=yg [b] h';simp only[qP] at *;omega) (qD5 hl hc)
theorem qAu{p q:Nat->Bool}:∀{l:List Nat},(∀b,b∈l->p b=q b)->l.all p=l.all q
 | [],_=>rfl
 | a::l,h=>by simp only[qOe];rw[h a qMB,qAu fun b hb=>h b (qMF _ hb)]
theorem qnC{b:Nat}{cs:List AV}:∀(l:List Nat) (h:List Blk),(qP h l)[b]?=some (.cells cs)->h[b]?=some (.cells cs)
 | [],_,hc=>hc
 | a::l,h,hc=>by
  have:=qnC l _ hc;by_cases e:b=a
  ·subst e;unfold zF at this;split at this
   ·rename_i hk;rw[qMs (qq hk)] at this;cases this
   ·exact this
  ·rwa [qbn e] at this
theorem qo2{h:List Blk}{b c:Nat}{k:Blk}(hk:h[b]?=some k)(hc:c∈k.menB):∀(l:List Nat),b∈l->c∈qAD h l
 | a::l,hb=>by
  simp only[qAD,qMD];rcases qMy.1 hb with rfl|hb
  ·rw[hk];exact .inl hc
  ·exact .inr (qo2 hk hc l hb)
theorem qrn{h h':List Blk}:∀(l:List Nat),(∀b,b∈l->h'[b]?=h[b]?)->q8W h' l=q8W h l
 | [],_=>rfl
 | b::l,H=>by
  simp only[q8W];rw[H b qMB,qrn l fun c hc=>H c (qMF _ hc)]
theorem qsj{h h':List Blk}:∀(l:List Nat),(∀b,b∈l->h'[b]?=h[b]?)->q6x h' l=q6x h l
 | [],_=>rfl
 | b::l,H=>by
  simp only[q6x];rw[H b qMB,qsj l fun c hc=>H c (qMF _ hc)]
theorem qv6{h h':List Blk}(hl:h'.length=h.length):∀(l:List Nat) (ks g:List Blk),q0S h l ks=some g->g.length=h.length/\∃g':List Blk,q0S h' l ks=some g'/\g'.length=h.length/\∀c:Nat,h'[c]?=h[c]?->g'[c]?=g[c]?
 | [],_,g,hg=>by cases hg;exact⟨rfl,h',rfl,hl,fun _ h=>h⟩
 | b::l,[],g,hg=>by cases hg
 | b::l,k::ks,g,hg=>by
  simp only[q0S] at hg ⊢;split at hg
  case isFalse=>cases hg
  rename_i hk;cases hp:q0S h l ks with
  | none=>rw[hp] at hg;cases hg
  | some g0=>
   rw[hp] at hg;simp only[qMO,qMe] at hg;subst hg;obtain⟨q0,g',q1,q2,q3⟩:=qv6 hl l ks g0 hp;refine⟨by simp[q0],g'.set b k,by rw[if_pos hk,q1];rfl,by simp[q2],fun c hc=>qjc (by rw[q0,q2]) fun _=>q3 c hc⟩
theorem qjS:∀(l:List Nat) (h:List Blk),(qdq h l).length=h.length
 | [],_=>rfl
 | b::l,h=>by
  simp only[qdq];split
  ·rw[qjS l];simp
  ·rw[qjS l]
theorem qok{R:List Nat}:∀(l:List Nat) (h h':List Blk),h'.length=h.length->(∀b,b∈R->h'[b]?=h[b]?)->(∀b,b∈l->b∈R/\∀cs,h[b]?=some (.cells cs)->∀c,c∈AV.menL cs->c∈R) ->
  ∀b,b∈R->(qdq h' l)[b]?=(qdq h l)[b]?
 | [],_,_,_,H,_=>H
 | a::l,h,h',hl,H,hR=>by
  obtain⟨ha,hcs⟩:=hR a qMB;have hR':=fun b hb=>hR b (qMF _ hb);simp only[qdq];rw[H a ha];cases hk:h[a]? with
  | none=>exact qok l h h' hl H hR'
  | some k=>
   cases k<;>simp only<;>first|exact qok l h h' hl H hR'|skip
   rename_i cs;have hm:=hcs cs hk;rw[q1r cs fun c hc=>H c (hm c hc)];refine qok l _ _ (by simp[hl]) (fun b hb=>qjc hl fun _=>H b hb) fun b hb=>⟨(hR' b hb).1,fun cs' hcs' c hc=>?_⟩;by_cases e:b=a
   ·subst e;rw[qMs (qq hk)] at hcs';cases hcs';exact hm c (qfB cs h c hc)
   ·rw[qMh (fun e'=>e e'.symm)] at hcs';exact(hR' b hb).2 cs' hcs' c hc
theorem qAK {G:zj}{h h':List Blk}{R:List Nat}(hl:h'.length=h.length)(H:∀b,b∈R->h'[b]?=h[b]?)(h1:∀b,b∈AV.menL args->b∈R)(h2:∀b,b∈qAD (qP h (args.flatMap zY)) (AV.menL (AV.lendL (qP h (args.flatMap zY)) args))->b∈R) {r:AV×St} (hr:(q0J G args { t:=[],fs:=[],h:=h,pend:=none }).run=some r) :qpW h' args=qpW h args/\∃g',(q0J G args { t:=[],fs:=[],h:=h',pend:=none }).run=some (r.1,{ t:=[],fs:=[],h:=g',pend:=none })/\g'.length=r.2.h.length/\∀b,b∈R->b<h.length->g'[b]?=r.2.h[b]?:=by
 have l1:(qP h' (args.flatMap zY)).length=(qP h (args.flatMap zY)).length:=by rw[yg,yg,hl]
 have H1:∀b,b∈R->(qP h' (args.flatMap zY))[b]?=(qP h (args.flatMap zY))[b]?:=fun b hb=>qjY _ _ _ hl (H b hb);have e1:AV.lendL (qP h' (args.flatMap zY)) args=AV.lendL (qP h (args.flatMap zY)) args:=q1r args fun b hb=>H1 b (h1 b hb);have hfp:∀b,b∈AV.menL (AV.lendL (qP h (args.flatMap zY)) args)->b∈R:=fun b hb=>h1 b (qfB args _ b hb);have e2:=qrn (h:=qP h (args.flatMap zY)) (h':=qP h' (args.flatMap zY)) _ fun b hb=>H1 b (hfp b hb);have hw:qpW h' args=qpW h args:=by unfold qpW;simp only[e1,e2]
 have Hp:∀b,b∈R->(vj h' args)[b]?=(vj h args)[b]?:=by unfold vj;simp only[e1,e2];refine qok _ _ _ (by simp only[yg,hl]) (fun b hb=>qjY _ _ _ l1 (H1 b hb)) fun b hb=>⟨hfp b hb,fun cs hcs c hc=>?_⟩;refine h2 c (qo2 (k:=.cells cs) (b:=b) ?_ hc _ hb);exact qnC _ _ hcs
 have lp:(vj h' args).length=(vj h args).length:=by unfold vj;simp only[qjS,yg,hl]
 refine⟨hw,?_⟩;unfold q0J at hr ⊢;simp only at hr ⊢;have e3:AV.lendL (vj h' args) args=AV.lendL (vj h args) args:=q1r args fun b hb=>Hp b (h1 b hb);have hfp2:∀b,b∈qmj (AV.menL (AV.lendL (vj h args) args))->b∈R:=fun b hb=>h1 b (qfB args _ b (qkb _ hb));rw[e3,qsj _ fun b hb=>Hp b (hfp2 b hb),lp];split at hr
 ·cases hr
 ·obtain⟨r0,k1,k2⟩:=bind_some hr;split at k2
  ·cases k2
  ·rename_i g hput;cases k2;obtain⟨q0,g',q1,q2,q3⟩:=qv6 lp _ _ _ hput;refine⟨g'++(r0.2.drop (qmj (AV.menL (AV.lendL (vj h args) args))).length).map (Blk.ren (qpX (qmj (AV.menL (AV.lendL (vj h args) args))) (vj h args).length)),?_,?_,fun b hb hbl=>?_⟩
   ·rw[Tree.run_bind,k1];simp only[qMG,q1];rfl
   ·simp[q2,q0]
   ·have hbg:b<g.length:=by rw[q0];unfold vj;simp only[qjS,yg];exact hbl
    rw[qMr (by rw[q2,<-q0];exact hbg),qMr hbg];exact q3 b (Hp b hb)
theorem qzg {h h' g:List Blk}{ev:Operand->AV}{v:AV}(hr:(qpD E h ev op).run=some (v,g))(hl:h'.length=h.length)(H:∀b,b∈qEU h ev op++qzL h ev op->h'[b]?=h[b]?)(hg:g.length=h.length) :∃g',(qpD E h' ev op).run=some (v,g')/\g'.length=h'.length/\(∀b,b∈qzL h ev op->g'[b]?=g[b]?)/\∀b,b∉qzL h ev op->g'[b]?=h'[b]?:=by
 have out:∀{h g:List Blk},(qpD E h ev op).run=some (v,g)->g.length=h.length->∀b,b∉qzL h ev op->g[b]?=h[b]?:=by
  intro h g hr hg b hb;rcases qMn b h.length with hlt|hge
  ·exact qtp hr hlt hb
  ·rw[qMA hge,qMA (by omega)]
 suffices hs:qzL h' ev op=qzL h ev op/\∃g',(qpD E h' ev op).run=some (v,g')/\g'.length=g.length/\∀b,b∈qzL h ev op->g'[b]?=g[b]? by obtain⟨e,g',q1,q2,q3⟩:=hs;refine⟨g',q1,by omega,q3,fun b hb=>out q1 (by omega) b (by rw[e];exact hb)⟩
 unfold qpD at hr ⊢;unfold qEU qzL at H;unfold qzL;cases hc:jA ev op with
 | some q=>
  obtain⟨f,args⟩:=q;rw[hc] at hr H;simp only at hr H ⊢;cases hsp:qjr E f with
  | none=>rw[hsp] at hr;cases hr
  | some G=>
   rw[hsp] at hr;simp only at hr ⊢;obtain⟨r,k1,k2⟩:=bind_some hr;simp only[Tree.run,qMe,qMN] at k2;obtain⟨rfl,rfl⟩:=k2;obtain⟨e,g',q1,q2,q3⟩:=qAK hl H (fun b hb=>qN8 _ (qN8 _ hb)) (fun b hb=>qN8 _ (qMX _ hb)) k1;refine⟨e,g',by rw[Tree.run_bind,q1];rfl,q2,fun b hb=>?_⟩;rcases qMn b h.length with hlt|hge
   ·exact q3 b (qMX _ hb) hlt
   ·rw[qMA (by omega),qMA (by omega)]
 | none=>
  rw[hc] at hr H;simp only at hr H ⊢;cases hst:qpp op with
  | false=>rw[hst] at hr;cases hr
  | true=>
   rw[hst] at hr;simp only at hr ⊢;obtain⟨r,k1,k2⟩:=bind_some hr;cases op<;>first|(cases hst;done)|skip
   rename_i t x y;obtain⟨b',z,q1,rfl,q3⟩:=qy6 (show (q06 E h t (ev x) (ev y)).run=some r from k1);simp only[Tree.run,qMe,qMN] at k2;obtain⟨rfl,rfl⟩:=k2;refine⟨trivial,h'.set b' z,?_,by simp[hl],fun b hb=>qjc hl fun _=>H b (qMX _ hb)⟩;rw[Tree.run_bind];have:=q3 h' (H b' (qMX _ (by simp only;rw[q1];exact List.mem_singleton_self _)));unfold qrd;simp only;rw[this];rfl
theorem qGu {h h':List Blk}{ev:Operand->AV}(he:qmW E h ev op=true)(H:∀b,b∈qEU h ev op++qzL h ev op->h'[b]?=h[b]?):qmW E h' ev op=true:=by
 unfold qmW at *;unfold qEU at H;cases hv:qiF op with
 | false=>rw[hv] at he;exact he
 | true=>
  rw[hv] at he;simp only at he ⊢;cases hc:jA ev op with
  | none=>rw[hc] at he;cases he
  | some q=>
   obtain⟨f,args⟩:=q;rw[hc] at he H;simp only at he H ⊢;have hm:∀b,b∈AV.menL args->h'[b]?=h[b]?:=fun b hb=>H b (qN8 _ (qN8 _ hb));rw[q1r args hm];have:(args.flatMap zY).all (qmK h')=(args.flatMap zY).all (qmK h):=qAu fun b hb=>by unfold qmK;rw[hm b (qxl hb)]
   rw[this];exact he
end Go.Eng

namespace Go.Eng
theorem qz9{s:Nat}:∀(l:List AV) (i:Nat) (v:AV),s∉AV.menL l->s∉v.men->s∉AV.menL (l.set i v)
 | [],_,_,h,_=>by simpa using h
 | a::l,0,v,h,hv=>by
  simp only[AV.menL,qMD,not_or] at h;simp only[qMu,AV.menL,qMD,not_or];exact⟨hv,h.2⟩
 | a::l,i+1,v,h,hv=>by
  simp only[AV.menL,qMD,not_or] at h;simp only[qMx,AV.menL,qMD,not_or];exact⟨h.1,qz9 l i v h.2 hv⟩
theorem qDX{dst:Nat->Option Tmp}{V:Nat->AV}{T0:List AV}{L:Nat->Bool}{s:Nat}(h0:s∉AV.menL T0):∀n,(∀j,j<n->L j=true->s∉(V j).men)->s∉AV.menL (TLp dst V T0 L n)
 | 0,_=>h0
 | n+1,h=>by
  have ih:=qDX (dst:=dst) (V:=V) (L:=L) h0 n fun j hj=>h j (by omega);simp only[TLp];split
  ·rename_i hl;cases hd:dst n with
   | none=>exact ih
   | some d=>exact qz9 _ _ _ ih (h n (qO2 n) hl)
  ·exact ih
theorem qDI{all:Array Oper}{k:Nat}{v:AV}{s:Nat}(h:s∉v.men):s∉(qzw all k v).men:=by
 unfold qzw;split
 ·split
  ·simp[AV.men]
  ·exact h
 ·exact h
theorem qwq{n:Nat}(i:Nat):(Array.replicate n false).getD i false=false:=by rcases qMn i n with h|h<;>simp[h]
theorem qIr(listed:Array Bool):∀n,unl listed n<=n
 | 0=>qMg _
 | n+1=>by simp only[unl];have:=qIr listed n;split<;>omega
theorem qHO(all:Array Oper):kO all<=all.size:=by
 unfold kO;simp only;cases hf:(List.range all.toList.length).find? _ with
 | none=>simp
 | some m=>
  have:=qN9 hf;simp at this;simp;omega
theorem qpx(all:Array Oper){i j:Nat}(hj:kO all<=j)(hjn:j<all.size)(hij:i<j):((qi3 all.toList).getD j 0).testBit i=true:=by
 unfold kO at hj;simp only at hj;cases hf:(List.range all.toList.length).find? (fun m=>(List.range all.toList.length).all fun j=>decide (j<m)||(List.range j).all fun i=>((qi3 all.toList).getD j 0).testBit i) with
 | none=>rw[hf] at hj;simp at hj;omega
 | some m=>
  rw[hf] at hj;simp only[qNs] at hj;have h:=qNr hf;rw[qMM] at h;have h2:=h j (qNf.2 (by simpa using hjn));simp only[qNF,decide_eq_true_eq,qMM,qNf] at h2;rcases h2 with h2|h2
  ·omega
  ·exact h2 i hij
section
variable {E:Env} {P:Program} {B:Base} {all:Array Oper} {Q:Exit->Act->World->Prop} {callH:qaa} {n0:Nat}
theorem qE5(hE:E.tok P)(hcH:CallOK E P callH B)(hd:DrawOk all){st':St}(hq:∀X' a',Sim E B X' st' a'->Q .normal a' X'.w):∀(l:List Oper) (i:Nat),all.toList.drop i=l->kO all<=i ->∀(fuel:Nat) (listed:Array Bool) (X:Ctx) (a:Act) (st:St),listed.size=all.size->(∀j,j<i->j<all.size->listed.getD j false=true)->(∀j,i<=j->listed.getD j false=false)->unl listed all.size<=fuel ->Sim E B X st a->(qmb E callH all i l st).run=some st'->wpAnyIn (q55 B.ro) n0 P .any all Q fuel listed a X.w:=by
 intro l;induction l with
 | nil=>
  intro i hl hm fuel listed X a st hsz hlo hhi hun hs h;simp only[qmb,Tree.run,qMe] at h;subst h;have hi:all.size<=i:=by simpa using List.drop_eq_nil_iff.1 hl
  have hr:Region.ready .any all listed=[]:=by
   apply List.eq_nil_iff_forall_not_mem.2;intro j hj;rw[mem_ready] at hj;obtain⟨q1,o',q2,_⟩:=hj;have hj':=(qMk.1 q2).1;have hjt:=hlo j (by omega) hj';have hj2:j<listed.size:=by omega
   rw[qNx,qNV hj2] at hjt q1;simp only[qNs] at hjt q1;rw[hjt] at q1;cases q1
  cases fuel with
  | zero=>exact⟨hr,hq X a hs⟩
  | succ fuel=>exact⟨fun _=>hq X a hs,fun j hj=>by rw[hr] at hj;cases hj⟩
 | cons o rest ih=>
  intro i hl hm fuel listed X a st hsz hlo hhi hun hs h;have hin:i<all.size:=by
   rcases qMn i all.size with h1|h1
   ·exact h1
   ·rw[qNU (by simpa using h1)] at hl;cases hl
  have ho:all[i]?=some o:=by have:=qNi (xs:=all.toList) (i:=i) (j:=0);rw[hl] at this;simpa using this.symm
  have hrest:all.toList.drop (i+1)=rest:=by rw[<-List.drop_drop,hl];rfl
  have hil:i<listed.size:=by omega
  have hcl:qqc all fun j=>listed.getD j false:=by
   intro j oj hj hL e he hb;have hj':=(qMk.1 hj).1;have hji:j<i:=by
    rcases qMn j i with h1|h1
    ·exact h1
    ·have hL':listed.getD j false=true:=hL;rw[hhi j h1] at hL';cases hL'
   have:=hd.edge j oj hj e he hb;exact hlo e.on (by omega) (by omega)
  have hpos:0<unl listed all.size:=by
   rcases qNk (unl listed all.size) with h0|h0
   ·have:=qwf h0 i hin;rw[hhi i (qMg _)] at this;cases this
   ·exact h0
  obtain⟨fuel,rfl⟩:∃f,fuel=f+1:=⟨fuel-1,by omega⟩;have hLi:=hhi i (qMg _);have hone:∀j,j∈Region.ready .any all listed->j=i:=by
   intro j hj;rw[mem_ready] at hj;obtain⟨q1,oj,q2,gedge⟩:=hj;have hj':=(qMk.1 q2).1;have hj2:j<listed.size:=by omega
   have hLj:listed.getD j false=false:=by simpa[qNx,hj2] using q1
   rcases Nat.lt_trichotomy j i with h1|h1|h1
   ·rw[hlo j h1 hj'] at hLj;cases hLj
   ·exact h1
   ·have hedge':∀e,e∈oj.after.toList->Region.binds .any e=true->listed.getD e.on false=true:=fun e he hb=>gedge e (by simpa using he) hb;have hcl':=qoA hsz q2 hcl hedge';have hb':=qpx all (by omega) hj' h1;have:=qvk hd hcl' j i (by show (listed.setIfInBounds j true).getD j false=true;rw[q0E hj2,if_pos rfl]) hb';have h':(listed.setIfInBounds j true).getD i false=true:=this;rw[q0E hj2,if_neg (by omega),hLi] at h';cases h'
  refine⟨fun hr=>?_,fun j hj=>?_⟩
  ·
   exfalso;have:=qz5 hd hsz hr i hin;rw[hLi] at this;cases this
  ·obtain rfl:=hone j hj;have hgo:∀(X'':Ctx) (a'':Act) (s'':St),Sim E B X'' s'' a''->(qmb E callH all (j+1) rest s'').run=some st'->wpAnyIn (q55 B.ro) n0 P .any all Q fuel (listed.setIfInBounds j true) a'' X''.w:=by
    intro X'' a'' s'' hs'' h'';refine ih (j+1) hrest (by omega) fuel _ X'' a'' s'' (by simp[hsz]) (fun k hk hk2=>?_) (fun k hk=>?_) ?_ hs'' h''
    ·rw[q0E hil];split
     ·rfl
     ·exact hlo k (by omega) hk2
    ·rw[q0E hil,if_neg (by omega)];exact hhi k (by omega)
    ·have:=(qAG hil hLi all.size).2 hin;omega
   simp only[qmb] at h;unfold wpOpIn;rw[ho];simp only;cases hwa:q5V all o st.t with
   | none=>rw[hwa] at h;cases h
   | some b=>
    rw[hwa] at h;rw[qaD hs.t hwa];cases b with
    | true=>
     simp only[if_true];obtain⟨s1,k1,k2⟩:=bind_some h;obtain⟨s2,k3,k4⟩:=bind_some k2;exact qqm hE hcH hs k1 fun X'' a'' hs''=>hgo X'' a'' s2 (qtz hs'' k3) k4
    | false=>
     simp only[qMR,if_false];exact⟨fun _ _=>trivial,hgo X _ (qFJ o st) (hs.put (av:=.skip) .skip o.dst) h⟩
end
theorem qBd(h h':List Blk):qe3 (h++h')=qe3 h++qe3 h':=by
 induction h with
 | nil=>rfl
 | cons k h ih=>simp[qe3,ih]
theorem qCl{zs:List Blk}(h:∀z,z∈zs->z.menB=[]){s:Nat}:s∉qe3 zs:=by
 induction zs with
 | nil=>intro h;cases h
 | cons z zs ih=>
  simp only[qe3,qMD,not_or];exact⟨by rw[h z qMB];simp,ih fun z hz=>h z (qMF _ hz)⟩
end Go.Eng

namespace Go.Eng
variable {B:Base}{E:Env}{P:Program}{X:Ctx}{a:Act}{args:List AV}{b:Nat}{e:TypeId}{f:FuncId}{h:List Blk}{k:Nat}{o:Oper}{op:Op}{s:Nat}{sh:List Sh}{st:St}
theorem HSim.renum {X X':Ctx}{f:Nat->Option Nat}(hs:HSim B X)(hm:Move X X' f)(hw:X'.w=X.w)(hM:X'.M=X.M)(g:Nat->Nat)(hget:∀b k,X'.h[b]?=some k->k=.dead\/(X.h[g b]?=some k/\X'.σ b=X.σ (g b)/\k.ren f=k))(hinj:∀b b',g b=g b'->b=b'\/X'.h[b]?=some .dead\/X'.h[b']?=some .dead)(hi:∀b,b<B.imps.length->X'.σ b=X.σ b/\X'.h[b]?=X.h[b]?) (hg:∀b,B.imps.length<=b->B.imps.length<=g b):HSim B X':=by
 have hown:∀b n,X'.own b n->X.own (g b) n:=by
  intro b n ⟨h1,k,h2,h3⟩;rcases hget b k h2 with rfl|⟨q1,q2,_⟩
  ·cases h3
  ·exact⟨q2▸h1,k,q1,h3⟩
 constructor
 ·intro b k h;rcases hget b k h with rfl|⟨q1,q2,q3⟩
  ·trivial
  ·by_cases hd:k=.dead
   ·subst hd;trivial
   ·have:=jn.move hm.toMove0 (b':=b) q2 (fun n _=>by rw[hw]) (hs.blk (g b) k q1)
    rwa [q3] at this
 ·intro b b' n h h';rcases hinj b b' (hs.inj _ _ n (hown b n h) (hown b' n h')) with e|e|e
  ·exact e
  ·obtain⟨_,k,q1,q2⟩:=h;rw[e] at q1;cases q1;cases q2
  ·obtain⟨_,k,q1,q2⟩:=h';rw[e] at q1;cases q1;cases q2
 ·intro b n h;rw[hM];exact hs.notM _ n (hown b n h)
 ·intro n h;rw[hM] at h;rw[hw];exact hs.ltM n h
 ·intro n h;rw[hM];exact hs.M0 n h
 ·intro n h;rw[hM] at h;exact hs.newM n h
 ·rw[hw];exact hs.os
 ·rw[hw];exact hs.tape
 ·rw[hw];exact hs.output
 ·rw[hw];exact hs.size
 ·intro n h1 h2;rw[hw];exact hs.frame n h1 h2
 ·intro b hb;rw[(hi b hb).1];exact hs.imps b hb
 ·intro b hb;rw[(hi b hb).2];exact hs.impc b hb
 ·intro b n h hb;exact hs.fresh _ n (hown b n h) (hg b hb)
 ·intro p hp;rw[hm.kept] at hp;rw[hw];exact hs.kept p hp
theorem not_imp (hs:HSim B X){k:Blk}(h:X.h[b]?=some k)(hk:k.solid=false):B.imps.length<=b:=by
 rcases qMn b B.imps.length with hb|hb
 ·obtain⟨k',h1,h2⟩:=hs.impc b hb;rw[h] at h1;cases h1;rw[hk] at h2;cases h2
 ·exact hb
def Ctx.alias(X:Ctx)(b s:Nat)(k:Blk):Ctx:={ σ:=fun x=>if x=s then X.σ b else X.σ x,h:=(X.h.set b .dead).set s k,w:=X.w,M:=X.M,kept:=X.kept,y:=X.y }
theorem qyL {b s:Nat}{k:Blk}(hb:b<X.h.length)(hsl:s<X.h.length)(x:Nat):(X.alias b s k).h[x]?=if x=s then some k else if x=b then some .dead else X.h[x]?:=by
 show ((X.h.set b .dead).set s k)[x]?=_;by_cases h1:x=s
 ·subst h1;rw[if_pos rfl,qMs (by simpa using hsl)]
 ·rw[if_neg h1,qMh (fun e=>h1 e.symm)];by_cases h2:x=b
  ·subst h2;rw[if_pos rfl,qMs hb]
  ·rw[if_neg h2,qMh (fun e=>h2 e.symm)]
theorem qvy (hs:HSim B X){b s:Nat}{l:R}(hb:X.h[b]?=some (.vec e sh l))(hd:X.h[s]?=some .dead)(hmen:s∉qe3 X.h) :HSim B (X.alias b s (.vec e sh l))/\Move X (X.alias b s (.vec e sh l)) (qep s)/\∀v,Rep X (.vec b) v->Rep (X.alias b s (.vec e sh l)) (.vec s) v:=by
 have hbl:=qq hb;have hsl:=qq hd;have hbs:b≠s:=fun he=>by rw[he,hd] at hb;cases hb
 have hget:=fun x=>qyL (X:=X) (k:=.vec e sh l) hbl hsl x;have hlen:(X.alias b s (.vec e sh l)).h.length=X.h.length:=by simp[Ctx.alias]
 have hm:Move X (X.alias b s (.vec e sh l)) (qep s):=by
  refine Move.of (fun _ h=>h) (fun _ _=>rfl) (fun b1 b2 hb1 h=>?_);have hne:b1≠s:=by intro e;subst e;simp[qep] at h
  have:b2=b1:=by simp[qep,hne] at h;exact h.symm
  subst this;refine⟨by rw[hlen];exact hb1,by simp[Ctx.alias,hne],fun sh1 m ⟨e1,l1,h1,h2⟩=>?_,fun _ _ _ n _ c T fr hc=>⟨c,T,fr,hc,rfl⟩⟩;rw[hget,if_neg hne] at h1;by_cases h3:b2=b
  ·rw[if_pos h3] at h1;rcases h1 with h1|h1<;>cases h1
  ·rw[if_neg h3] at h1;exact⟨e1,l1,h1,h2⟩
 refine⟨hs.renum hm rfl rfl (fun x=>if x=s then b else x) (fun x k h=>?_) (fun x x' h=>?_) (fun x hx=>?_) (fun x hx=>?_),hm,fun v hv=>?_⟩
 ·rw[hget] at h;by_cases h1:x=s
  ·rw[if_pos h1] at h;cases h;right;rw[if_pos h1];exact⟨hb,by simp[Ctx.alias,h1],rfl⟩
  ·rw[if_neg h1] at h;by_cases h2:x=b
   ·rw[if_pos h2] at h;cases h;exact .inl rfl
   ·rw[if_neg h2] at h;right;rw[if_neg h1];exact⟨h,by simp[Ctx.alias,h1],Blk.ren_void k (qqY hmen h)⟩
 ·by_cases h1:x=s
  ·by_cases h2:x'=s
   ·exact .inl (h1.trans h2.symm)
   ·rw[if_pos h1,if_neg h2] at h;right;right;rw[hget,if_neg h2,if_pos h.symm]
  ·by_cases h2:x'=s
   ·rw[if_neg h1,if_pos h2] at h;right;left;rw[hget,if_neg h1,if_pos h]
   ·rw[if_neg h1,if_neg h2] at h;exact .inl h
 ·have h1:=not_imp hs hb rfl;have h2:=not_imp hs hd rfl;exact⟨by simp[Ctx.alias,show x≠s by omega],by rw[hget,if_neg (by omega),if_neg (by omega)]⟩
 ·have h1:=not_imp hs hb rfl;split<;>omega
 ·cases hv with
  | vec _ p n c hlt h=>
   refine .vec s p n c (by rw[hlen];exact hsl) fun sh' m ⟨e',l',q1,q2⟩=>?_;rw[hget,if_pos rfl] at q1;have q3:e'=e/\sh'=sh/\l'=l:=by
    rcases q1 with q1|q1
    ·cases q1;exact⟨rfl,rfl,rfl⟩
    ·cases q1
   obtain⟨rfl,rfl,rfl⟩:=q3;have:=h sh' m ⟨e',l',.inl hb,q2⟩;unfold qxr at this ⊢;have hσ:(X.alias b s (.vec e' sh' l')).σ s=X.σ b:=by simp[Ctx.alias]
   rw[hσ];exact this
theorem qCm (hs:HSim B X){h':List Blk}(hX:X.h=h'++[.dead])(hmen:h'.length∉qe3 h') :HSim B { X with h:=h' }/\Move X { X with h:=h' } (qep h'.length):=by
 have hget:∀(x:Nat) (k:Blk),h'[x]?=some k->X.h[x]?=some k:=fun x k h=>by rw[hX,qMr (qq h)];exact h
 have hm:Move X { X with h:=h' } (qep h'.length):=by
  refine Move.of (fun _ h=>h) (fun _ _=>rfl) (fun b1 b2 hb1 h=>?_);have hne:b1≠h'.length:=by intro e;subst e;simp[qep] at h
  have:b2=b1:=by simp[qep,hne] at h;exact h.symm
  subst this;rw[hX] at hb1;simp only[qMz,qMH,qMU] at hb1;refine⟨by show b2<h'.length;omega,rfl,fun sh1 m ⟨e1,l1,h1,h2⟩=>⟨e1,l1,?_,h2⟩,fun _ _ _ n _ c T fr hc=>⟨c,T,fr,hc,rfl⟩⟩;exact h1.elim (fun h=>.inl (hget _ _ h)) (fun h=>.inr (hget _ _ h))
 refine⟨hs.renum hm rfl rfl id (fun x k h=>.inr ⟨hget x k h,rfl,Blk.ren_void k (qqY hmen h)⟩) (fun x x' h=>.inl h) (fun x hx=>⟨rfl,?_⟩) (fun x hx=>hx),hm⟩;obtain⟨k,h1,h2⟩:=hs.impc x hx;have hxl:x<h'.length:=by
  rcases qMn x h'.length with h|h
  ·exact h
  ·rw[hX,qMv h] at h1;rcases qNO h with h|h
   ·rw[<-h] at h1;simp at h1;subst h1;cases h2
   ·rw[qMA (by simp;omega)] at h1;cases h1
 show h'[x]?=X.h[x]?;rw[hX,qMr hxl]
theorem Sim.moved {X X':Ctx}(hs:Sim E B X st a)(h2:HSim B X')(h3:Move X X' (qep s))(ht:s∉AV.menL st.t)(hf:s∉qnn st.fs):Sim E B X' { st with h:=X'.h } a:=by
 refine⟨h2,rfl,?_,?_,fun x hx=>?_,h3.kept▸hs.df,hs.ni,h3.y.trans hs.y,fun p hp=>h3.kept▸hs.pin p hp⟩
 ·have:=hs.t.ren h3.toMove0
  rwa [AV.renL_void _ ht] at this
 ·have:=hs.fs.ren h3.toMove0
  rwa [qoM _ hf] at this
 ·obtain⟨⟨sh,l,i,off,he⟩,hr⟩:=hs.glob x hx;refine⟨⟨sh,l,i,off,he⟩,hr.move h3.M h3.w ?_⟩;have:=hr.1.ren h3.toMove0;rw[he] at this ⊢;exact this
theorem Rep.voided {X X':Ctx}{s b:Nat}{v:Value}(h:Move X X' (qep s))(hr:Rep X (.vec b) v)(hne:b≠s):Rep X' (.vec b) v:=by have:=hr.ren h.toMove0;simpa[AV.ren,qep,hne] using this
theorem qot {s c:Nat}{k:Blk}(hk:k.menB=[])(hc:c∉qe3 h):c∉qe3 (h.set s k):=by
 induction h generalizing s with
 | nil=>exact hc
 | cons a h ih=>
  simp only[qe3,qMD,not_or] at hc;cases s with
  | zero=>simp only[qMu,qe3,hk,qNv];exact hc.2
  | succ s=>simp only[qMx,qe3,qMD,not_or];exact⟨hc.1,ih hc.2⟩
theorem qq6{c:Nat}:∀(l:List Nat) {h:List Blk},h[c]?=some .dead->(qP h l)[c]?=some .dead
 | [],_,hc=>hc
 | a::l,h,hc=>qq6 l (by
  by_cases e:c=a
  ·subst e;unfold zF;rw[hc];exact hc
  ·rw[qbn e,hc])
theorem qiI{c:Nat}:∀(l:List Nat) {h:List Blk},c∉qe3 h->c∉qe3 (qP h l)
 | [],_,hc=>hc
 | a::l,h,hc=>qiI l (by
  unfold zF;split
  ·exact qot rfl hc
  ·exact hc)
theorem qBI {l:R}{v:Value}(hs:Sim E B X { st with h:=h++[.vec e sh l] } a)(hv:Rep X (.vec h.length) v)(hd:h[s]?=some .dead) (h1:s∉qe3 h) (h2:s∉AV.menL st.t) (h3:s∉qnn st.fs) (n1:h.length∉qe3 h) (n2:h.length∉AV.menL st.t) (n3:h.length∉qnn st.fs) :∃X',X'.w=X.w/\Sim E B X' { st with h:=h.set s (.vec e sh l) } a/\Rep X' (.vec s) v:=by
 have hsl:=qq hd;have hX:X.h=h++[.vec e sh l]:=hs.h;have hb:X.h[h.length]?=some (.vec e sh l):=by rw[hX,qMv (qMg _)];simp
 have hd':X.h[s]?=some .dead:=by rw[hX,qMr hsl];exact hd
 have hm':s∉qe3 X.h:=by rw[hX,qBd];simp[qe3,Blk.menB];exact h1
 obtain⟨g1,g2,g3⟩:=qvy hs.hs hb hd' hm';have s1:=hs.moved g1 g2 h2 h3;have hA:(X.alias h.length s (.vec e sh l)).h=h.set s (.vec e sh l)++[.dead]:=by show (X.h.set h.length .dead).set s (.vec e sh l)=_;rw[hX,List.set_append_right (h:=qMg _),qMS,List.set_append_left (h:=hsl)];rfl
 obtain⟨k1,k2⟩:=qCm g1 hA (by simp only[qNp];exact qot rfl n1);rw[qNp] at k2;have s2:=s1.moved k1 k2 n2 n3;have hne:s≠h.length:=by omega
 exact⟨{ X.alias h.length s (.vec e sh l) with h:=h.set s (.vec e sh l) },rfl,s2,(g3 v hv).voided k2 hne⟩
theorem zt (h:List Blk)(x:AV):(yo h x).length=h.length:=by cases x<;>simp[yo,qeP]
theorem q2T {x:AV}{c:Nat}(hc:c∉x.men):(yo h x)[c]?=h[c]?:=by
 cases x<;>first|rfl|skip
 rename_i b;exact qbn (fun e=>hc (by simp[AV.men,e]))
theorem qnF {x:AV}{c:Nat}(hc:c∉qe3 h):c∉qe3 (yo h x):=by
 cases x<;>first|exact hc|skip
 rename_i b;show c∉qe3 (zF h b);unfold zF;split
 ·rename_i e sh l _;exact qot (k:=.frz e sh l) rfl hc
 ·exact hc
theorem qjW {r:Res}(h:qQ P B X (execOp a.eval o) r){next:Act->World->Prop}{Q:Exit->Act->World->Prop}(hq:∀X' v,HSim B X'->Rep X' r.1 v->(match r.2.2 with|none=>X'.h=r.2.1/\Ext X X'|some b=>X'.h=r.2.1.map (Blk.ren (qep b))/\Move X X' (qep b))->next (a.put o.dst v) X'.w):o.wp P a X.w next Q:=by
 obtain⟨nx,v,X',g1,g2,g3,g4,g5⟩:=h;unfold Oper.wp;rw[g1];rcases g2 with rfl|⟨rfl,rfl⟩
 ·exact hq X' _ g4 g3 g5
 ·exact hq X' _ g4 g3 g5
theorem qHI (hs:s∉qe3 h):h.map (Blk.ren (qep s))=h:=by
 induction h with
 | nil=>rfl
 | cons k h ih=>
  simp only[qe3,qMD,not_or] at hs;simp only[qNj,Blk.ren_void k hs.1,ih hs.2]
theorem qEW {o:Option Blk}(h:qv2 o=true):o=some .dead:=by
 unfold qv2 at h;split at h
 ·rfl
 ·cases h
theorem Sim.ext' {X X':Ctx}{h':List Blk}(hs:Sim E B X st a)(hx:Ext X X')(h4:HSim B X')(hh:X'.h=h'):Sim E B X' { st with h:=h' } a:=by have:=hs.ext hx h4;rw[hh] at this;exact this
theorem qDc {x:AV}{m:R}(hr:vl h x=some (sh,m))(hn:qBB b x=true):b∉x.men:=by
 cases x<;>simp only[vl] at hr<;>first|(cases hr;done)|simp[AV.men]
 rename_i b';intro e;subst e;simp[qBB] at hn
theorem qyJ {h h':List Blk}{x:AV}(H:∀b,b∈x.men->h'[b]?=h[b]?):vl h' x=vl h x:=by cases x<;>simp only[vl];rename_i b;rw[H b (by simp[AV.men])]
mutual
theorem Rep.inB{X:Ctx}:∀{a:AV} {v:Value},Rep X a v->∀b,b∈a.men->b<X.h.length
 | _,_,.undef _,b,h=>by simp[AV.men] at h
 | _,_,.skip,b,h=>by simp[AV.men] at h
 | _,_,.yld,b,h=>by simp[AV.men] at h
 | _,_,.blit _,b,h=>by simp[AV.men] at h
 | _,_,.bool _,b,h=>by simp[AV.men] at h
 | _,_,.ilit _ _,b,h=>by simp[AV.men] at h
 | _,_,.int _ _,b,h=>by simp[AV.men] at h
 | _,_,.str _,b,h=>by simp[AV.men] at h
 | _,_,.nilp,b,h=>by simp[AV.men] at h
 | _,_,.ptr _ _ _ hb _,b,h=>by simp only[AV.men,qMJ] at h;rw[h];exact hb
 | _,_,.eptr _ _ _ _ _ _ _ _ _,b,h=>by simp[AV.men] at h
 | _,_,.mnil _ _ _ _,b,h=>by simp[AV.men] at h
 | _,_,.mptr _ _ _ _ _ _ _ _ _,b,h=>by simp[AV.men] at h
 | _,_,.vptr _ _ _ _ _ hb _ _,b,h=>by simp only[AV.men,qMJ] at h;rw[h];exact hb
 | _,_,.vsub _ _ _ _ _ _ hb _ _,b,h=>by simp only[AV.men,qMJ] at h;rw[h];exact hb
 | _,_,.aptr _ _ _ _ hb _ _,b,h=>by simp only[AV.men,qMJ] at h;rw[h];exact hb
 | _,_,.asub _ _ _ _ _ _ _ _ hb _ _ _ _ _,b,h=>by simp only[AV.men,qMJ] at h;rw[h];exact hb
 | _,_,.nils,b,h=>by simp[AV.men] at h
 | _,_,.imm _ _ _ _,b,h=>by simp[AV.men] at h
 | _,_,.full _ _ _ _ _,b,h=>by simp[AV.men] at h
 | _,_,.vec _ _ _ _ hb _,b,h=>by simp only[AV.men,qMJ] at h;rw[h];exact hb
 | _,_,.nilf,b,h=>by simp[AV.men] at h
 | _,_,.fn _ _ _ _ _ h1 h2,b,h=>by
  simp only[AV.men,qMD] at h;exact h.elim (RepL.inB h1 b) (RepL.inB h2 b)
 | _,_,.agg _ _ h1,b,h=>by simp only[AV.men] at h;exact RepL.inB h1 b h
 | _,_,.tuple _ _ h1,b,h=>by simp only[AV.men] at h;exact RepL.inB h1 b h
 | _,_,.bagg _ _ _ _ _ h1 _,b,h=>by simp only[AV.men] at h;exact RepL.inB h1 b h
theorem RepL.inB{X:Ctx}:∀{l:List AV} {vs:List Value},RepL X l vs->∀b,b∈AV.menL l->b<X.h.length
 | _,_,.nil,b,h=>by simp[AV.menL] at h
 | _,_,.cons h1 h2,b,h=>by
  simp only[AV.menL,qMD] at h;exact h.elim (Rep.inB h1 b) (RepL.inB h2 b)
end
theorem RepLL.inB{X:Ctx}:∀{l:List (List AV)} {vs:List (List Value)},RepLL X l vs->∀b,b∈qnn l->b<X.h.length
 | _,_,.nil,b,h=>by simp[qnn] at h
 | _,_,.cons h1 h2,b,h=>by
  simp only[qnn,qMD] at h;exact h.elim (RepL.inB h1 b) (RepLL.inB h2 b)
theorem qDO{b:Nat}:∀{h:List Blk},b∈qe3 h->∃(i:Nat) (k:Blk),h[i]?=some k/\b∈k.menB
 | [],h=>by cases h
 | k::h,hb=>by
  simp only[qe3,qMD] at hb;rcases hb with hb|hb
  ·exact⟨0,k,rfl,hb⟩
  ·obtain⟨i,k',h1,h2⟩:=qDO hb;exact⟨i+1,k',by simpa using h1,h2⟩
theorem HSim.inB (hs:HSim B X):∀b,b∈qe3 X.h->b<X.h.length:=by
 intro b hb;obtain⟨i,k,h1,h2⟩:=qDO hb;have:=hs.blk i k h1;cases k with
 | cells cs=>obtain⟨_,_,_,_,_,hr⟩:=this;exact hr.inB b h2
 | big cs _ _ _=>obtain⟨_,_,_,_,_,_,hr,_⟩:=this;exact hr.inB b h2
 | vec _ _ _=>simp[Blk.menB] at h2
 | frz _ _ _=>simp[Blk.menB] at h2
 | dead=>simp[Blk.menB] at h2
theorem qyC (hS:E.specs P)(h:qJN E f=some e):qpg P f e:=by
 unfold qJN at h;cases hf:E.dels.find? fun x=>x.1==f with
 | none=>rw[hf] at h;cases h
 | some x=>
  rw[hf] at h;simp only[qMO,qMe] at h;have h1:x.1=f:=by simpa using qNr hf
  have:=hS.dl x (qN9 hf);rw[h1,h] at this;exact this
theorem qxy (_:E.tok P)(_:qpg P f e)(_:HSim B X){vargs:List Value}(_:RepL X args vargs){av:AV}{h':List Blk}(h:(qvg E X.h e args k).run=some (av,h')) (_:X.h[k]?=some .dead) (_:k∉qe3 X.h) :Calls P f vargs.toArray X.w fun x w'=>∃v X',x=.returned v/\X'.w=w'/\Rep X' av v/\HSim B X'/\X'.h=h'/\Move X X' (qep k):=by unfold qvg at h;cases h
theorem qLW {args:Array Operand}{tys:Array TypeId}(hop:o.op=.call { callee:=.builtin .append,args:=args,argTypes:=tys }) :∃ty cs,execOp a.eval o=builtin .append tys ty cs ((args.toList.map a.eval).toArray):=by
 have hA:args.map a.eval=(args.toList.map a.eval).toArray:=by apply qNt;simp
 refine⟨o.type,args.map fun|.const _=>true|_=>false,?_⟩;unfold execOp;rw[hop,<-hA];rfl
theorem qoH {xs:List Operand}(h:qox op=some (f,xs)):∃args tys,op=.call { callee:=.value (.func f),args:=args,argTypes:=tys }/\xs=args.toList:=by
 unfold qox at h;split at h
 ·cases h;exact⟨_,_,rfl,rfl⟩
 ·cases h
theorem qFt {args:Array Operand}{tys:Array TypeId}(hop:o.op=.call { callee:=.value (.func f),args:=args,argTypes:=tys })(he:∀args w,(callFunc f args).run P w=.ok (.enter f args) w) {next:Act->World->Prop} {Q:Exit->Act->World->Prop} {K:Value->World->Prop} (hc:Calls P f (args.toList.map a.eval).toArray X.w fun x w'=>∃v,x=.returned v/\K v w')(hq:∀v w',K v w'->next (a.put o.dst v) w'):o.wp P a X.w next Q:=by
 unfold Oper.wp;have hrun:(execOp a.eval o).run P X.w=.ok (.enter f (args.toList.map a.eval).toArray) X.w:=by
  simp only[execOp,hop,resolve,Act.eval,Deferred.ofValue,qMj,qML,qMq,invoke];have:(#[]:Array Value)++args.map a.eval++#[]=(args.toList.map a.eval).toArray:=by apply qNt;simp
  have h2:=he (args.toList.map a.eval).toArray X.w;rw[<-this] at h2;rw[<-this];exact h2
 rw[hrun];refine hc.mono fun x w' ⟨v,e1,e2⟩=>?_;subst e1;exact hq v w' e2
theorem qwo (hE:E.tok P)(hS:E.specs P){callS:List Blk->q87}(hs:Sim E B X st a){av:AV}{h':List Blk}(h:(q5o E callS st.h (E.opd st.t) o.op s).run=some (av,h')) (hl:qus E o.op=true) (h1:s∉qe3 st.h) (h2:s∉AV.menL st.t) (h3:s∉qnn st.fs) (n1:st.h.length∉qe3 st.h) (n2:st.h.length∉AV.menL st.t) (n3:st.h.length∉qnn st.fs){next:Act->World->Prop} {Q:Exit->Act->World->Prop} (hq:∀X' v,Sim E B X' { st with h:=h' } a->Rep X' av v->next (a.put o.dst v) X'.w):o.wp P a X.w next Q:=by
 unfold q5o at h;rw[hl] at h;simp only at h;cases hdd:qv2 st.h[s]? with
 | false=>rw[hdd] at h;cases h
 | true=>
  rw[hdd] at h;have hd:=qEW hdd;simp only at h;split at h
  ·
   rename_i t len parts hop;obtain⟨r,k1,k2⟩:=bind_some h;simp only[Tree.run,qMe,qMN] at k2;obtain⟨rfl,rfl⟩:=k2;obtain⟨v0,z⟩:=r;have hvz:v0=.vec st.h.length/\∃e sh l,z=.vec e sh l:=by
    have k1:=k1;rw[hop] at k1;unfold qkU at k1;simp only at k1;split at k1
    ·split at k1
     ·split at k1
      ·split at k1
       ·split at k1
        ·cases k1;exact⟨rfl,_,_,_,rfl⟩
        ·cases k1
       ·cases k1
      ·cases k1
     ·cases k1
    ·cases k1
   obtain⟨rfl,e,sh,l,rfl⟩:=hvz;refine qjW (qno hE hs (qEO k1)) fun X' v g4 g3 g5=>?_;have s1:Sim E B X' { st with h:=st.h++[.vec e sh l] } a:=hs.ext' g5.2 g4 g5.1;obtain⟨X2,e2,s2,r2⟩:=qBI s1 g3 hd h1 h2 h3 n1 n2 n3;rw[<-e2];exact hq X2 v s2 r2
  ·
   rename_i t hop;unfold qx7 at h;split at h
   case h_2=>cases h
   rename_i z hz;split at h
   case h_2=>cases h
   simp only[Tree.run,qMe,qMN] at h;obtain⟨rfl,rfl⟩:=h;exact qwt hE hs hop hz hd h1 h2 h3 hq
  ·
   rename_i args tys hop;obtain⟨ty,cs,hrun⟩:=qLW (a:=a) hop;have hargs:=q3Q hs args.toList;unfold qA2 at h;generalize args.toList.map (E.opd st.t)=als at h hargs;generalize args.toList.map a.eval=avs at hrun hargs;split at h
   case h_2=>cases h
   rename_i t t' sa xa htys;by_cases htt:t=t'
   ·subst htt;rw[if_pos rfl] at h;cases hargs with
    | cons hsa hargs=>cases hargs with
     | cons hxa hargs=>
     cases hargs;rename_i vs vx;have hrun':execOp a.eval o=(do pure (.value (<-Builtin.append_ #[t,t] ty #[vs,vx])):Sem Next):=by rw[hrun];obtain⟨tys⟩:=tys;simp only at htys;subst htys;rfl
     unfold qxM at h;cases htd:(E.ty t).d<;>rw[htd] at h<;>simp only at h<;>first|(cases h;done)|skip
     rename_i e es;obtain⟨ht,rfl⟩:=q0W hE htd;split at h
     case h_2=>cases h
     rename_i sh sh' m hsh hro;by_cases hc:(sh.length=P.cellsOf e/\0<P.cellsOf e/\(E.ty e).zero.length=P.cellsOf e)/\Sh.beqL sh sh'=true
     ·rw[if_pos hc] at h;obtain⟨⟨hc1,hc2,hc4⟩,hbq⟩:=hc;obtain rfl:=Sh.beqL_eq _ _ hbq;obtain⟨i,z,he⟩:=qDB hE hc2 hc4;split at h
      ·
       obtain⟨g1,g2⟩:=brR h;simp only[Tree.run,qMe,qMN] at g2;obtain⟨rfl,rfl⟩:=g2;have hh:(qnD (qtZ (E.ty e).bytes) X.h e sh .nils xa).run=some (.vec X.h.length,yo X.h xa++[.vec e sh m],none):=by unfold qnD;rw[hs.h,hro];simp only;rw[if_pos hbq];simp only[Tree.run,g1]
       have hg:=qgh (ty:=ty) hs.hs ht hc2 hc1 he hsa hxa hh;rw[<-hrun'] at hg;refine qjW hg fun X' v g4 g3 g5=>?_;have hfl:(yo st.h xa).length=st.h.length:=zt _ _;have s1:Sim E B X' { st with h:=yo st.h xa++[.vec e sh m] } a:=hs.ext' g5.2 g4 (by rw[g5.1,hs.h]);rw[hs.h,<-hfl] at g3;have hxs:s∉xa.men:=fun hm=>by
        cases xa<;>simp only[vl] at hro<;>first|(cases hro;done)|(simp[AV.men] at hm;done)|skip
        simp only[AV.men,qMJ] at hm;subst hm;rw[hd] at hro;cases hro
       obtain⟨X2,e2,s2,r2⟩:=qBI s1 g3 (by rw[q2T hxs];exact hd) (qnF h1) h2 h3 (by rw[hfl];exact qnF n1) (by rw[hfl];exact n2) (by rw[hfl];exact n3);rw[<-e2];exact hq X2 v s2 r2
      ·
       rename_i b;split at h
       case h_2=>cases h
       rename_i e' sh'' l hbk;by_cases hq2:(Sh.beqL sh sh''=true/\e=e')/\qBB b xa=true
       ·rw[if_pos hq2] at h;obtain⟨⟨hbq2,rfl⟩,hnv⟩:=hq2;obtain rfl:=Sh.beqL_eq _ _ hbq2;obtain⟨g1,g2⟩:=brR h;simp only[Tree.run,qMe,qMN] at g2;obtain⟨rfl,rfl⟩:=g2;have hbx:=qDc hro hnv;have hxs:s∉xa.men:=fun hm=>by
         cases xa<;>simp only[vl] at hro<;>first|(cases hro;done)|(simp[AV.men] at hm;done)|skip
         simp only[AV.men,qMJ] at hm;subst hm;rw[hd] at hro;cases hro
        have hbs:b≠s:=fun he=>by rw[he,hd] at hbk;cases hbk
        have hb':X.h[b]?=some (.vec e sh l):=by rw[hs.h];exact hbk
        have hd':X.h[s]?=some .dead:=by rw[hs.h];exact hd
        obtain⟨a1,a2,a3⟩:=qvy hs.hs hb' hd' (by rw[hs.h];exact h1);have hbl:=qq hbk;have hsl:=qq hd;have ag:∀x,(X.alias b s (.vec e sh l)).h[x]?=if x=s then some (.vec e sh l) else if x=b then some .dead else st.h[x]?:=fun x=>by rw[qyL (by rw[hs.h];exact hbl) (by rw[hs.h];exact hsl),hs.h]
        have hxr:vl (X.alias b s (.vec e sh l)).h xa=some (sh,m):=by rw[qyJ (h:=st.h) fun c hc=>by have z1:c≠s:=fun e=>hxs (e▸hc);have z2:c≠b:=fun e=>hbx (e▸hc);rw[ag,if_neg z1,if_neg z2]];exact hro
        have hxrep:Rep (X.alias b s (.vec e sh l)) xa vx:=by
         have:=hxa.ren a2.toMove0
         rwa [AV.ren_void xa hxs] at this
        have hfin:(yo (X.alias b s (.vec e sh l)).h xa).set s (.vec e sh (zR l m))=((yo st.h xa).set b .dead).set s (.vec e sh (zR l m)):=by
         apply qN5;intro x;by_cases x1:x=s
         ·subst x1;rw[qMs (by rw[zt];simp[Ctx.alias,hs.h];exact hsl),qMs (by simp[zt];exact hsl)]
         ·rw[qMh (fun e=>x1 e.symm),qMh (fun e=>x1 e.symm)];by_cases x2:x=b
          ·subst x2;rw[qMs (by rw[zt];exact hbl),q2T hbx,ag,if_neg x1,if_pos rfl]
          ·rw[qMh (fun e=>x2 e.symm)];cases xa<;>first|(show (X.alias b s (.vec e sh l)).h[x]?=st.h[x]?;rw[ag,if_neg x1,if_neg x2];done)|skip
           rename_i b';have y1:b'≠s:=fun e=>hxs (by simp[AV.men,e]);have y2:b'≠b:=fun e=>hbx (by simp[AV.men,e]);have y3:=ag b';rw[if_neg y1,if_neg y2] at y3;unfold yo zF;simp only[y3];cases hk:st.h[b']? with
           | none=>simp only;rw[ag,if_neg x1,if_neg x2]
           | some k=>
            cases k<;>simp only<;>first|(rw[ag,if_neg x1,if_neg x2];done)|skip
            by_cases x3:x=b'
            ·subst x3;rw[qMs (by simp[Ctx.alias,hs.h];exact qq hk),qMs (qq hk)]
            ·rw[qMh (fun e=>x3 e.symm),qMh (fun e=>x3 e.symm),ag,if_neg x1,if_neg x2]
        have hh:(qnD (qtZ (E.ty e).bytes) (X.alias b s (.vec e sh l)).h e sh (.vec s) xa).run=some (.vec s,(yo (X.alias b s (.vec e sh l)).h xa).set s (.vec e sh (zR l m)),some s):=by
         unfold qnD;rw[hxr];simp only;rw[if_pos hbq,ag,if_pos rfl];simp only;rw[if_pos ⟨hbq,trivial⟩];unfold qFX;cases xa<;>simp only[yo]<;>first|(simp only[Tree.run,g1];done)|skip
         rename_i b';rw[if_neg (fun e=>hxs (by simp[AV.men,<-e]))];simp only[Tree.run,g1]
        have hg:=qgh (ty:=ty) a1 ht hc2 hc1 he (a3 _ hsa) hxrep hh;rw[<-hrun'] at hg;have hg':qQ P B (X.alias b s (.vec e sh l)) (execOp a.eval o) (.vec s,(yo (X.alias b s (.vec e sh l)).h xa).set s (.vec e sh (zR l m)),some s):=hg;have s0:=hs.moved a1 a2 h2 h3;have hw:(X.alias b s (.vec e sh l)).w=X.w:=rfl;rw[<-hw];refine qjW hg' fun X' v g4 g3 g5=>?_;obtain⟨g5,g6⟩:=g5;simp only at g5 g6;rw[hfin,qHI (qot rfl (qot rfl (qnF h1)))] at g5;have s1:=s0.moved g4 g6 h2 h3;have:({ ({ st with h:=(X.alias b s (.vec e sh l)).h }:St) with h:=X'.h }:St)={ st with h:=((yo st.h xa).set b .dead).set s (.vec e sh (zR l m)) }:=by rw[g5]
        rw[this] at s1;exact hq X' v s1 g3
       ·rw[if_neg hq2] at h;cases h
      ·
       rename_i sh'' l;split at h
       case isFalse=>cases h
       rename_i hbq2;obtain⟨g0,h⟩:=brR h;obtain⟨g1,g2⟩:=brR h;simp only[Tree.run,qMe,qMN] at g2;obtain⟨rfl,rfl⟩:=g2;have hh:(qnD (qtZ (E.ty e).bytes) X.h e sh (.full sh'' l) xa).run=some (.vec X.h.length,yo X.h xa++[.vec e sh (zR l m)],none):=by unfold qnD;rw[hs.h,hro];simp only;rw[if_pos hbq,if_pos hbq2];simp only[Tree.run,g0,g1]
       have hg:=qgh (ty:=ty) hs.hs ht hc2 hc1 he hsa hxa hh;rw[<-hrun'] at hg;refine qjW hg fun X' v g4 g3 g5=>?_;have hfl:(yo st.h xa).length=st.h.length:=zt _ _;have s1:Sim E B X' { st with h:=yo st.h xa++[.vec e sh (zR l m)] } a:=hs.ext' g5.2 g4 (by rw[g5.1,hs.h]);rw[hs.h,<-hfl] at g3;have hxs:s∉xa.men:=fun hm=>by
        cases xa<;>simp only[vl] at hro<;>first|(cases hro;done)|(simp[AV.men] at hm;done)|skip
        simp only[AV.men,qMJ] at hm;subst hm;rw[hd] at hro;cases hro
       obtain⟨X2,e2,s2,r2⟩:=qBI s1 g3 (by rw[q2T hxs];exact hd) (qnF h1) h2 h3 (by rw[hfl];exact qnF n1) (by rw[hfl];exact n2) (by rw[hfl];exact n3);rw[<-e2];exact hq X2 v s2 r2
      ·cases h
     ·rw[if_neg hc] at h;cases h
   ·rw[if_neg htt] at h;cases h
  ·
   rename_i _ _ hno;clear hno;unfold qxc at h;split at h
   case h_2=>cases h
   rename_i f xs hcf;obtain⟨args,tys,hop,rfl⟩:=qoH hcf;have hargs:=q3Q hs args.toList;split at h
   ·rename_i e hdf;have hD:=qyC hS hdf;rw[<-hs.h] at h hd h1;refine qFt hop hD.1 (K:=fun v w'=>∃X',X'.w=w'/\Rep X' av v/\HSim B X'/\X'.h=h'/\Move X X' (qep s)) ((qxy hE hD hs.hs hargs h hd h1).mono fun x w' ⟨v,X',e0,e1,e2,e3,e4,e5⟩=>⟨v,e0,X',e1,e2,e3,e4,e5⟩) fun v w' ⟨X',e1,e2,e3,e4,e5⟩=>?_;subst e1;have:=hs.moved e3 e5 h2 h3;rw[e4] at this;exact hq X' v this e2
   ·unfold qFq at h;split at h
    case h_2=>cases h
    rename_i G hf;split at h
    case h_2=>cases h
    rename_i hme;obtain⟨r,k1,k2⟩:=bind_some h;split at k2
    case h_2=>cases k2
    rename_i e sh l;simp only[Tree.run,qMe,qMN] at k2;obtain⟨rfl,rfl⟩:=k2;have hG:=hS.sp G (qN9 hf);have hfe:G.1=f:=by simpa using qNr hf
    rw[hfe] at hG;generalize args.toList.map (E.opd st.t)=azz at *;have hmen:AV.menL (AV.lendL (qP st.h (azz.flatMap zY)) azz)=[]:=by simpa using hme
    have hcs:(q0J G.2 azz st).run=some (.vec (qP st.h (azz.flatMap zY)).length,{ st with h:=qP st.h (azz.flatMap zY)++[.vec e sh l] }):=by
     unfold q0J;have hpr:vj st.h azz=qP st.h (azz.flatMap zY):=by unfold vj;simp only[hmen,q8W,qP,qdq]
     simp only[hpr,hmen,qmj,q6x];rw[AV.renL_of_men _ _ hmen,Tree.run_bind,k1];simp only[qMG,q0S,qMU,List.drop_zero,qNj,List.map_nil];rfl
    have hfl:=yg (azz.flatMap zY) st.h;refine qFt hop hG.1 (K:=fun v w'=>∃X',X'.w=w'/\Rep X' (.vec (qP st.h (azz.flatMap zY)).length) v/\Sim E B X' { st with h:=qP st.h (azz.flatMap zY)++[.vec e sh l] } a) ((q8D hG hs hargs hcs).mono fun x w' ⟨v,X',e1,e2,e3,e4⟩=>⟨v,e1,X',e2,e3,e4⟩) fun v w' ⟨X',e1,e2,e3⟩=>?_;subst e1;obtain⟨X2,e4,s2,r2⟩:=qBI e3 e2 (qq6 _ hd) (qiI _ h1) h2 h3 (by rw[hfl];exact qiI _ n1) (by rw[hfl];exact n2) (by rw[hfl];exact n3);rw[<-e4];exact hq X2 v s2 r2
def qfN(w:List Nat)(k h:List Blk):List Blk:=h.mapIdx fun b x=>if b∈w then k.getD b .dead else x
theorem qDf (w:List Nat)(k h:List Blk):(qfN w k h).length=h.length:=by simp[qfN]
theorem qk2 {w:List Nat}{k h:List Blk}(hb:b∉w):(qfN w k h)[b]?=h[b]?:=by
 unfold qfN;rw[List.getElem?_mapIdx];cases h[b]? with
 | none=>rfl
 | some x=>simp[hb]
theorem qj3 {w:List Nat}{k h:List Blk}(hb:b∈w)(hk:k.length=h.length):(qfN w k h)[b]?=k[b]?:=by
 unfold qfN;rw[List.getElem?_mapIdx];rcases qMn b h.length with hl|hl
 ·rw[qMl hl,qMl (hk▸hl)];simp[hb,qMl (hk▸hl)]
 ·rw[qMA hl,qMA (by omega)];rfl
theorem q2K {w:List Nat}{k h k':List Blk}(hk:k.length=h.length)(h1:∀b,b∈w->k'[b]?=k[b]?)(h2:∀b,b∉w->k'[b]?=h[b]?):k'=qfN w k h:=by
 apply qN5;intro b;by_cases hb:b∈w
 ·rw[h1 b hb,qj3 hb hk]
 ·rw[h2 b hb,qk2 hb]
theorem qwc {callS:List Blk->q87}{f g:Operand->AV}(hfg:∀x∈op.operands.toList,f x=g x):q5o E callS h f op k=q5o E callS h g op k:=by
 unfold q5o;cases hl:qus E op with
 | false=>simp only;rw[qwY hfg,(qs5 hfg).1,(qs5 hfg).2]
 | true=>
  simp only;cases qv2 h[k]? with
  | false=>rfl
  | true=>
   simp only;split
   ·rw[qyx hfg]
   ·rfl
   ·rename_i args tys;have:args.toList.map f=args.toList.map g:=qNo fun y hy=>hfg y (by simpa[Op.operands,Call.operands] using hy);rw[this]
   ·unfold qxc;cases hc:qox op with
    | none=>rfl
    | some q=>
     obtain⟨fn,xs⟩:=q;obtain⟨args,tys,rfl,rfl⟩:=qoH hc;have:args.toList.map f=args.toList.map g:=qNo fun y hy=>hfg y (by simp[Op.operands,Call.operands];exact .inr (by simpa using hy));simp only[this]
theorem qAH {h h':List Blk}{ev:Operand->AV}{t:TypeId}{len:Nat}{ps:Array (Nat×Operand)}(hl:h'.length=h.length):qkU E h' ev (.buildSlice t len ps)=qkU E h ev (.buildSlice t len ps):=by
 unfold qkU;simp only;split
 ·split
  ·split
   ·split
    ·rename_i hc;rw[qsn (h':=h) _ _ hc.2,hl]
    ·rfl
   ·rfl
  ·rfl
 ·rfl
theorem qDU {h h':List Blk}{x:AV}{c:Nat}(H:∀b,b∈x.men->h'[b]?=h[b]?)(hc:h'[c]?=h[c]?)(hl:h'.length=h.length):(yo h' x)[c]?=(yo h x)[c]?:=by
 cases x<;>first|exact hc|skip
 rename_i b;have hb:=H b (by simp[AV.men]);show (zF h' b)[c]?=(zF h b)[c]?;unfold zF;rw[hb];split
 ·rename_i e sh l hv;by_cases hcb:c=b
  ·subst hcb;rw[qMs (by rw[hl];exact qq hv),qMs (qq hv)]
  ·rw[qMh (fun e=>hcb e.symm),qMh (fun e=>hcb e.symm)];exact hc
 ·exact hc
theorem qxt {h h':List Blk}{t:TypeId}{s x u:AV}{r:List Blk}{R:List Nat}(hR:∀b,(b=k\/b∈s.men\/b∈x.men)->b∈R)(H:∀b,b∈R->h'[b]?=h[b]?)(hl:h'.length=h.length)(hr:(qxM E h t s x k).run=some (u,r)):r.length=h.length/\(∀b,b∉R->r[b]?=h[b]?)/\∃r',(qxM E h' t s x k).run=some (u,r')/\r'.length=h.length/\(∀b,b∉R->r'[b]?=h'[b]?)/\(∀b,b∈R->r'[b]?=r[b]?):=by
 have hk:∀b,b∉R->b≠k:=fun b hb e=>hb (hR b (.inl e));have hx:∀b,b∉R->b∉x.men:=fun b hb e=>hb (hR b (.inr (.inr e)));have hro:vl h' x=vl h x:=qyJ fun b hb=>H b (hR b (.inr (.inr hb)));have hfa:∀c,c∈R->(yo h' x)[c]?=(yo h x)[c]?:=fun c hc=>qDU (fun b hb=>H b (hR b (.inr (.inr hb)))) (H c hc) hl;unfold qxM at hr ⊢;cases htd:(E.ty t).d<;>rw[htd] at hr<;>simp only at hr ⊢<;>first|(cases hr;done)|skip
 rename_i e es;rw[hro];split at hr
 case h_2=>cases hr
 rename_i sh sh' m hsh hrw;split at hr
 case isFalse=>cases hr
 rename_i hc;split at hr
 ·
  obtain⟨g1,g2⟩:=brR hr;simp only[Tree.run,qMe,qMN] at g2;obtain⟨rfl,rfl⟩:=g2;refine⟨by simp[zt],fun b hb=>?_,(yo h' x).set k (.vec e sh m),?_,by simp[zt,hl],fun b hb=>?_,fun b hb=>?_⟩
  ·rw[qMh (fun e=>hk b hb e.symm),q2T (hx b hb)]
  ·simp only[if_pos hc,Tree.run,g1]
  ·rw[qMh (fun e=>hk b hb e.symm),q2T (hx b hb)]
  ·exact qjc (by simp[zt,hl]) fun _=>hfa b hb
 ·rename_i b0;split at hr
  case h_2=>cases hr
  rename_i e' sh'' l hbk;split at hr
  case isFalse=>cases hr
  rename_i hq;obtain⟨g1,g2⟩:=brR hr;simp only[Tree.run,qMe,qMN] at g2;obtain⟨rfl,rfl⟩:=g2;have hb0:b0∈R:=hR b0 (.inr (.inl (by simp[AV.men])));have hs:∀b,b∉R->b≠b0:=fun b hb e=>hb (e▸hb0);refine⟨by simp[zt],fun b hb=>?_,((yo h' x).set b0 .dead).set k (.vec e sh (zR l m)),?_,by simp[zt,hl],fun b hb=>?_,fun b hb=>?_⟩
  ·rw[qMh (fun e=>hk b hb e.symm),qMh (fun e=>hs b hb e.symm),q2T (hx b hb)]
  ·simp only[if_pos hc,H b0 hb0,hbk,if_pos hq,Tree.run,g1]
  ·rw[qMh (fun e=>hk b hb e.symm),qMh (fun e=>hs b hb e.symm),q2T (hx b hb)]
  ·exact qjc (by simp[zt,hl]) fun _=>qjc (by simp[zt,hl]) fun _=>hfa b hb
 ·
  rename_i sh'' l;split at hr
  case isFalse=>cases hr
  rename_i hq;obtain⟨g0,hr⟩:=brR hr;obtain⟨g1,g2⟩:=brR hr;simp only[Tree.run,qMe,qMN] at g2;obtain⟨rfl,rfl⟩:=g2;refine⟨by simp[zt],fun b hb=>?_,(yo h' x).set k (.vec e sh (zR l m)),?_,by simp[zt,hl],fun b hb=>?_,fun b hb=>?_⟩
  ·rw[qMh (fun e=>hk b hb e.symm),q2T (hx b hb)]
  ·simp only[if_pos hc,if_pos hq,Tree.run,g0,g1]
  ·rw[qMh (fun e=>hk b hb e.symm),q2T (hx b hb)]
  ·exact qjc (by simp[zt,hl]) fun _=>hfa b hb
 ·cases hr
theorem qsg (l m:List AV):AV.menL (l++m)=AV.menL l++AV.menL m:=by
 induction l with
 | nil=>rfl
 | cons a l ih=>simp only[qNE,AV.menL,ih,qMK]
theorem qya {h h':List Blk}{u:AV}{r:List Blk}{R:List Nat}(_:∀b,(b=k\/b∈AV.menL args)->b∈R)(_:∀b,b∈R->h'[b]?=h[b]?)(_:h'.length=h.length)(hr:(qvg E h e args k).run=some (u,r)):r.length=h.length/\(∀b,b∉R->r[b]?=h[b]?)/\∃r',(qvg E h' e args k).run=some (u,r')/\(∀b,b∉R->r'[b]?=h'[b]?)/\(∀b,b∈R->r'[b]?=r[b]?):=by unfold qvg at hr;cases hr
theorem qGV {h h':List Blk}{ev:Operand->AV}{R:List Nat}(hR:qJP E ev op=some R)(H:∀b,b∈R->h'[b]?=h[b]?):qmW E h' ev op=qmW E h ev op:=by
 unfold qmW;unfold qJP at hR;cases hv:qiF op with
 | false=>rfl
 | true=>
  rw[hv] at hR;simp only at hR ⊢;cases hc:jA ev op with
  | none=>rfl
  | some q=>
   obtain⟨f,args⟩:=q;rw[hc] at hR;simp only at hR ⊢;cases hs:qjr E f with
   | none=>rfl
   | some G=>
    rw[hs] at hR;simp only[qMe] at hR ⊢;subst hR;rw[q1r args H];have:(args.flatMap zY).all (qmK h')=(args.flatMap zY).all (qmK h):=qAu fun b hb=>by unfold qmK;rw[H b (qxl hb)]
    rw[this]
theorem qx1 {callS:List Blk->q87}(hmo:q7t E callS){h h':List Blk}{ev:Operand->AV}{u:AV}{r:List Blk}{R:List Nat}(hR:(vO E h ev op k u r).r=some R)(H:∀b,b∈R->h'[b]?=h[b]?) (hl:h'.length=h.length) (hr:(q5o E callS h ev op k).run=some (u,r)) :r.length=h.length/\(∀b,b∉(vO E h ev op k u r).w->r[b]?=h[b]?)/\(q5o E callS h' ev op k).run=some (u,qfN (vO E h ev op k u r).w r h'):=by
 unfold q5o vO at *;cases hloc:qus E op with
 | false=>
  rw[hloc] at hr hR;simp only at hr hR ⊢;cases heff:qmW E h ev op with
  | true=>
   rw[heff] at hr hR;simp only[qMe] at hr hR ⊢;subst hR;obtain⟨q,k1,k2⟩:=bind_some hr;split at k2
   case h_2=>cases k2
   rename_i hbq;cases k2;have hg:=qNd hbq;obtain⟨g',q1,q2,q3,q4⟩:=qzg k1 hl H hg;have heff':qmW E h' ev op=true:=qGu heff H;refine⟨hg,fun b hb=>?_,?_⟩
   ·rcases qMn b h.length with hlt|hge
    ·exact qtp k1 hlt hb
    ·rw[qMA hge,qMA (by simp only at hg;omega)]
   ·rw[heff'];simp only;rw[Tree.run_bind,q1];simp only[qMG];rw[show Nat.beq g'.length h'.length=true from by rw[q2];exact Nat.beq_refl _];simp only[Tree.run];rw[<-q2K (k':=g') (by simp only at hg;omega) q3 q4]
  | false=>
   rw[heff] at hr hR;simp only at hr hR ⊢;obtain⟨v,k1,k2⟩:=bind_some hr;simp only[Tree.run,qMe,qMN] at k2;obtain⟨rfl,rfl⟩:=k2;refine⟨rfl,fun _ _=>rfl,?_⟩;rw[qGV hR H,heff];simp only;rw[Tree.run_bind,qy0 hmo hR H k1];simp only[qMG,Tree.run];rw[<-q2K (k':=h') hl.symm (fun b hb=>by cases hb) (fun _ _=>rfl)]
 | true=>
  rw[hloc] at hr hR;simp only[qMe] at hr hR ⊢;subst hR;have hk:=H k qMB;cases hdd:qv2 h[k]? with
  | false=>rw[hdd] at hr;cases hr
  | true=>
   rw[hdd] at hr;rw[hk,hdd];simp only at hr ⊢;split at hr
   ·rename_i t len parts;obtain⟨q,k1,k2⟩:=bind_some hr;simp only[Tree.run,qMe,qMN] at k2;obtain⟨rfl,rfl⟩:=k2;refine⟨by simp,fun b hb=>?_,?_⟩
    ·simp only[qMy,not_or] at hb;rw[qMh (fun e=>hb.1 e.symm)]
    ·rw[qAH hl,Tree.run_bind,k1];simp only[qMG,Tree.run];rw[<-q2K (k':=h'.set k q.2) (by simp[hl]) (fun b hb=>qjc hl fun _=>H b hb) (fun b hb=>by simp only[qMy,not_or] at hb;rw[qMh (fun e=>hb.1 e.symm)])]
   ·rename_i t;unfold qx7 at hr ⊢;split at hr
    case h_2=>cases hr
    split at hr
    case h_2=>cases hr
    simp only[Tree.run,qMe,qMN] at hr;obtain⟨rfl,rfl⟩:=hr;rename_i _ z hz _ hzm;refine⟨by simp,fun b hb=>?_,?_⟩
    ·simp only[qMy,not_or] at hb;rw[qMh (fun e=>hb.1 e.symm)]
    ·simp only[Tree.run];rw[<-q2K (k':=h'.set k z) (by simp[hl]) (fun b hb=>qjc hl fun _=>H b hb) (fun b hb=>by simp only[qMy,not_or] at hb;rw[qMh (fun e=>hb.1 e.symm)])]
   ·rename_i args tys;have hmen:qtD ev (.call { callee:=.builtin .append,args:=args,argTypes:=tys })=AV.menL (args.toList.map ev):=by unfold qtD jA;simp[Op.operands,Call.operands]
    rw[hmen] at H ⊢;unfold qA2 at hr ⊢;generalize args.toList.map ev=als at *;split at hr
    case h_2=>cases hr
    rename_i t t' sa xa htys;split at hr
    case isFalse=>cases hr
    rename_i htt;have hR':∀b,(b=k\/b∈sa.men\/b∈xa.men)->b∈k::AV.menL [sa,xa]:=by intro b hb;simp only[AV.menL,qNc,qMy,qMD];exact hb
    obtain⟨q1,q2,r',q3,q4,q5,q6⟩:=qxt hR' H hl hr;refine⟨q1,q2,?_⟩;simp only[if_pos htt];rw[q3,<-q2K (k':=r') (by rw[q1,hl]) q6 q5]
   ·unfold qxc at hr ⊢;cases hc:qox op with
    | none=>rw[hc] at hr;cases hr
    | some q=>
    obtain⟨fn,xs⟩:=q;rw[hc] at hr;obtain⟨args,tys,rfl,rfl⟩:=qoH hc;have hmen:qtD ev (.call { callee:=.value (.func fn),args:=args,argTypes:=tys })=AV.menL (args.toList.map ev)\/AV.menL (args.toList.map ev) ⊆ qtD ev (.call { callee:=.value (.func fn),args:=args,argTypes:=tys }):=by
     right;unfold qtD;cases hco:jA ev (.call { callee:=.value (.func fn),args:=args,argTypes:=tys }) with
     | none=>
      simp only[Op.operands,Call.operands,qOg,qMC];intro b hb;rw[qsg];exact qMX _ hb
     | some q=>
      obtain⟨g,azz⟩:=q;unfold jA at hco;simp only at hco;split at hco
      ·cases hco;intro b hb;simp only[qsg];exact qN8 _ (qMX _ hb)
      ·cases hco
    have hsub:∀b,b∈AV.menL (args.toList.map ev)->b∈k::qtD ev (.call { callee:=.value (.func fn),args:=args,argTypes:=tys }):=by
     intro b hb;rcases hmen with e|e
     ·rw[e];exact qMF _ hb
     ·exact qMF _ (e hb)
    generalize qtD ev (.call { callee:=.value (.func fn),args:=args,argTypes:=tys })=M at *;simp only at hr ⊢;split at hr
    ·rename_i e hde;obtain⟨q1,q2,r',q3,q4,q5⟩:=qya (R:=k::M) (fun b hb=>hb.elim (fun e=>e▸qMB) (hsub b)) H hl hr;refine⟨q1,q2,?_⟩;rw[q3,<-q2K (k':=r') (by rw[q1,hl]) q5 q4]
    ·unfold qFq at hr ⊢;split at hr
     case h_2=>cases hr
     split at hr
     case h_2=>cases hr
     rename_i hme;obtain⟨q,k1,k2⟩:=bind_some hr;split at k2
     case h_2=>cases k2
     rename_i e sh l;simp only[Tree.run,qMe,qMN] at k2;obtain⟨rfl,rfl⟩:=k2;have hfr:∀c,c∈k::M->(qP h' ((args.toList.map ev).flatMap zY))[c]?=(qP h ((args.toList.map ev).flatMap zY))[c]?:=fun c hc=>qjY _ _ _ hl (H c hc);have hle:=q1r (args.toList.map ev) fun b hb=>hfr b (hsub b hb);have out:∀(g:List Blk) (c:Nat),c∉k::M->((qP g ((args.toList.map ev).flatMap zY)).set k (.vec e sh l))[c]?=g[c]?:=fun g c hc'=>by rw[qMh (fun e'=>hc' (by rw[<-e'];exact qMB)),qh4 _ _ fun hm=>hc' (hsub c (qxl hm))]
     refine⟨by simp[yg],out h,?_⟩;rw[hle,hme];simp only;rw[Tree.run_bind,k1];simp only[qMG,Tree.run];rw[<-q2K (k':=(qP h' ((args.toList.map ev).flatMap zY)).set k (.vec e sh l)) (by simp[yg,hl]) (fun c hc'=>qjc (by simp[yg,hl]) fun _=>hfr c hc') (out h')]
def inR(r:Option (List Nat))(b:Nat):Prop:=∀R,r=some R->b∈R
theorem qyt {callS:List Blk->q87}{h g:List Blk}{ev:Operand->AV}{u:AV}(hR:(vO E h ev op k u g).r=none)(hr:(q5o E callS h ev op k).run=some (u,g)):(vO E h ev op k u g).w=[]/\g=h:=by
 unfold vO at *;unfold q5o at hr;cases hl:qus E op with
 | true=>rw[hl] at hR;cases hR
 | false=>
  rw[hl] at hR hr;simp only at hR hr ⊢;cases he:qmW E h ev op with
  | true=>rw[he] at hR;cases hR
  | false=>
   rw[he] at hr;obtain⟨v,k1,k2⟩:=bind_some hr;cases k2;exact⟨rfl,rfl⟩
theorem qkT {callS:List Blk->q87}(hmo:q7t E callS){h h':List Blk}{ev:Operand->AV}{u:AV}{r:List Blk}(H:∀b,inR (vO E h ev op k u r).r b->h'[b]?=h[b]?) (hl:h'.length=h.length) (hr:(q5o E callS h ev op k).run=some (u,r)) :r.length=h.length/\(∀b,b∉(vO E h ev op k u r).w->r[b]?=h[b]?)/\(q5o E callS h' ev op k).run=some (u,qfN (vO E h ev op k u r).w r h'):=by
 cases hR:(vO E h ev op k u r).r with
 | some R=>exact qx1 hmo hR (fun b hb=>H b fun R' e=>by rw[hR] at e;cases e;exact hb) hl hr
 | none=>
  have e:h'=h:=qN5 fun b=>H b fun R e=>by rw[hR] at e;cases e
  subst e;obtain⟨hw,hg⟩:=qyt hR hr;rw[hw];have:qfN [] r h'=r:=by rw[hg];exact(q2K (k':=h') rfl (fun _ hb=>by cases hb) fun _ _=>rfl).symm
  rw[this];exact⟨by rw[hg],fun b _=>by rw[hg],hr⟩
theorem qyI (_:E.tok P)(_:qpg P f e)(_:Sim E B X st a){vargs:List Value}(_:RepL X args vargs){r:AV×St}(h:(qDw E e args st).run=some r):Calls P f vargs.toArray X.w fun x w'=>∃v X',x=.returned v/\X'.w=w'/\Rep X' r.1 v/\Sim E B X' r.2 a:=by unfold qDw at h;cases h
end Go.Eng

namespace Go.Eng
variable {E:Env}{k:Nat}{op:Op}
inductive LocOK (E:Env) (callS:List Blk->q87) (all:Array Oper) (c:Nat) (i:Nat) (o:Oper) (T:List AV) (v:AV) (h h':List Blk) (d:Option LDesc):Prop
 | out (h1:q5V all o T=some false) (h2:v=.skip) (h3:h'=h) (h4:d=none)
 | op (u:AV) (h1:q5V all o T=some true) (h2:(q5o E callS h (E.opd T) o.op c).run=some (u,h')) (h3:v=qzw all i u) (h4:d=some (vO E h (E.opd T) o.op c u h'))
   (h5:∀b,b∈(vO E h (E.opd T) o.op c u h').v->b<h.length)
theorem qFC {h g:List Blk}{ev:Operand->AV}{u:AV}{b:Nat}(hb:b∈u.men):b∈(vO E h ev op k u g).v:=by
 unfold vO;split
 ·exact qN8 _ hb
 ·split
  ·exact qN8 _ hb
  ·exact hb
theorem qDy {h g:List Blk}{ev:Operand->AV}{u:AV}{b c:Nat}{z:Blk}(hb:b∈(vO E h ev op k u g).w)(hz:g[b]?=some z)(hc:c∈z.menB):c∈(vO E h ev op k u g).v:=by
 unfold vO at *;split at hb
 ·exact qMX _ (qo2 hz hc _ hb)
 ·split at hb
  ·exact qMX _ (qo2 hz hc _ hb)
  ·cases hb
theorem qy3 {h g:List Blk}{ev:Operand->AV}{u:AV}(hl:qus E op=true):(vO E h ev op k u g).s=some k:=by unfold vO;rw[hl]
theorem qvu{E:Env}{callS:List Blk->q87}{all:Array Oper}{anc:List Nat}:∀(l:List Oper) (k c:Nat) (ds:List (Nat×LDesc)) (st st':St),
  (qAn E callS all anc k l c ds st).run=some st' ->
  ∃(V:Nat->AV) (H:Nat->List Blk) (D:Nat->Option LDesc) (S:Nat->Nat),(∀j,c<=S (k+j))/\H k=st.h/\st'={ st with t:=qfD V k l st.t,h:=H (k+l.length) } /\
   (∀j o,l[j]?=some o->LocOK E callS all (S (k+j)) (k+j) o (qfD V k (l.take j) st.t) (V (k+j)) (H (k+j)) (H (k+j+1)) (D (k+j))) /\
   (∀j d,j<l.length->D (k+j)=some d->∀x,x∈ds->qjA anc x (k+j) d=true) /\
   (∀j j' d d',j<j'->j'<l.length->D (k+j)=some d->D (k+j')=some d'->qjA anc (k+j,d) (k+j') d'=true)
 | [],k,c,ds,st,st',h=>by
  simp only[qAn,Tree.run,qMe] at h;subst h;exact⟨fun _=>.undef,fun _=>st.h,fun _=>none,fun _=>c,fun _=>qMg _,rfl,rfl,fun j o hj=>by simp at hj,fun j d hj=>by simp at hj,fun j j' _ _ _ hj=>by simp at hj⟩
 | o::rest,k,c,ds,st,st',h=>by
  have fin:∀(v:AV) (h':List Blk) (d:Option LDesc) (c':Nat) (ds':List (Nat×LDesc)),c<=c'->LocOK E callS all c k o st.t v st.h h' d->(∀d0,d=some d0->∀x,x∈ds->qjA anc x k d0=true)->(∀x,x∈ds->x∈ds')->(∀d0,d=some d0->(k,d0)∈ds') ->
    (qAn E callS all anc (k+1) rest c' ds' { st with t:=qlu st.t o.dst v,h:=h' }).run=some st' ->
    ∃(V:Nat->AV) (H:Nat->List Blk) (D:Nat->Option LDesc) (S:Nat->Nat),(∀j,c<=S (k+j))/\H k=st.h/\st'={ st with t:=qfD V k (o::rest) st.t,h:=H (k+(o::rest).length) } /\
   (∀j o',(o::rest)[j]?=some o'->LocOK E callS all (S (k+j)) (k+j) o' (qfD V k ((o::rest).take j) st.t) (V (k+j)) (H (k+j)) (H (k+j+1)) (D (k+j))) /\
   (∀j d,j<(o::rest).length->D (k+j)=some d->∀x,x∈ds->qjA anc x (k+j) d=true) /\
   (∀j j' d d',j<j'->j'<(o::rest).length->D (k+j)=some d->D (k+j')=some d'->qjA anc (k+j,d) (k+j') d'=true):=by
   intro v h' d c' ds' hcc hmx hcr hds hd hr;obtain⟨V,H,D,S,e0,e1,e2,e3,e4,e5⟩:=qvu rest (k+1) c' ds' _ st' hr;have hfold:∀(l:List Oper) (t:List AV),qfD (fun j=>if j=k then v else V j) (k+1) l t=qfD V (k+1) l t:=fun l t=>qsf l (k+1) t fun j hj=>if_neg (by omega);refine⟨fun j=>if j=k then v else V j,fun j=>if j=k then st.h else H j,fun j=>if j=k then d else D j,fun j=>if j=k then c else S j,fun j=>?_,by simp,?_,?_,?_,?_⟩
   ·cases j with
    | zero=>simp
    | succ j=>
     have:=e0 j;simp only[show k+(j+1)=k+1+j by omega,show ¬k+1+j=k by omega,if_false];omega
   ·rw[e2];simp only[qfD,if_true,qMH];rw[hfold,if_neg (by omega),show k+(rest.length+1)=k+1+rest.length by omega]
   ·intro j o' hj;cases j with
    | zero=>
     simp only[qNu,qMe] at hj;subst hj;simp only[qN4,if_true,List.take_zero,qfD];rw[if_neg (by omega),e1];exact hmx
    | succ j=>
     have:=e3 j o' (by simpa using hj);simp only[List.take_succ_cons,qfD,if_true];rw[hfold,show k+(j+1)=k+1+j by omega,if_neg (by omega),if_neg (by omega),if_neg (by omega),if_neg (by omega),if_neg (by omega)];exact this
   ·intro j d0 hj hdj x hx;cases j with
    | zero=>simp only[qN4,if_true] at hdj ⊢;exact hcr d0 hdj x hx
    | succ j=>
     simp only at hdj;rw[show k+(j+1)=k+1+j by omega,if_neg (by omega)] at hdj;have:=e4 j d0 (by simpa using hj) hdj x (hds x hx);rw[show k+(j+1)=k+1+j by omega];exact this
   ·intro j j' d0 d0' hjj hj' hdj hdj';obtain⟨j'',rfl⟩:∃x,j'=x+1:=⟨j'-1,by omega⟩;have hl:j''<rest.length:=by simpa using hj'
    simp only at hdj hdj';rw[show k+(j''+1)=k+1+j'' by omega,if_neg (by omega)] at hdj';rw[show k+(j''+1)=k+1+j'' by omega];cases j with
    | zero=>
     simp only[qN4,if_true] at hdj ⊢;exact e4 j'' d0' hl hdj' _ (hd d0 hdj)
    | succ j=>
     rw[show k+(j+1)=k+1+j by omega,if_neg (by omega)] at hdj;rw[show k+(j+1)=k+1+j by omega];exact e5 j j'' d0 d0' (by omega) hl hdj hdj'
  simp only[qAn] at h;cases hw:q5V all o st.t with
  | none=>rw[hw] at h;cases h
  | some b=>
   rw[hw] at h;cases b with
   | true=>
    simp only at h;obtain⟨r,h1,h2⟩:=bind_some h;split at h2
    ·rename_i hall;simp only[qMt,qMM] at hall;obtain⟨c2,c3⟩:=hall;obtain⟨s,h3,h4⟩:=bind_some h2;obtain⟨u,h'⟩:=r;obtain rfl:=qF6 (st:={ st with h:=h' }) h3;exact fin _ h' (some (vO E st.h (E.opd st.t) o.op c u h')) _ _ (by split<;>omega) (.op u hw h1 rfl rfl fun b hb=>Nat.blt_eq.mp (c2 b hb)) (fun d0 he x hx=>by cases he;exact c3 x hx) (fun x hx=>qN8 _ hx) (fun d0 he=>by cases he;exact qMX _ qMB) h4
    ·cases h2
   | false=>
    simp only at h;exact fin .skip st.h none c ds (qMg _) (.out hw rfl rfl rfl) (fun d0 he=>by cases he) (fun x hx=>hx) (fun d0 he=>by cases he) h
section
variable (W:Nat->List Nat) (H:Nat->List Blk) (h0:List Blk)
def hLp(L:Nat->Bool):Nat->List Blk
 | 0=>h0
 | m+1=>if L m=true then qfN (W m) (H (m+1)) (hLp L m) else hLp L m
variable {W H h0}
theorem qco(L:Nat->Bool):∀m,(hLp W H h0 L m).length=h0.length
 | 0=>rfl
 | m+1=>by simp only[hLp];split<;>simp[qDf,qco L m]
theorem qAE{L:Nat->Bool}{b lo:Nat}:∀m,lo<=m->(∀j,lo<=j->j<m->L j=true->b∉W j)->(hLp W H h0 L m)[b]?=(hLp W H h0 L lo)[b]?
  | 0, h, _ => by have : lo = 0 := by omega
                  rw[this]
  | m+1,h,hj=>by
    rcases qNO h with rfl|h
    · rfl
    · rw[<-qAE m (by omega) fun j h1 h2=>hj j h1 (by omega)]
      simp only[hLp];split
      · rename_i hl
        exact qk2 (hj m (by omega) (by omega) hl)
      · rfl
theorem qvP{L L':Nat->Bool}{b:Nat}(hH:∀m,(H m).length=h0.length):∀m,(∀j,j<m->b∈W j->L j=L' j)->(hLp W H h0 L m)[b]?=(hLp W H h0 L' m)[b]?
 | 0,_=>rfl
 | m+1,hj=>by
  have ih:=qvP (L:=L) (L':=L') hH m fun j h1=>hj j (by omega);by_cases hb:b∈W m
  ·have:=hj m (by omega) hb;simp only[hLp];rw[this];split
   ·rw[qj3 hb (by rw[qco,hH]),qj3 hb (by rw[qco,hH])]
   ·exact ih
  ·have out:∀L:Nat->Bool,(hLp W H h0 L (m+1))[b]?=(hLp W H h0 L m)[b]?:=fun L=>by
    simp only[hLp];split
    ·exact qk2 hb
    ·rfl
   rw[out,out,ih]
theorem qrC{L L':Nat->Bool}:∀m,(∀j,j<m->L j=L' j)->hLp W H h0 L m=hLp W H h0 L' m
 | 0,_=>rfl
 | m+1,h=>by
  simp only[hLp];rw[h m (qO2 m),qrC m fun j hj=>h j (by omega)]
theorem qFL(hk:∀i,(H (i+1)).length=(H i).length/\∀b,b∉W i->(H (i+1))[b]?=(H i)[b]?)(h1:H 0=h0):∀m,hLp W H h0 (fun _=>true) m=H m
 | 0=>h1.symm
 | m+1=>by
  simp only[hLp,if_true];rw[qFL hk h1 m];exact(q2K (hk m).1 (fun _ _=>rfl) (hk m).2).symm
theorem qDW {L:Nat->Bool}{i m:Nat}(hi:i<m)(hL:L i=false)(hH:∀m,(H m).length=h0.length)(hu:∀j,i<j->j<m->L j=true->∀b,b∈W i->b∉W j) :hLp W H h0 (fun j=>if j=i then true else L j) m=qfN (W i) (H (i+1)) (hLp W H h0 L m):=by
 refine q2K (by rw[hH,qco]) (fun b hb=>?_) (fun b hb=>?_)
 ·rw[qAE (lo:=i+1) m (by omega) fun j h1 h2 h3=>hu j (by omega) h2 (by rwa [if_neg (by omega)] at h3) b hb];simp only[hLp,if_true];exact qj3 hb (by rw[qco,hH])
 ·refine qvP hH m fun j _ hbj=>if_neg fun e=>?_;subst e;exact hb hbj
theorem qIX {h:List Blk}{c:Nat}(hb:∀(b:Nat) (k:Blk),h[b]?=some k->c∉k.menB):c∉qe3 h:=by
 induction h with
 | nil=>intro h;cases h
 | cons k h ih=>
  simp only[qe3,qMD,not_or];exact⟨hb 0 k rfl,ih fun b k' hk=>hb (b+1) k' (by simpa using hk)⟩
theorem qFT{L:Nat->Bool}{c:Nat}(hH:∀m,(H m).length=h0.length)(h1:c∉qe3 h0):∀m,(∀j,j<m->L j=true->∀b z,b∈W j->(H (j+1))[b]?=some z->c∉z.menB)->c∉qe3 (hLp W H h0 L m)
 | 0,_=>h1
 | m+1,h2=>by
  have ih:=qFT (L:=L) hH h1 m fun j hj=>h2 j (by omega);simp only[hLp];split
  ·rename_i hL;refine qIX fun b k hk=>?_;by_cases hb:b∈W m
   ·rw[qj3 hb (by rw[qco,hH])] at hk;exact h2 m (qO2 m) hL b k hb hk
   ·rw[qk2 hb] at hk;exact qqY ih hk
  ·exact ih
end
theorem qv8 {w:List Nat}{r:Option (List Nat)}(h:qHi w r=true):∀b,b∈w->¬inR r b:=by
 intro b hb hi;cases w with
 | nil=>cases hb
 | cons a w=>
  cases r with
  | none=>cases h
  | some R=>
   simp only[qHi,qMM,qNP,List.contains_eq_mem,decide_eq_false_iff_not] at h;exact h b hb (hi R rfl)
def wOf(D:Nat->Option LDesc)(j:Nat):List Nat:=match D j with
 | some d=>d.w
 | none=>[]
theorem qBi {v:List Nat}(h:qLm (some k) v=false):k∉v:=by simpa[qLm] using h
theorem qKT {h g:List Blk}{ev:Operand->AV}{u:AV}{R:List Nat}(hR:(vO E h ev op k u g).r=some R):∀b,b∈(vO E h ev op k u g).w->b∈R:=by
 unfold vO at *;split at hR
 ·simp only[qMe] at hR;subst hR;exact fun b hb=>hb
 ·split at hR
  ·simp only[qMe] at hR;subst hR;exact fun b hb=>qMX _ hb
  ·intro b hb;cases hb
section
variable {E:Env} {P:Program} {callS:List Blk->q87} {B:Base} {all:Array Oper} {V:Nat->AV} {T0:List AV} {H:Nat->List Blk} {D:Nat->Option LDesc} {fs:List (List AV)} {pd:Option Ex} {Q:Exit->Act->World->Prop} {n0 m base:Nat} {S:Nat->Nat}
theorem qGi (hE:E.tok P)(hS:E.specs P)(hc:qmy E P callS)(hmo:q7t E callS)(hd:DrawOk all)(hms:m<=all.size)(hV:∀i o,all[i]?=some o->i<m->LocOK E callS all (S i) i o (TLp (yV all) V T0 (fun _=>true) i) (V i) (H i) (H (i+1)) (D i))(hX:∀i j d d',i<j->j<m->D i=some d->D j=some d'->qjA (qi3 all.toList) (i,d) j d'=true)(hcon:∀i,m<=i->H i=H m) (_:∀i,m<=i->D i=none)(hlen:base<=(H 0).length) (hSb:∀i,base<=S i) (hT0:∀c,base<=c->c∉AV.menL T0) (hfs:∀c,base<=c->c∉qnn fs) (hH0:∀c,base<=c->c∉qe3 (H 0))(hq:all.size<=m->∀X a,Sim E B X { t:=TLp (yV all) V T0 (fun _=>true) all.size,fs:=fs,pend:=pd,h:=H m } a->Q .normal a X.w)(hlast:∀i fuel listed X a,i<all.size->m<=i->listed.size=all.size->i∈Region.ready .any all listed->qqc all (fun j=>listed.getD j false)->(∀j,m<=j->j<all.size->listed.getD j false=false)->(∀j,j<m->listed.getD j false=true) ->Sim E B X { t:=TLp (yV all) V T0 (fun j=>listed.getD j false) all.size,fs:=fs,pend:=pd,h:=H m } a ->unl listed all.size<=fuel+1->wpOpIn (q55 B.ro) n0 P all Q i (wpAnyIn (q55 B.ro) n0 P .any all Q fuel (listed.setIfInBounds i true)) a X.w)(hsuf:∀i j,m<=i->i<all.size->j<i->((qi3 all.toList).getD i 0).testBit j=true) :∀(fuel:Nat) (listed:Array Bool) (X:Ctx) (a:Act),listed.size=all.size->qqc all (fun j=>listed.getD j false)->(∀i,m<=i->i<all.size->listed.getD i false=false) ->unl listed all.size<=fuel->Sim E B X { t:=TLp (yV all) V T0 (fun j=>listed.getD j false) all.size,fs:=fs,pend:=pd,h:=hLp (wOf D) H (H 0) (fun j=>listed.getD j false) m } a->wpAnyIn (q55 B.ro) n0 P .any all Q fuel listed a X.w:=by
 intro fuel;have step:∀i,(H (i+1)).length=(H i).length/\∀b,b∉wOf D i->(H (i+1))[b]?=(H i)[b]?:=by
  intro i;rcases qMn i m with him|him
  ·have hi:i<all.size:=by omega
   cases hV i _ (qNV hi) him with
   | out h1 h2 h3 h4=>rw[h3];exact⟨rfl,fun _ _=>rfl⟩
   | op u h1 h2 h3 h4 h5=>
    obtain⟨q1,q2,_⟩:=qkT (h':=H i) hmo (fun _ _=>rfl) rfl h2;refine⟨q1,?_⟩;unfold wOf;rw[h4];exact q2
  ·rw[hcon i him,hcon (i+1) (by omega)];exact⟨rfl,fun _ _=>rfl⟩
 have hlenA:∀i,(H i).length=(H 0).length:=by
  intro i;induction i with
  | zero=>rfl
  | succ i ih=>rw[(step i).1,ih]
 have hall:∀i,hLp (wOf D) H (H 0) (fun _=>true) i=H i:=qFL step rfl;have toEnd:∀(listed:Array Bool),(∀j,j<m->listed.getD j false=true)->hLp (wOf D) H (H 0) (fun j=>listed.getD j false) m=H m:=by intro listed h;rw[<-hall m];exact qrC m h
 have fin:∀(listed:Array Bool) (X:Ctx) (a:Act),listed.size=all.size->(∀i,m<=i->i<all.size->listed.getD i false=false)->Region.ready .any all listed=[] ->
   Sim E B X { t:=TLp (yV all) V T0 (fun j=>listed.getD j false) all.size,fs:=fs,pend:=pd,h:=hLp (wOf D) H (H 0) (fun j=>listed.getD j false) m } a->Q .normal a X.w:=by
  intro listed X a hsz hm hr hs;have hal:=qz5 hd hsz hr;rcases qMn m all.size with hlt|hge
  ·have:=hm m (qMg _) hlt;rw[hal m hlt] at this;cases this
  ·rw[toEnd listed fun j hj=>hal j (by omega)] at hs;rw[stL (L':=fun _=>true) all.size fun j hj=>hal j hj] at hs;exact hq hge X a hs
 induction fuel with
 | zero=>
  intro listed X a hsz hcl hm hu hs;have hr:Region.ready .any all listed=[]:=by
   apply List.eq_nil_iff_forall_not_mem.2;intro j hj;rw[mem_ready] at hj;obtain⟨h1,o,h2,_⟩:=hj;have hj':=(qMk.1 h2).1;have:=qwf (listed:=listed) (Nat.le_zero.1 hu) j hj';have hj2:j<listed.size:=by omega
   simp[hj2] at this h1;rw[this] at h1;cases h1
  exact⟨hr,fin listed X a hsz hm hr hs⟩
 | succ fuel ih=>
  intro listed X a hsz hcl hm hu hs;refine⟨fun hr=>fin listed X a hsz hm hr hs,fun i hi=>?_⟩;have hri:=hi;rw[mem_ready] at hi;obtain⟨h1,o,ho,hedge⟩:=hi;have hin:=(qMk.1 ho).1;have hil:i<listed.size:=by omega
  have hLi:listed.getD i false=false:=by simpa[qNx,hil] using h1
  have hedge':∀e,e∈o.after.toList->Region.binds .any e=true->listed.getD e.on false=true:=fun e he hb=>hedge e (by simpa using he) hb;have hcl':=qoA hsz ho hcl hedge';have before:∀k,k≠i->qKZ (qi3 all.toList) i k=true->listed.getD k false=true:=by
   intro k hki hk;have:=qvk hd hcl' i k (by show (listed.setIfInBounds i true).getD i false=true;rw[q0E hil,if_pos rfl]) hk;have h':(listed.setIfInBounds i true).getD k false=true:=this
   rwa [q0E hil,if_neg hki] at h'
  have behind:∀k,qKZ (qi3 all.toList) k i=true->listed.getD k false=false:=by
   intro k hk;cases hl:listed.getD k false with
   | false=>rfl
   | true=>
    have:=qvk hd hcl k i hl hk;have h':listed.getD i false=true:=this;rw[hLi] at h';cases h'
  rcases qMn i m with him|him
  ·have hv:=hV i o ho him;have hsame:∀t,t∈qCV all o->(TLp (yV all) V T0 (fun j=>listed.getD j false) all.size)[t]?=(TLp (yV all) V T0 (fun _=>true) i)[t]?:=fun t ht=>
    qJa hd hcl ho (Nat.le_of_lt hin) hLi hedge' ht
   have hopd:∀x,x∈o.op.operands.toList->E.opd (TLp (yV all) V T0 (fun j=>listed.getD j false) all.size) x=E.opd (TLp (yV all) V T0 (fun _=>true) i) x:=fun x hx=>by
    cases x with
    | tmp t=>
     have:=hsame t (qN8 _ (List.mem_filterMap.2 ⟨.tmp t,hx,rfl⟩));simp only[Env.opd,qMf];rw[this]
    | const v=>rfl
    | global g=>rfl
    | func f=>rfl
   have hwant:q5V all o (TLp (yV all) V T0 (fun j=>listed.getD j false) all.size)=q5V all o (TLp (yV all) V T0 (fun _=>true) i):=by
    unfold q5V;cases hg:o.guard with
    | none=>rfl
    | some p=>
     obtain⟨j,want⟩:=p;simp only;cases hj:(all[j]?).bind (·.dst) with
     | none=>rfl
     | some d=>
      simp only;rw[hsame d (by simp[qCV,hg,hj])]
   have hun:unl (listed.setIfInBounds i true) all.size<=fuel:=by have:=(qAG hil hLi all.size).2 hin;omega
   have hdi:yV all i=o.dst:=by simp[yV,ho]
   have hnext:∀(X':Ctx) (u:Value),Sim E B X' { t:=TLp (yV all) V T0 (fun j=>listed.getD j false) all.size,fs:=fs,pend:=pd,h:=hLp (wOf D) H (H 0) (fun j=>(listed.setIfInBounds i true).getD j false) m } a->Rep X' (V i) u ->
     wpAnyIn (q55 B.ro) n0 P .any all Q fuel (listed.setIfInBounds i true) (a.put o.dst u) X'.w:=by
    intro X' u hs' hu';refine ih _ X' _ (by simp[hsz]) hcl' ?_ hun ?_
    ·intro k hk1 hk2;rw[q0E hil,if_neg (by omega)];exact hm k hk1 hk2
    ·have hput:=hs'.put hu' o.dst;have hT:TLp (yV all) V T0 (fun j=>(listed.setIfInBounds i true).getD j false) all.size=qlu (TLp (yV all) V T0 (fun j=>listed.getD j false) all.size) o.dst (V i):=by
      rw[<-hdi,<-qJe hin hLi]
      ·exact stL all.size fun j _=>q0E hil
      ·intro k hk hki t ht he;cases hk':all[k]? with
       | none=>simp[yV,hk'] at he
       | some ok=>
        simp only[yV,hk',qMG] at he;rw[hdi] at ht;exact(hd.dst i k o ok ho hk' hki t he).1 ht
     rw[hT];exact hput
   have hLset:hLp (wOf D) H (H 0) (fun j=>(listed.setIfInBounds i true).getD j false) m=hLp (wOf D) H (H 0) (fun j=>if j=i then true else listed.getD j false) m:=qrC m fun j _=>q0E hil;unfold wpOpIn;rw[ho];simp only;cases hv with
   | out w1 w2 w3 w4=>
    rw[qaD hs.t (hwant.trans w1)];simp only[qMR,if_false];refine⟨fun _ _=>trivial,hnext X _ ?_ (by rw[w2];exact .skip)⟩;rw[hLset,qDW him hLi hlenA (fun j _ _ _ b hb=>by unfold wOf at hb;rw[w4] at hb;cases hb)];have:wOf D i=[]:=by unfold wOf;rw[w4]
    rw[this,<-q2K (k':=hLp (wOf D) H (H 0) (fun j=>listed.getD j false) m) (by rw[hlenA,qco]) (fun b hb=>by cases hb) (fun _ _=>rfl)];exact hs
   | op u w1 w2 w3 w4 w5=>
    rw[qaD hs.t (hwant.trans w1)];simp only[if_true];have hwi:wOf D i=(vO E (H i) (E.opd (TLp (yV all) V T0 (fun _=>true) i)) o.op (S i) u (H (i+1))).w:=by unfold wOf;rw[w4]
    obtain⟨d0,hd0⟩:∃d0,d0=(vO E (H i) (E.opd (TLp (yV all) V T0 (fun _=>true) i)) o.op (S i) u (H (i+1))):=⟨_,rfl⟩;have wr:∀j b,inR d0.r b->b∈wOf D j->j<m->j≠i->(j<i->qKZ (qi3 all.toList) i j=true)/\(i<j->qKZ (qi3 all.toList) j i=true):=by
     intro j b hb hbj hjm hji;cases hDj:D j with
     | none=>unfold wOf at hbj;rw[hDj] at hbj;cases hbj
     | some dj=>
      have hbj':b∈dj.w:=by unfold wOf at hbj;rw[hDj] at hbj;exact hbj
      refine⟨fun hlt=>?_,fun hlt=>?_⟩
      ·have:=hX j i dj _ hlt him hDj w4;unfold qjA at this;simp only[qMt,qNF] at this;rcases this.2 with h3|h3
       ·exact h3
       ·rw[<-hd0] at h3;exact absurd hb (qv8 h3.2.1 b hbj')
      ·have:=hX i j _ dj hlt hjm w4 hDj;unfold qjA at this;simp only[qMt,qNF] at this;rcases this.2 with h3|h3
       ·exact h3
       ·rw[<-hd0] at h3;exact absurd hb (qv8 h3.2.2 b hbj')
    have hat:∀b,inR d0.r b->(hLp (wOf D) H (H 0) (fun j=>listed.getD j false) m)[b]?=(H i)[b]?:=by
     intro b hb;rw[<-hall i,qAE (lo:=i) m (by omega) fun j h3 h4 h5 h6=>?_]
     ·refine qvP hlenA i fun j h3 h4=>?_;exact before j (by omega) ((wr j b hb h4 (by omega) (by omega)).1 h3)
     ·have hji:j≠i:=fun e=>by rw[e,hLi] at h5;cases h5
      have:=behind j ((wr j b hb h6 h4 hji).2 (by omega));rw[this] at h5;cases h5
    have hln:(hLp (wOf D) H (H 0) (fun j=>listed.getD j false) m).length=(H i).length:=by rw[qco];exact(hlenA i).symm
    obtain⟨_,_,hrun⟩:=qkT hmo (hd0▸hat) hln w2;have hnew:hLp (wOf D) H (H 0) (fun j=>(listed.setIfInBounds i true).getD j false) m=qfN (wOf D i) (H (i+1)) (hLp (wOf D) H (H 0) (fun j=>listed.getD j false) m):=by rw[hLset,qDW him hLi hlenA fun j h3 h4 h5 b hb hbj=>?_];have:=behind j ((wr j b (fun R hR=>qKT (hd0▸hR) b (hwi▸hb)) hbj h4 (by omega)).2 h3);rw[this] at h5;cases h5
    rw[<-hwi,<-hnew,<-qwc hopd] at hrun;have ups:∀j,j<all.size->listed.getD j false=true->j<m/\j≠i:=fun j hj hLj=>by
     refine⟨?_,fun e=>by rw[e,hLi] at hLj;cases hLj⟩;rcases qMn j m with h|h
     ·exact h
     ·rw[hm j h hj] at hLj;cases hLj
    have free:∀c,base<=c->(∀j d,j<m->listed.getD j false=true->D j=some d->c∉d.v)->c∉AV.menL (TLp (yV all) V T0 (fun j=>listed.getD j false) all.size)/\c∉qe3 (hLp (wOf D) H (H 0) (fun j=>listed.getD j false) m):=by
     intro c hbc hno;refine⟨qDX (hT0 _ hbc) _ fun j hj hLj=>?_,qFT hlenA (hH0 _ hbc) m fun j hj hLj b z hb hz=>?_⟩
     ·have hjm:=(ups j hj hLj).1;cases hV j _ (qNV hj) hjm with
      | out _ q2 _ _=>rw[q2];simp[AV.men]
      | op uj _ _ q3 q4 _=>
       rw[q3];exact qDI fun hmm=>hno j _ hjm hLj q4 (qFC hmm)
     ·cases hV j _ (qNV (by omega)) hj with
      | out _ _ _ q4=>unfold wOf at hb;rw[q4] at hb;cases hb
      | op uj _ _ _ q4 _=>
       unfold wOf at hb;rw[q4] at hb;exact fun hmm=>hno j _ hj hLj q4 (qDy hb hz hmm)
    cases hloc:qus E o.op with
    | true=>
     obtain⟨f1,f2⟩:=free (S i) (hSb i) fun j d hj hLj q4 hmm=>by
      obtain⟨_,hji⟩:=ups j (by omega) hLj;rcases qMn j i with h3|h3
      ·have:=hX j i _ _ h3 him q4 w4;unfold qjA at this;rw[qy3 hloc] at this;simp only[qMt,qNP] at this;exact qBi this.1 hmm
      ·have:=hX i j _ _ (by omega) hj w4 q4;unfold qjA at this;simp only[qy3 hloc] at this;simp only[qMt,qNF,qNP] at this;rcases this.2 with h4|h4
       ·rw[behind j h4] at hLj;cases hLj
       ·exact qBi h4.1 hmm
     obtain⟨g1,g2⟩:=free (H 0).length hlen fun j d hj hLj q4 hmm=>by
      cases hV j _ (qNV (show j<all.size by omega)) hj with
      | out _ _ _ q5=>rw[q5] at q4;cases q4
      | op uj _ _ _ q5 q6=>
       rw[q5] at q4;cases q4;have:=q6 _ hmm;rw[hlenA j] at this;omega
     refine qrW B.ro n0 (qwo hE hS hs hrun hloc f2 f1 (hfs _ (hSb i)) ?_ ?_ ?_ fun X' v hs' hv'=>hnext X' v hs' (by rw[w3];exact qrx hv')) (fun c hcc=>by rw[hcc] at hloc;cases hloc)
     ·rw[qco];exact g2
     ·rw[qco];exact g1
     ·rw[qco];exact hfs _ hlen
    | false=>
     unfold q5o at hrun;rw[hloc] at hrun;simp only at hrun;split at hrun
     ·obtain⟨q,k1,k2⟩:=bind_some hrun;split at k2
      case h_2=>cases k2
      cases k2;obtain⟨p1,p2⟩:=qzu hE hS hs k1 fun X' v hs' hv'=>hnext X' v hs' (by rw[w3];exact qrx hv');exact qrW B.ro n0 p1 p2
     obtain⟨av,k1,k2⟩:=bind_some hrun;simp only[Tree.run,qMe,qMN] at k2;obtain⟨rfl,k2⟩:=k2;refine qrW B.ro n0 (qwp hE hc hs k1 fun X' v hs' hv'=>hnext X' v (by rw[<-k2];exact hs') (by rw[w3];exact qrx hv')) (fun c hcc=>by rw[hcc] at k1;simp[qe8,qeh,Tree.run] at k1)
  ·have hallb:∀j,j<m->listed.getD j false=true:=fun j hj=>before j (by omega) (hsuf i j him hin (by omega));rw[toEnd listed hallb] at hs;exact hlast i fuel listed X a hin him hsz hri hcl hm hallb hs hu
end
theorem qz0 {P:Program}(hm:P.follows .mixedOrders=true)(hE:E.tok P)(hS:E.specs P){callH:qaa}{B:Base}(hcH:CallOK E P callH B){callS:List Blk->q87}(hc:qmy E P callS)(hmo:q7t E callS){id:Nat}{all:Array Oper}{X:Ctx}{st st':St}{a:Act}(hs:Sim E B X st a) (h:(qDo E callH callS all st).run=some st') {Q:Exit->Act->World->Prop} {n0:Nat} (hq:∀X' a',Sim E B X' st' a'->Q .normal a' X'.w):(Code.region id all true).wpIn (q55 B.ro) n0 P Q a X.w:=by
 apply wpIn_region_any hm;have hs1:=hs.drawn (X.w.drawn+1);generalize hX1:({ X with w:={ X.w with drawn:=X.w.drawn+1 } }:Ctx)=X1 at hs1;have hw:({ X.w with drawn:=X.w.drawn+1 }:World)=X1.w:=by rw[<-hX1]
 rw[hw];obtain⟨T0,fs,hb,pd⟩:=st;unfold qDo at h;by_cases hdb:qEq all=false
 ·rw[if_pos hdb] at h;cases h
 ·rw[if_neg hdb] at h;have hd:=qHF (by simpa using hdb:qEq all=true);have hcl0:qqc all fun j=>(Array.replicate all.size false).getD j false:=by intro i o _ hL;have hL':(Array.replicate all.size false).getD i false=true:=hL;rw[qwq] at hL';cases hL'
  have hdst:yV all=fun i=>(all.toList[i]?).bind (·.dst):=by funext i;simp[yV]
  have hsl:=qHO all;have lt:∀b,(b∈AV.menL T0\/b∈qnn fs)\/b∈qe3 hb->b<hb.length:=fun b hb'=>by
   have hh:X.h=hb:=hs.h;rw[<-hh];rcases hb' with (h'|h')|h'
   ·exact hs.t.inB _ h'
   ·exact hs.fs.inB _ h'
   ·exact hs.hs.inB _ (by rw[hh];exact h')
  obtain⟨r,h1,h2⟩:=bind_some h;obtain⟨V,H0,D0,S,eS,e0,e1,e2,_,e5⟩:=qvu _ 0 _ [] _ r h1;simp only[qN6] at eS e1 e2 e5;have htlen:(all.toList.take (kO all)).length=kO all:=by simp;omega
  obtain⟨H,hH1,hH2⟩:∃H:Nat->List Blk,(∀i,i<=kO all->H i=H0 i)/\∀i,kO all<=i->H i=H (kO all):=
   ⟨fun i=>if i<=kO all then H0 i else H0 (kO all),fun i hi=>if_pos hi,fun i hi=>by
    simp only[qMg,if_true];split
    ·rw[show i=kO all by omega]
    ·rfl⟩
  obtain⟨D,hD1,hD2⟩:∃D:Nat->Option LDesc,(∀i,i<kO all->D i=D0 i)/\∀i,kO all<=i->D i=none:=
   ⟨fun i=>if i<kO all then D0 i else none,fun i hi=>if_pos hi,fun i hi=>if_neg (by omega)⟩
  have htk:∀i,i<kO all->(all.toList.take (kO all))[i]?=all[i]?:=by intro i hi;rw[qNh,if_pos hi];simp
  have hTm:∀i,i<=kO all->TLp (yV all) V T0 (fun _=>true) i=qfD V 0 ((all.toList.take (kO all)).take i) T0:=by intro i hi;rw[hdst,qHm i (by simp;omega),List.take_take,qNb hi]
  have hVA:∀i o,all[i]?=some o->i<kO all->LocOK E callS all (S i) i o (TLp (yV all) V T0 (fun _=>true) i) (V i) (H i) (H (i+1)) (D i):=by intro i o ho hi;rw[hTm i (by omega),hH1 i (by omega),hH1 (i+1) (by omega),hD1 i hi];exact e2 i o (by rw[htk i hi];exact ho)
  have hs0:∀(X':Ctx) (a':Act),Sim E B X' { t:=TLp (yV all) V T0 (fun _=>true) (kO all),fs:=fs,pend:=pd,h:=H (kO all) } a'->Sim E B X' r a':=by
   intro X' a' hs';have:r={ t:=TLp (yV all) V T0 (fun _=>true) (kO all),fs:=fs,pend:=pd,h:=H (kO all) }:=by rw[hTm _ (qMg _),e1,List.take_of_length_le (i:=kO all) (l:=all.toList.take (kO all)) (by simp;omega),htlen,hH1 _ (qMg _)]
   rw[this];exact hs'
  have hH00:H 0=hb++List.replicate (qLw E (all.toList.take (kO all))) .dead:=by rw[hH1 0 (qNB _)];exact e0
  obtain⟨X2,hX2,hs2⟩:=Sim.padN (qLw E (all.toList.take (kO all))) hs1;rw[<-hX2];have start:Sim E B X2 { t:=TLp (yV all) V T0 (fun j=>(Array.replicate all.size false).getD j false) all.size,fs:=fs,pend:=pd,h:=hLp (wOf D) H (H 0) (fun j=>(Array.replicate all.size false).getD j false) (kO all) } a:=by
   have q1:TLp (yV all) V T0 (fun j=>(Array.replicate all.size false).getD j false) all.size=T0:=by
    have:∀n,TLp (yV all) V T0 (fun j=>(Array.replicate all.size false).getD j false) n=T0:=by
     intro n;induction n with
     | zero=>rfl
     | succ n ih=>simp only[TLp];rw[if_neg (by rw[qwq];simp),ih]
    exact this _
   have q2:∀n,hLp (wOf D) H (H 0) (fun j=>(Array.replicate all.size false).getD j false) n=H 0:=by
    intro n;induction n with
    | zero=>rfl
    | succ n ih=>simp only[hLp];rw[if_neg (by rw[qwq];simp),ih]
   rw[q1,q2,hH00];exact hs2
  refine qGi (m:=kO all) (V:=V) (T0:=T0) (H:=H) (D:=D) (fs:=fs) (base:=hb.length) hE hS hc hmo hd hsl hVA (fun i j d d' hij hj q1 q2=>?_) hH2 hD2 (by rw[hH00];simp) eS (fun c hc hm'=>?_) (fun c hc hm'=>?_) (fun c hc hm'=>?_) ?_ ?_ (fun i j h1 h2 h3=>qpx all h1 h2 h3) all.size _ X2 a (by simp) hcl0 (fun i _ _=>qwq i) (qIr _ _) start
  ·rw[hD1 i (by omega)] at q1;rw[hD1 j hj] at q2;exact e5 i j d d' hij (by rw[htlen];exact hj) q1 q2
  ·have:=lt c (.inl (.inl hm'));omega
  ·have:=lt c (.inl (.inr hm'));omega
  ·rw[hH00,qBd] at hm';rcases qMD.1 hm' with hm'|hm'
   ·have:=lt c (.inr hm');omega
   ·exact qCl (fun z hz=>by rw[qOr] at hz;rw[hz.2];rfl) hm'
  ·intro hge X' a' hs';have hsz:kO all=all.size:=by omega
   rw[show TLp (yV all) V T0 (fun _=>true) all.size=TLp (yV all) V T0 (fun _=>true) (kO all) by rw[hsz]] at hs';have h3:=hs0 X' a' hs';rw[qNU (by simp;omega)] at h2;simp only[qmb,Tree.run,qMe] at h2;rw[h2] at h3;exact hq X' a' h3
  ·intro i fuel listed X' a' hin him hsz hri hcl hlm hallm hs' hun;have hri':=hri;rw[mem_ready] at hri';obtain⟨g1,o,ho,gedge⟩:=hri';have hil:i<listed.size:=by omega
   have hLi:listed.getD i false=false:=by simpa[qNx,hil] using g1
   have hedge':∀e,e∈o.after.toList->Region.binds .any e=true->listed.getD e.on false=true:=fun e he hb=>gedge e (by simpa using he) hb;have hcl':=qoA hsz ho hcl hedge';have hallb:∀j,j<i->listed.getD j false=true:=by intro j hj;have hb':=qpx all him hin hj;have:=qvk hd hcl' i j (by show (listed.setIfInBounds i true).getD i false=true;rw[q0E hil,if_pos rfl]) hb';have h':(listed.setIfInBounds i true).getD j false=true:=this;rw[q0E hil,if_neg (by omega)] at h';exact h'
   have him2:i=kO all:=by
    rcases qNO him with h3|h3
    ·exact h3.symm
    ·have h4:=hallb _ h3;rw[hlm _ (qMg _) (by omega)] at h4;cases h4
   have hcut:∀n,kO all<=n->n<=all.size->TLp (yV all) V T0 (fun j=>listed.getD j false) n=TLp (yV all) V T0 (fun _=>true) (kO all):=by
    intro n;induction n with
    | zero=>
     intro h3 _;have h0:kO all=0:=by omega
     rw[h0];rfl
    | succ n ihn=>
     intro h3 h4;rcases qNO h3 with h5|h5
     ·rw[<-h5];exact stL (kO all) fun j hj=>hallb j (by omega)
     ·simp only[TLp];rw[if_neg (by rw[hlm n (by omega) (by omega)];simp)];exact ihn (by omega) (by omega)
   rw[hcut _ hsl (qMg _)] at hs';have h3:=hs0 X' a' hs';subst him2;exact(qE5 hE hcH hd hq _ (kO all) rfl (qMg _) (fuel+1) listed X' a' _ hsz (fun j hj _=>hallb j hj) (fun j hj=>by
    rcases qMn j all.size with h5|h5
    ·exact hlm j hj h5
    ·simp[show listed.size<=j by omega]) hun h3 h2).2 _ hri
end Go.Eng

namespace Go.Eng
variable {B:Base}{X:Ctx}{n:Nat}
theorem HSim.base {B B':Base}(h:HSim B X)(h0:B'.w0=B.w0)(h1:B'.imps=B.imps)(h2:B'.M0=B.M0):HSim B' X:=by obtain⟨w0,imps,M0,fs,ro,y,pin⟩:=B;obtain⟨w0',imps',M0',fs',ro',y',pin'⟩:=B';simp only at h0 h1 h2;subst h0 h1 h2;exact⟨h.blk,h.inj,h.notM,h.ltM,h.M0,h.newM,h.os,h.tape,h.output,h.size,h.frame,h.imps,h.impc,h.fresh,h.kept⟩
def qn5(o:Obj):Prop:=∀c T fr,o≠.cells c T fr
def qeU(n:Nat)(o:Obj)(l:List (Nat×Obj)):List (Nat×Obj):=l.map fun p=>if p.1=n then (n,o) else p
theorem q0P {p:Nat×Obj}{o:Obj}{l:List (Nat×Obj)}(h:p∈l)(hne:p.1≠n):p∈qeU n o l:=qN3.2 ⟨p,h,if_neg hne⟩
theorem qj8 {o o':Obj}{l:List (Nat×Obj)}(h:(n,o)∈l):(n,o')∈qeU n o' l:=qN3.2 ⟨(n,o),h,if_pos rfl⟩
theorem qmD {p:Nat×Obj}{o:Obj}{l:List (Nat×Obj)}(h:p∈qeU n o l):p=(n,o)\/(p∈l/\p.1≠n):=by
 obtain⟨q,h1,h2⟩:=qN3.1 h;by_cases hq:q.1=n
 ·rw[if_pos hq] at h2;exact .inl h2.symm
 ·rw[if_neg hq] at h2;subst h2;exact .inr ⟨h1,hq⟩
structure SameCells (w w':World):Prop where
 cells:∀(n:Nat) c T fr,w.heap[n]?=some (.cells c T fr)->w'.heap[n]?=some (.cells c T fr)
 cell:∀a:Addr,a.block<w.heap.size->w'.cell? a=w.cell? a
theorem SameCells.blk {X X':Ctx}(hw:SameCells X.w X'.w)(hm:Move0 X X' some){b:Nat}{k:Blk}(hσ:X'.σ b=X.σ b)(h:jn X b k):jn X' b k:=by
 cases k with
 | cells cs=>
  obtain⟨n,c,T,e1,e2,e3⟩:=h;exact⟨n,c,T,by rw[hσ];exact e1,hw.cells _ _ _ _ e2,e3.ext0 hm⟩
 | big cs k N l=>
  obtain⟨n,c,T,vs,e1,e2,e3,e4,e5⟩:=h;exact⟨n,c,T,vs,by rw[hσ];exact e1,hw.cells _ _ _ _ e2,e3.ext0 hm,e4,e5⟩
 | vec e sh l=>
  rcases h with⟨e1,e2⟩|⟨n,c,e1,e2,e3⟩
  ·exact .inl ⟨by rw[hσ];exact e1,e2⟩
  ·exact .inr ⟨n,c,by rw[hσ];exact e1,hw.cells _ _ _ _ e2,e3.mono hm.M hm.w⟩
 | frz e sh l=>
  rcases h with⟨e1,e2⟩|⟨n,c,e1,e2,e3,e4⟩
  ·exact .inl ⟨by rw[hσ];exact e1,e2⟩
  ·exact .inr ⟨n,c,by rw[hσ];exact e1,hw.cells _ _ _ _ e2,e3.mono hm.M hm.w,hm.M n e4⟩
 | dead=>trivial
theorem qxE (hs:HSim B X){w':World}{kept':List (Nat×Obj)}(hw:SameCells X.w w')(hsz:X.w.heap.size<=w'.heap.size)(ho:w'.os=X.w.os)(ht:w'.tape=X.w.tape)(hp:w'.output=X.w.output)(hf:∀n,n<B.w0.heap.size->w'.heap[n]?=X.w.heap[n]?) (hk:∀p,p∈kept'->w'.heap[p.1]?=some p.2/\qn5 p.2/\B.w0.heap.size<=p.1) :HSim B { X with w:=w',kept:=kept' }/\Move0 X { X with w:=w',kept:=kept' } some:=by
 have hm:Move0 X { X with w:=w',kept:=kept' } some:=
  ⟨fun _ h=>h,fun a ha=>hw.cell a (hs.ltM _ ha),fun b b' hb h=>by cases h;exact⟨hb,rfl,fun _ _ h=>h,fun _ _ _ n _ c T fr h=>⟨c,T,fr,hw.cells n c T fr h,rfl⟩⟩,rfl⟩
 refine⟨⟨fun b k hb=>SameCells.blk hw hm rfl (hs.blk b k hb),hs.inj,hs.notM,fun n hn=>qMW (hs.ltM n hn) hsz,hs.M0,hs.newM,ho.trans hs.os,ht.trans hs.tape,hp.trans hs.output,
  qMi hs.size hsz,fun n hn hi=>(hf n hn).trans (hs.frame n hn hi),hs.imps,hs.impc,hs.fresh,hk⟩,hm⟩
theorem qvR {w:World}{o o':Obj}(h:w.heap[n]?=some o)(ho:qn5 o)(ho':qn5 o'):SameCells w (w.putObj n o'):=by
 have hn:=(qMk.1 h).1;refine⟨fun m c T fr hm=>?_,fun a _=>?_⟩
 ·by_cases e:m=n
  ·subst e;rw[h] at hm;exact absurd (qMZ hm) (ho _ _ _)
  ·rw[World.putObj_heap_other e];exact hm
 ·by_cases e:a.block=n
  ·unfold World.cell?;rw[e,h,World.putObj_heap_same hn];cases o'<;>cases o<;>first|rfl|exact absurd rfl (ho _ _ _)|exact absurd rfl (ho' _ _ _)
  ·exact qNg (World.putObj_heap_other e)
theorem qdK (hs:HSim B X){o o':Obj}(hk:(n,o)∈X.kept)(ho':qn5 o') :HSim B { X with w:=X.w.putObj n o',kept:=qeU n o' X.kept }/\Move0 X { X with w:=X.w.putObj n o',kept:=qeU n o' X.kept } some:=by
 obtain⟨h1,h2,h3⟩:=hs.kept _ hk;simp only at h1 h2 h3;have hn:=(qMk.1 h1).1;refine qxE hs (qvR h1 h2 ho') (by simp) rfl rfl rfl (fun m hm=>World.putObj_heap_other (by omega)) fun p hp=>?_;rcases qmD hp with rfl|⟨hp,hne⟩
 ·exact⟨World.putObj_heap_same hn,ho',h3⟩
 ·obtain⟨g1,g2,g3⟩:=hs.kept p hp;exact⟨by rw[World.putObj_heap_other hne];exact g1,g2,g3⟩
theorem qnQ (hs:HSim B X){o:Obj}(ho:qn5 o) :HSim B { X with w:=X.w.alloc o,kept:=(X.w.heap.size,o)::X.kept }/\Move0 X { X with w:=X.w.alloc o,kept:=(X.w.heap.size,o)::X.kept } some:=by
 refine qxE hs ⟨fun m c T fr hm=>?_,fun a ha=>qNg (w9 _ _ ha)⟩ (by simp) rfl rfl rfl (fun m hm=>w9 _ _ (qMW hm hs.size)) fun p hp=>?_
 ·rw[w9 _ _ (qMk.1 hm).1];exact hm
 ·rcases qMy.1 hp with rfl|hp
  ·exact⟨wi _ _,ho,hs.size⟩
  ·obtain⟨g1,g2,g3⟩:=hs.kept p hp;exact⟨by rw[w9 _ _ (qMk.1 g1).1];exact g1,g2,g3⟩
theorem qzz (hs:HSim B X){p:Nat×Obj}(h:p∈X.kept):p.1<X.w.heap.size:=(qMk.1 (hs.kept p h).1).1
mutual
theorem Rep.setY'{X:Ctx}(l:Nat):∀{av:AV} {v:Value},Rep X av v->av.noY=true->Rep { X with y:=l } av v
 | _,_,.undef v,_=>.undef v
 | _,_,.skip,_=>.skip
 | _,_,.yld,h=>by cases h
 | _,_,.blit b,_=>.blit b
 | _,_,.bool b,_=>.bool b
 | _,_,.ilit k n,_=>.ilit k n
 | _,_,.int k n,_=>.int k n
 | _,_,.str s,_=>.str s
 | _,_,.nilp,_=>.nilp
 | _,_,.ptr b off n hb hσ,_=>.ptr b off n hb hσ
 | _,_,.eptr sh l i off a hsp h0 h1 hr,_=>.eptr sh l i off a hsp h0 h1 hr
 | _,_,.mnil sh l i off,_=>.mnil sh l i off
 | _,_,.mptr sh l i off a hsp h0 h1 hr,_=>.mptr sh l i off a hsp h0 h1 hr
 | _,_,.vptr b i off n k hb hσ h,_=>.vptr b i off n k hb hσ h
 | _,_,.vsub b i n k m c hb hσ h,_=>.vsub b i n k m c hb hσ h
 | _,_,.aptr b o i n hb hσ h0,_=>.aptr b o i n hb hσ h0
 | _,_,.asub b o N i m n k c hb hσ h0 h1 h2 h3,_=>.asub b o N i m n k c hb hσ h0 h1 h2 h3
 | _,_,.nils,_=>.nils
 | _,_,.imm sh l v h,_=>.imm sh l v h
 | _,_,.full sh l p n h,_=>.full sh l p n h
 | _,_,.vec b p nn cc hb h,_=>.vec b p nn cc hb h
 | _,_,.nilf,_=>.nilf
 | _,_,.fn g first caps vf vc h1 h2,h=>by
  simp only[AV.noY,qMt] at h;exact .fn g _ _ vf vc (RepL.setY' l h1 h.1) (RepL.setY' l h2 h.2)
 | _,_,.agg cs vs h1,h=>.agg _ vs (RepL.setY' l h1 (by simpa only [AV.noY] using h))
 | _,_,.tuple cs vs h1,h=>.tuple _ vs (RepL.setY' l h1 (by simpa only [AV.noY] using h))
 | _,_,.bagg cs k n r vs h1 hl,h=>.bagg _ k n r vs (RepL.setY' l h1 (by simpa only [AV.noY] using h)) hl
theorem RepL.setY'{X:Ctx}(l:Nat):∀{av:List AV} {v:List Value},RepL X av v->AV.noYL av=true->RepL { X with y:=l } av v
 | _,_,.nil,_=>.nil
 | _,_,.cons h1 t,h=>by
  simp only[AV.noYL,qMt] at h;exact .cons (Rep.setY' l h1 h.1) (RepL.setY' l t h.2)
end
theorem Rep.setY (l:Nat){av:AV}{v:Value}(h:av.noY=true)(hr:Rep X av v):Rep { X with y:=l } av v:=hr.setY' l h
theorem RepL.setY (l:Nat){av:List AV}{v:List Value}(h:AV.noYL av=true)(hr:RepL X av v):RepL { X with y:=l } av v:=hr.setY' l h
theorem HSim.setY (h:HSim B X)(l:Nat)(hy:X.h.all Blk.noY=true):HSim B { X with y:=l }:=by
 refine⟨fun b k hb=>?_,h.inj,h.notM,h.ltM,h.M0,h.newM,h.os,h.tape,h.output,h.size,h.frame,h.imps,h.impc,h.fresh,h.kept⟩;have h1:=h.blk b k hb;cases k with
 | cells cs=>
  obtain⟨n,c,T,e1,e2,e3⟩:=h1;have:(Blk.cells cs).noY=true:=qMM.1 hy _ (qN2 hb);exact⟨n,c,T,e1,e2,e3.setY l this⟩
 | big cs k N r=>
  obtain⟨n,c,T,vs,e1,e2,e3,e4,e5⟩:=h1;have:(Blk.big cs k N r).noY=true:=qMM.1 hy _ (qN2 hb);exact⟨n,c,T,vs,e1,e2,e3.setY l this,e4,e5⟩
 | vec e sh l=>exact h1
 | frz e sh l=>exact h1
 | dead=>trivial
theorem qxQ {gl:List (Nat×AV)}(h:q4q gl X)(l:Nat):q4q gl { X with y:=l }:=by intro x hx;obtain⟨⟨sh,r,i,off,he⟩,hr⟩:=h x hx;refine⟨⟨sh,r,i,off,he⟩,hr.move (fun _ h=>h) (fun _ _=>rfl) (Rep.setY l (by rw[he];rfl) hr.1)⟩
theorem qjh {gl:List (Nat×AV)}{X X':Ctx}(hm:Move0 X X' some)(h:q4q gl X):q4q gl X':=fun x hx=>⟨(h x hx).1,(h x hx).2.move hm.M hm.w ((h x hx).2.1.ext0 hm)⟩
theorem Sim.moveB {E:Env}{B B':Base}{X X':Ctx}{st:St}{a:Act}(hs:Sim E B X st a)(h1:HSim B' X')(h2:Move0 X X' some)(h3:X'.h=X.h)(hfs:B'.fs=B.fs)(hy:B'.y=B.y)(hi:B'.imps=B.imps){ds:List Deferred} (h4:qzH X'.kept (B'.pin st.pend) ds) (h5:∀p,p∈B'.pin st.pend->p∈X'.kept):Sim E B' X' st { a with defers:=ds }:=⟨h1,h3.trans hs.h,hs.t.ext0 h2,hfs▸hs.fs.ext0 h2,qjh h2 hs.glob,h4,hi▸hs.ni,(h2.y.trans hs.y).trans hy.symm,h5⟩
def Ex.out:Ex->Exit
 | .normal=>.normal
 | .exit i=>.exit i
 | .ret=>.ret
def qzA(E:Env)(B:Base)(r:Ex×St):Exit->Act->World->Prop:=fun e a w=>e=r.1.out/\∃X',X'.w=w/\Sim E B X' r.2 a
def Ex.code:Ex->Code
 | .normal=>.skip
 | .exit i=>.exit i
 | .ret=>.ret
def q7Q(fid:FuncId)(ct:Array Value)(ps:Array Tmp)(a b:Code)(D:Nat)(e:Option Ex):Loop:={ state:=if e.isNone then .ready else .done,pending:=e.map Ex.code,fn:=fid,tmps:=ct,params:=ps,assign:=a,body:=b,defers:=D }
def ze:Code->List Code
 | .seq a b=>.seq a b::(ze a++ze b)
 | .cond _ a b=>ze a++ze b
 | .block _ c=>ze c
 | .scope c=>ze c
 | .loop c=>.loop c::ze c
 | .rangeFunc x ps a b=>.rangeFunc x ps a b::(ze a++ze b)
 | _=>[]
def qzj(P:Program)(yc:FuncId×Nat)(B:Base):Prop:=
 ∃(fn:Func) (c:Code) (x:Operand) (ps:Array Tmp) (a b:Code),P.funcs[yc.1]?=some fn/\fn.body=some c/\(ze c)[yc.2]?=some (.rangeFunc x ps a b) /\
  ∃(ct:Array Value) (rest:List (List Value)) (D fid:Nat) (more:List (Nat×Obj)),B.fs=ct.toList::rest/\(∀e,B.pin e=(B.y,.loop (q7Q fid ct ps a b D e))::more)/\(∀p,p∈more->p.1≠B.y)/\B.ro=none
def qt(P:Program)(it:List (FuncId×FuncId×Nat))(f:FuncId)(B:Base):Prop:=
 (B.ro.isSome=true->2<=B.fs.length)/\match qjX it f with
  | none=>True
  | some yc=>qzj P yc B
structure SimF (E:Env) (B:Base) (X:Ctx) (st:St):Prop where
 hs:HSim B X
 h:X.h=st.h
 fs:RepLL X (st.t::st.fs) B.fs
 glob:q4q E.glob X
 ni:B.imps.length<=E.nimp
 y:X.y=B.y
 pin:∀p,p∈B.pin st.pend->p∈X.kept
def YOK(E:Env)(P:Program)(y:qCU)(B:Base):Prop:=
 ∀(args:List AV) (st:St) (r:AV×St) (X:Ctx) (a:Act) (vargs:List Value),Sim E B X st a->RepL X args vargs->(y args st).run=some r ->
  ∃(l:Nat) (f:FuncId) (tmps:Array Value) (assign body:Code),(Instr.yield X.y vargs.toArray).run P X.w=.ok (.round l f tmps assign body) X.w /\
  ∀n,RoundIn (q55 B.ro) n P l f tmps assign body X.w fun e w'=>∃v X',e=.returned v/\X'.w=w'/\Rep X' r.1 v/\Sim E B X' r.2 a
def qmH(E:Env)(P:Program)(rangeH:qf9):Prop:=
 ∀(g:FuncId) (y:qCU) (args:List AV) (st:St) (r:AV×St) (B:Base) (X:Ctx) (vargs:List Value),SimF E B X st->qt P E.iter g B->(∀B',qt P E.iter g B'->YOK E P y B')->B.ro=none ->
  RepL X args vargs->(rangeH g y args st).run=some r ->
  (∀w,(callFunc g vargs.toArray).run P w=.ok (.enter g vargs.toArray) w) /\
  Calls P g vargs.toArray X.w fun e w'=>∃v X',e=.returned v/\X'.w=w'/\Rep X' r.1 v/\SimF E B X' r.2
theorem qvt{X:Ctx}:∀(ps:List Tmp) {ct:List AV} {tmps:Array Value} {args:List AV} {vargs:List Value},RepL X ct tmps.toList->RepL X args vargs ->
  RepL X (qrY ct ps args) ((ps.zip vargs).foldl (fun (tmps:Array Value) (p:Tmp×Value)=>tmps.setIfInBounds p.1 p.2) tmps).toList
 | [],_,_,args,_,h,_=>by cases args<;>simpa[qrY] using h
 | p::ps,ct,tmps,_,_,h,.nil=>by simpa[qrY] using h
 | p::ps,ct,tmps,_,_,h,.cons h1 h2=>by
  simp only[qrY,List.zip_cons_cons,qO3];exact qvt ps (by rw[Array.toList_setIfInBounds];exact RepL.set h1 h p) h2
theorem qB0 {E:Env}{P:Program}{f:FuncId}{k:Nat}{fn:Func}{cb:Code}(hf:P.funcs[f]?=some fn)(hb:fn.body=some cb){x:Operand}{ps:Array Tmp}{a b:Code}(hk:(ze cb)[k]?=some (.rangeFunc x ps a b)){evA evB:St->Tree (Ex×St)} (hni:q90 E.iter f=true)(hA:∀(B:Base) (X:Ctx) (st:St) (act:Act) (r:Ex×St),qt P E.iter f B->Sim E B X st act->(evA st).run=some r->∀n,a.wpIn (q55 B.ro) n P (qzA E B r) act X.w)(hB:∀(B:Base) (X:Ctx) (st:St) (act:Act) (r:Ex×St),qt P E.iter f B->Sim E B X st act->(evB st).run=some r->∀n,b.wpIn (q55 B.ro) n P (qzA E B r) act X.w){B:Base} (hI:qzj P (f,k) B):YOK E P (qyW evA evB ps.toList) B:=by
 intro args st r X act vargs hs hargs hr;obtain⟨fn',c',x',ps',a',b',q1,q2,q3,ct,rest,D,fid,more,q4,q5,q6,q7⟩:=hI;simp only at q1 q3;rw[hf] at q1;cases q1;rw[hb] at q2;cases q2;rw[hk] at q3;cases q3;unfold qyW at hr;cases hp:st.pend with
 | some e=>rw[hp] at hr;cases hr
 | none=>
 rw[hp] at hr;cases hfs:st.fs with
 | nil=>rw[hfs] at hr;cases hr
 | cons ctA fsA=>
 rw[hfs] at hr;simp only at hr;cases hlen:Nat.beq args.length ps.toList.length with
 | false=>rw[hlen] at hr;cases hr
 | true=>
 rw[hlen] at hr;simp only at hr;have hlen':=qNd hlen;obtain⟨rA,h1,h2⟩:=bind_some hr;obtain⟨xA,sA⟩:=rA;cases xA with
 | exit i=>cases h2
 | ret=>cases h2
 | normal=>
 simp only at h2;obtain⟨rB,h3,h4⟩:=bind_some h2;have hpin:=hs.pin;have hdf:=hs.df;rw[hp,q5] at hpin hdf;have hrec:(B.y,.loop (q7Q fid ct ps a b D none))∈X.kept:=hpin _ qMB;have hheap:=(hs.hs.kept _ hrec).1;simp only at hheap;have hfsR:=hs.fs;rw[hfs,q4] at hfsR;have hct:RepL X ctA ct.toList:=by cases hfsR with|cons g1 g2=>exact g1
 refine⟨B.y,fid,((ps.zip vargs.toArray).foldl (fun (tmps:Array Value) (p:Tmp×Value)=>tmps.setIfInBounds p.1 p.2) ct),a,b,?_,fun n=>?_⟩
 ·rw[hs.y];exact run_yield (r:=q7Q fid ct ps a b D none) hheap (by simp only[q7Q,List.size_toArray];rw[<-hargs.length,hlen',Array.length_toList])
 rw[q7];apply roundIn_of_wpIn (F:=q55 none) trivial
 let BR:Base:={ B with ro:=some B.y,fs:=act.tmps.toList::B.fs,pin:=fun _=>X.kept }
 have hbR:∀pin,qt P E.iter f { BR with pin:=pin }:=by
  intro pin;refine⟨fun _=>?_,?_⟩
  ·show 2<=(act.tmps.toList::B.fs).length;rw[q4];simp
  ·unfold q90 at hni;split at hni
   ·cases hni
   ·rename_i hn;rw[hn];trivial
 have hsR:Sim E BR X { t:=qrY ctA ps.toList args,fs:=st.t::ctA::fsA,h:=st.h,pend:=none } { tmps:=((ps.zip vargs.toArray).foldl (fun (tmps:Array Value) (p:Tmp×Value)=>tmps.setIfInBounds p.1 p.2) ct),defers:=[] }:=by
  refine⟨hs.hs.base rfl rfl rfl,hs.h,?_,?_,hs.glob,qzH.nil,hs.ni,hs.y,fun p hp=>hp⟩
  ·have:=qvt ps.toList hct hargs;rw[<-Array.foldl_toList,Array.toList_zip];exact this
  ·show RepLL X _ (act.tmps.toList::B.fs);rw[<-hfs];exact .cons hs.t hs.fs
 refine wpIn_mono (hA BR X _ _ _ (hbR _) hsR h1 n) fun e a1 w1 ⟨he,X1,hw1,hs1⟩=>?_;subst he hw1;have hrec1:(B.y,.loop (q7Q fid ct ps a b D none))∈X1.kept:=hs1.pin _ hrec;obtain⟨g1,g2⟩:=qdK hs1.hs (o':=.loop { q7Q fid ct ps a b D none with state:=.busy }) hrec1 (fun _ _ _ h=>by cases h);refine⟨_,run_beginRound (r:=q7Q fid ct ps a b D none) (hs1.hs.kept _ hrec1).1 rfl,?_⟩
 let pinB:List (Nat×Obj):=qeU B.y (.loop { q7Q fid ct ps a b D none with state:=.busy }) X.kept
 obtain⟨Ds1,d1,d2,d3⟩:=hs1.df;have hsB:Sim E { BR with pin:=fun _=>pinB } { X1 with w:=X1.w.putObj B.y (.loop { q7Q fid ct ps a b D none with state:=.busy }),kept:=qeU B.y (.loop { q7Q fid ct ps a b D none with state:=.busy }) X1.kept } sA a1:=by
  refine hs1.moveB (B':={ BR with pin:=fun _=>pinB }) (ds:=a1.defers) (g1.base rfl rfl rfl) g2 rfl rfl rfl rfl ⟨Ds1,d1,d2,fun D' hD'=>⟨q0P (d3 D' hD').1 (fun e=>(d3 D' hD').2 _ hrec e.symm),fun p hp=>?_⟩⟩ fun p hp=>?_
  ·rcases qmD hp with hp|⟨hp,_⟩
   ·rw[hp];exact fun e=>(d3 D' hD').2 _ hrec e
   ·exact(d3 D' hD').2 _ hp
  ·rcases qmD hp with rfl|⟨hp,hne⟩
   ·exact qj8 hrec1
   ·exact q0P (hs1.pin _ hp) hne
 refine wpIn_mono (hB _ _ _ _ _ (hbR _) hsB h3 n) fun e2 a2 w2 ⟨he2,X2,hw2,hs2⟩=>?_;subst he2 hw2;obtain⟨xB,sB⟩:=rB;have hrec2:(B.y,.loop { q7Q fid ct ps a b D none with state:=.busy })∈X2.kept:=hs2.pin _ (qj8 hrec);have hlie2:=(hs2.hs.kept _ hrec2).1;simp only at hlie2;simp only at h4;cases hfs2:sB.fs with
 | nil=>rw[hfs2] at h4;cases h4
 | cons itA fs'=>
 rw[hfs2] at h4;simp only at h4;have fin:∀(e:Option Ex) (_:r=(.blit e.isNone,{ t:=itA,fs:=fs',h:=sB.h,pend:=e })) (_:e=none\/∃x,e=some x),
   ∃v w',(Instr.endRound B.y (e.map Ex.code)).run P X2.w=.ok v w'/\∃v' X',Ending.returned v=.returned v'/\X'.w=w'/\Rep X' r.1 v'/\Sim E B X' r.2 act:=by
  intro e hre _;have hend:=run_endRound (P:=P) (r:={ q7Q fid ct ps a b D none with state:=.busy }) (e.map Ex.code) hlie2;have hobj:({ ({ q7Q fid ct ps a b D none with state:=.busy }:Loop) with state:=if (e.map Ex.code).isNone then .ready else .done,pending:=e.map Ex.code }:Loop)=q7Q fid ct ps a b D e:=by cases e<;>rfl
  rw[hobj] at hend;obtain⟨k1,k2⟩:=qdK hs2.hs (o':=.loop (q7Q fid ct ps a b D e)) hrec2 (fun _ _ _ h=>by cases h);refine⟨_,_,hend,_,{ X2 with w:=X2.w.putObj B.y (.loop (q7Q fid ct ps a b D e)),kept:=qeU B.y (.loop (q7Q fid ct ps a b D e)) X2.kept },rfl,rfl,?_,?_⟩
  ·rw[hre];have:(e.map Ex.code).isNone=e.isNone:=by cases e<;>rfl
   rw[this];exact .blit _
  ·have hfs3:=hs2.fs;rw[hfs2] at hfs3;have hfs4:=hfs3.ext0 k2;have hold:∀p,p∈X.kept->p.1≠B.y->p∈qeU B.y (.loop (q7Q fid ct ps a b D e)) X2.kept:=fun p hp hne=>
    q0P (hs2.pin p (q0P hp hne)) hne
   rw[hre];refine⟨k1.base rfl rfl rfl,hs2.h,?_,?_,qjh k2 hs2.glob,?_,hs.ni,hs2.y,?_⟩
   ·cases hfs4 with|cons z1 z2=>exact z1
   ·cases hfs4 with|cons z1 z2=>exact z2
   ·obtain⟨Ds,m1,m2,m3⟩:=hdf;refine⟨Ds,m1,m2,fun D' hD'=>⟨hold _ (m3 D' hD').1 (fun e'=>(m3 D' hD').2 _ qMB e'.symm),fun p hp=>?_⟩⟩;rw[q5] at hp;rcases qMy.1 hp with rfl|hp
    ·exact(m3 D' hD').2 (B.y,.loop (q7Q fid ct ps a b D none)) qMB
    ·exact(m3 D' hD').2 p (qMF _ hp)
   ·intro p hp;rw[q5] at hp;rcases qMy.1 hp with rfl|hp
    ·exact qj8 hrec2
    ·exact hold p (hpin p (qMF _ hp)) (q6 p hp)
 cases xB with
 | normal=>
  simp only[Tree.run,qMe] at h4;exact fin none h4.symm (.inl rfl)
 | ret=>
  simp only[Tree.run,qMe] at h4;exact fin (some .ret) h4.symm (.inr ⟨_,rfl⟩)
 | exit i=>
  simp only[Tree.run,qMe] at h4;exact fin (some (.exit i)) h4.symm (.inr ⟨_,rfl⟩)
theorem qyG{E:Env}{P:Program}{B:Base}{fn:Func}{st:St}{R:Ending->World->Prop}{n:Nat}:∀(Ds:List Nat) {X:Ctx} {a:Act},Sim E B X st a->a.defers=Ds.map qlb ->
  (∀X',Sim E B X' st { a with defers:=[] }->∃v,(results fn a.tmps).run P X'.w=.ok v X'.w/\R (.returned v) X'.w)->LeavesInM (q55 none) n P fn a.tmps R (Ds.map qlb) .returning X.w
 | [],X,a,hs,hd,h=>by
  have:({ a with defers:=[] }:Act)=a:=by obtain⟨t,d⟩:=a;simp only[List.map_nil] at hd;rw[hd]
  rw[this] at h;exact h X hs
 | D::Ds,X,a,hs,hd,h=>by
  obtain⟨Ds',d1,d2,d3⟩:=hs.df;have hDs:Ds'=D::Ds:=by
   rw[hd] at d1;have inj:∀(l m:List Nat),l.map qlb=m.map qlb->m=l:=by
    intro l;induction l with
    | nil=>intro m hm;cases m with
     | nil=>rfl
     | cons _ _=>cases hm
    | cons x l ih=>intro m hm;cases m with
     | nil=>cases hm
     | cons y m=>
      simp only[qNj,qNG,qlb,Deferred.mk.injEq,Target.collected.injEq,and_true] at hm;rw[ih m hm.2,hm.1]
   exact inj _ _ d1
  subst hDs;obtain⟨m1,m2⟩:=d3 D qMB;have hlie:=(hs.hs.kept _ m1).1;simp only at hlie;obtain⟨g1,g2⟩:=qdK hs.hs (o':=.deferred none) m1 (fun _ _ _ h=>by cases h);have hnd:=List.nodup_cons.1 d2;have hs':=hs.moveB (B':=B) (ds:=Ds.map qlb) g1 g2 rfl rfl rfl rfl ⟨Ds,rfl,hnd.2,fun D' hD'=>⟨q0P (d3 D' (qMF _ hD')).1 (fun e=>hnd.1 (e▸hD')),(d3 D' (qMF _ hD')).2⟩⟩
   (fun p hp=>q0P (hs.pin p hp) (m2 p hp))
  refine⟨by simp,.inl ⟨D,_,rfl,run_takeDeferred hlie,?_⟩⟩;exact qyG Ds (a:={ a with defers:=Ds.map qlb }) hs' rfl h
end Go.Eng

