/- Texts of the proof, merged: what the code computes, and plain laws. No statement stands here. -/
import Derived.Calls
import Derived.Orders
import Derived.OrdersIn
import Derived.TacticsIn
import Derived.Tactics
import Derived.RangeFuncIn
import Derived.RangeFuncLeaves
import Derived.RangeFuncRecord
import Derived.Test.YtjdhkocjkfdebaaGreatDoorH1
namespace Go.Eng
variable {B:Base}{E:Env}{P:Program}{X:Ctx}{l:R}{n:Nat}{r:Res}{t:TypeId}{v:Value}{vs:List Value}{w:World}
theorem qML {k:IntKind}(h:isZ k v=true):v=.int k 0:=by
 unfold isZ at h;split at h
 ·simp only[qP0,decide_eq_true_eq] at h;rw[h.1,h.2]
 ·cases h
theorem ql5 {o n:Nat}{k:IntKind}(h:qF6 E t=some (o,k,n)) :(E.ty t).zero.length=o+n/\(E.ty t).size=o+n/\32<=n/\(E.ty t).zero.drop o=List.replicate n (.int k 0)/\∃fs,(E.ty t).d=.struct fs:=by
 unfold qF6 at h;split at h
 ·rename_i fs hd;split at h
  ·rename_i o' ty sz hl;split at h
   ·rename_i n' e es ha;split at h
    ·rename_i k' hk;split at h
     ·rename_i hc;cases h;simp only[qP0,Nat.ble_eq,Nat.beq_eq,qPi] at hc;obtain⟨⟨⟨c1,c2⟩,c3⟩,c4⟩:=hc;refine⟨c2,c3,c1,?_,fs,hd⟩;apply List.eq_replicate_iff.2;exact⟨by simp[c2],fun v hv=>qML (c4 v hv)⟩
     ·cases h
    ·cases h
   ·cases h
  ·cases h
 ·cases h
theorem qEw (k:IntKind)(n:Nat):q1e k (q4e n [.i 0])=List.replicate n (.int k 0):=by simp[q1e,q4e,U.toI]
theorem qtL (n:Nat)(r:List U):(q4e n r).length=n:=by simp[q4e]
theorem qqm {o n:Nat}{k:IntKind}(h:qF6 E t=some (o,k,n)):(E.ty t).zero=(E.ty t).zero.take o++q1e k (q4e n [.i 0]):=by obtain⟨h1,h2,h3,h4,_⟩:=ql5 h;rw[qEw,<-h4,qQX]
theorem qIZ (hs:HSim B X){cs:List AV}{k:IntKind}{c:Array Value}{T:TypeId}(hr:RepL X cs vs)(hc:c.toList=vs++q1e k l)(hl:l.length=n) :HSim B (X.pushW (.big cs k n l) (some X.w.heap.size) (X.w.alloc (.cells c T))):=by have hw:=PushW.alloc X (.cells c T);exact hs.push hw ⟨X.w.heap.size,c,T,vs,by simp[Ctx.pushW],zU _ _,hr.ext (Ctx.push_ext hs _ hw),hc,hl⟩
theorem qtm (hs:HSim B X){cs:List AV}{k:IntKind}(hr:RepL X cs vs)(hc:v.cells.toList=vs++q1e k l)(hl:l.length=n){m:Sem Value}(hm:m.run P X.w=.ok (.pointer (some ⟨X.w.heap.size,0,none⟩)) (X.w.alloc (.cells v.cells t))) :qL P B X (do pure (.value (<-m))) (.ptr X.h.length 0,X.h++[.big cs k n l],none):=
 ⟨.value (.pointer (some ⟨X.w.heap.size,0,none⟩)),_,X.pushW (.big cs k n l) (some X.w.heap.size) (X.w.alloc (.cells v.cells t)),by simp[hm];rfl,.inl rfl,qDo,qIZ hs hr hc hl,rfl,
  Ctx.push_ext hs _ (PushW.alloc X _)⟩
theorem qxn {h:List Blk}{k:Option Blk}(hr:(qGE h k).run=some r):∃z,k=some z/\r=(.ptr h.length 0,h++[z],none):=by
 cases k with
 | none=>cases hr
 | some z=>cases hr;exact⟨z,rfl,rfl⟩
theorem qHY (hs:HSim B X){a:AV}(hv:Rep X a v){z:Blk}(hz:qHu a=some z) :qL P B X (do pure (.value (<-Instr.box t v))) (.ptr X.h.length 0,X.h++[z],none):=by
 unfold qHu at hz;split at hz
 ·rename_i cs k n l;split at hz
  ·cases hz;cases hv with
   | bagg _ _ _ _ vs h hl=>exact qtm (t:=t) (v:=.agg (vs++q1e k l).toArray) hs h (by simp[Value.cells]) hl (by simp[Instr.box,qc3])
  ·cases hz
 ·split at hz
  ·rename_i hc;cases hz;exact qKj hs hv hc
  ·cases hz
theorem qD6 (hE:E.tok P)(hs:HSim B X){z:Blk}(hz:qhG E t=some z) :qL P B X (do pure (.value (<-Instr.alloc t true (.tuple #[])))) (.ptr X.h.length 0,X.h++[z],none):=by
 unfold qhG at hz;split at hz
 ·rename_i o k n hb;split at hz
  ·cases hz;obtain⟨b1,b2,b3,b4,_⟩:=ql5 hb;obtain⟨v,h1,h2,_⟩:=qhd hE (t:=t) (by omega) X.w;refine qtm (t:=t) (v:=v) (vs:=(E.ty t).zero.take o) hs (jA X _) ?_ (qtL _ _) ?_
   ·rw[h2];exact qqm hb
   ·simp[Instr.alloc,h1,qc3]
  ·cases hz
 ·split at hz
  ·rename_i hc;cases hz;exact qFl hE hs hc.2
  ·cases hz
theorem qxW {k:IntKind}{c:Array Value}(hc:c.toList=vs++q1e k l){j:Nat}(hj:j<l.length):c[vs.length+j]?=some (.int k (cI l j 0)):=by
 have:c.toList[vs.length+j]?=some (.int k (cI l j 0)):=by rw[hc,qP4 (by omega),Nat.add_sub_cancel_left,qjk hj]
 simpa using this
theorem qIT (l:R){i:Int}(h:0<=i)(j:Nat):cI l ((i.toNat:Nat):Int) j=cI l i j:=by rw[qQD h]
theorem qBC (hE:E.tok P)(hs:HSim B X){b off n0:Nat}(hσ:X.σ b=some n0){cs:List AV}{k:IntKind}(hh:X.h[b]?=some (.big cs k n l))(h:(qH1 E X.h t off cs k n l).run=some r):∃av u,r=(av,X.h,none)/\(Instr.loadAt t (.pointer (some ⟨n0,off,none⟩))).run P X.w=.ok u X.w/\Rep X av u:=by
 obtain⟨n1,c,T,vs,e1,e2,e3,e4,e5⟩:=hs.blk b _ hh;rw[hσ] at e1;cases e1;have hlen:=e3.length;have hcl:c.size=vs.length+n:=by
  have:c.toList.length=(vs++q1e k l).length:=by rw[e4]
  simpa[ub,e5] using this
 unfold qH1 at h;by_cases hk:(E.ty t).d.known=false
 ·rw[if_pos hk] at h;cases h
 rw[if_neg hk] at h;have hk':(E.ty t).d.known=true:=by simpa using hk
 simp only[Instr.loadAt,Instr.sureAddr,qOQ,qPh,qOW];unfold loadVar;rw[qOQ,qgh hE hk',qOW];cases ha:(E.ty t).d.isAgg with
 | true=>
  rw[ha] at h;simp only[if_true] at h ⊢;split at h
  ·rename_i hc;obtain⟨rfl,hc2⟩:=hc;cases h;refine⟨_,.agg (vs++q1e k l).toArray,rfl,?_,.bagg _ _ _ _ vs e3 e5⟩;have:=run_loadCells_list (P:=P) X.w ⟨n0,0,none⟩ (vs++q1e k l) (fun j v hj=>by rw[qPy,zS e2,qPD];rw[<-e4] at hj;simpa using hj);have hl:(vs++q1e k l).length=(E.ty t).size:=by simp[ub];omega
   rw[hl] at this;simp[qlf hE hk',this]
  ·cases h
 | false=>
  rw[ha] at h;simp only[qPo,if_false] at h ⊢;split at h
  ·rename_i v hv;cases h;obtain⟨u,g1,g2⟩:=e3.get off v hv;have h2:X.w.cell? ⟨n0,off,none⟩=some u:=by
    rw[zS e2];have:c.toList[off]?=some u:=by rw[e4,qOY (qq g1)];exact g1
    simpa using this
   exact⟨_,u,rfl,by simp[h2],g2⟩
  ·rename_i hv;have hge:cs.length<=off:=by
    rcases qOT off cs.length with hlt|hge
    ·rw[qOS hlt] at hv;cases hv
    ·exact hge
   split at h
   ·rename_i hlt;cases h;have h2:X.w.cell? ⟨n0,off,none⟩=some (.int k (cI l ((off-cs.length:Nat):Int) 0)):=by
     rw[zS e2];have:=qxW e4 (j:=off-cs.length) (by omega)
     rwa [show vs.length+(off-cs.length)=off by omega] at this
    exact⟨_,_,rfl,by simp[h2],.int _ _⟩
   ·cases h
theorem qyM (hE:E.tok P)(hs:HSim B X){p:AV}(hv:Rep X p v)(h:(qf2 E X.h t p).run=some r):∃av u,r=(av,X.h,none)/\(Instr.loadAt t v).run P X.w=.ok u X.w/\Rep X av u:=by
 unfold qf2 at h;split at h
 ·rename_i b off;split at h
  ·rename_i cs k n l hh;cases hv with
   | ptr _ _ n0 hb hσ=>exact qBC hE hs hσ hh h
  ·exact qkC hE hs hv h
 ·rename_i b o i;split at h
  ·rename_i cs k n l hh;split at h
   ·rename_i hc;obtain⟨hc1,hc2,hc3⟩:=hc;obtain⟨g1,g2⟩:=j9 h;cases g2;obtain⟨g3,g4⟩:=qnn g1;cases hv with
    | aptr _ _ _ n0 hb hσ h0=>
     obtain⟨n1,c,T,vs,e1,e2,e3,e4,e5⟩:=hs.blk b _ hh;rw[hσ] at e1;cases e1;have hlen:=e3.length;have h2:X.w.cell? ⟨n0,o+i.toNat,none⟩=some (.int k (cI l i 0)):=by
      rw[zS e2];have:=qxW e4 (j:=i.toNat) (by omega);rw[qIT l g3] at this
      rwa [show vs.length+i.toNat=o+i.toNat by omega] at this
     refine⟨_,_,rfl,?_,.int _ _⟩;simp only[Instr.loadAt,Instr.sureAddr,qOQ,qPh,qOW];unfold loadVar;rw[qOQ,qgh hE hc1,qOW,hc2];simp[h2]
   ·cases h
  ·cases h
 ·exact qkC hE hs hv h
theorem qIx (k:IntKind)(l:R)(j:Nat)(x:Int):q1e k (qcN l (j:Int) 0 [.i x])=(q1e k l).set j (.int k x):=by
 apply qPC;intro i;have hl:(qcN l (j:Int) 0 [.i x]).length=l.length:=by simp[qcN]
 by_cases hi:i<l.length
 ·rw[qjk (by omega)];by_cases hij:i=j
  ·subst hij;rw[qOZ (by rw[ub];exact hi)];have:=qjm (l:=l) (i:=(i:Int)) (off:=0) (us:=[.i x]) (by simpa using hi) (j:=0);simp only[cI,this];rfl
  ·rw[qOO (qPe hij),qjk hi];have:=qiK (l:=l) (i:=(j:Int)) (off:=0) (us:=[.i x]) (r:=i) (by simpa using hij) (j:=0);simp only[cI,this]
 ·rw[qP7 (by rw[ub];omega),qP7 (by simp[ub];omega)]
theorem qEq (hE:E.tok P)(hs:HSim B X){b n0 j:Nat}(hσ:X.σ b=some n0){cs:List AV}{k:IntKind}(hh:X.h[b]?=some (.big cs k n l))(hj:j<n) (hsz:(E.ty t).size=1) (x:Int):qL P B X (do Instr.storeAt t (.pointer (some ⟨n0,cs.length+j,none⟩)) (.int k x);pure .skip) (.skip,X.h.set b (.big cs k n (qcN l (j:Int) 0 [.i x])),none):=by
 obtain⟨n1,c,T,vs,e1,e2,e3,e4,e5⟩:=hs.blk b _ hh;rw[hσ] at e1;cases e1;have hlen:=e3.length;have hcl:c.size=vs.length+n:=by
  have:c.toList.length=(vs++q1e k l).length:=by rw[e4]
  simpa[ub,e5] using this
 have hsz':(sizeOf t).run P X.w=.ok (Value.int k x).cells.size X.w:=qbz hE (by rw[hsz];rfl) (by show 1≠0;omega) X.w;have hrun:=q2V (P:=P) (t:=t) (o:=cs.length+j) (v:=.int k x) e2 hsz' (by show cs.length+j+1<=_;omega) (fun u hu=>by
  have:u=.int k x:=by simpa[Value.cells] using hu
  rw[this];rfl)
 have hc':c.toList.take (cs.length+j)++(Value.int k x).cells.toList++c.toList.drop (cs.length+j+(Value.int k x).cells.size)=vs++q1e k (qcN l (j:Int) 0 [.i x]):=by
  rw[qIx,e4];have h1:(Value.int k x).cells.toList=[.int k x]:=rfl;have h2:(Value.int k x).cells.size=1:=rfl;rw[h1,h2];apply qPC;intro i;have hsp:=qg8 (c:=vs++q1e k l) (vs:=[Value.int k x]) (o:=cs.length+j) (k:=i) (by simp[ub];omega);simp only[qPg,qPu,qPD] at hsp;rw[hsp];by_cases hi:i=cs.length+j
  ·subst hi;rw[if_pos (by omega),qP4 (by omega),show cs.length+j-vs.length=j by omega,qOZ (by rw[ub];omega)];simp
  ·rw[if_neg (by omega)];rcases qOT i vs.length with hlt|hge
   ·rw[qOY hlt,qOY hlt]
   ·rw[qP4 hge,qP4 hge,qOO (by omega)]
 have hup:=UpdW.setRow (X:=X) (c':=(c.toList.take (cs.length+j)++(Value.int k x).cells.toList++c.toList.drop (cs.length+j+(Value.int k x).cells.size)).toArray) e2 (by have h1:(Value.int k x).cells.toList=[.int k x]:=rfl;have h2:(Value.int k x).cells.size=1:=rfl;rw[h1,h2];simp;omega);have hown:X.own b n0:=⟨hσ,_,hh,rfl⟩;have hkk:qiL (.big cs k n l) (.big cs k n (qcN l (j:Int) 0 [.i x])):=trivial;have hx:=Ctx.upd_ext hs hh hown hup hkk;refine⟨.skip,Go.undef,X.upd b (.big cs k n (qcN l (j:Int) 0 [.i x])) (X.w.setRow n0 _),?_,.inr ⟨rfl,rfl⟩,.skip,hs.upd hh hown hup hkk ?_,rfl,hx⟩
 ·simp[Instr.storeAt,Instr.sureAddr,hrun];rfl
 ·exact⟨n0,_,T,vs,hσ,hup.new,e3.ext hx,by rw[<-hc'],by simp[qcN,e5]⟩
theorem qES (hE:E.tok P)(hs:HSim B X){b off n0:Nat}(hσ:X.σ b=some n0){cs:List AV}{k:IntKind}(hh:X.h[b]?=some (.big cs k n l)){a:AV} {v:Value} (hv:Rep X a v) {r:Res} (h:(qyD E X.h t b off cs k n l a).run=some r):qL P B X (do Instr.storeAt t (.pointer (some ⟨n0,off,none⟩)) v;pure .skip) r:=by
 obtain⟨n1,c,T,vs,e1,e2,e3,e4,e5⟩:=hs.blk b _ hh;rw[hσ] at e1;cases e1;have hlen:=e3.length;have hcl:c.size=vs.length+n:=by
  have:c.toList.length=(vs++q1e k l).length:=by rw[e4]
  simpa[ub,e5] using this
 have hown:X.own b n0:=⟨hσ,_,hh,rfl⟩;unfold qyD at h;split at h
 ·rename_i cs' k' n' l';split at h
  ·rename_i hc;obtain⟨rfl,rfl,rfl,c1,c2,c3,c4⟩:=hc;cases h;cases hv with
   | bagg _ _ _ _ vs' h' hl'=>
    have hlen':=h'.length;have hcs:(Value.agg (vs'++q1e k l').toArray).cells.toList=vs'++q1e k l':=by simp[Value.cells]
    have hcz:(Value.agg (vs'++q1e k l').toArray).cells.size=c.size:=by simp[Value.cells,ub];omega
    have hsz':(sizeOf t).run P X.w=.ok (Value.agg (vs'++q1e k l').toArray).cells.size X.w:=qbz hE (by rw[hcz];omega) (by rw[hcz];omega) X.w;have hrun:=q2V (P:=P) (t:=t) (o:=0) (v:=.agg (vs'++q1e k l').toArray) e2 hsz' (by omega) (fun u hu=>by
     rw[hcs] at hu;rcases qPa.1 hu with hu|hu
     ·exact qe0 h' c4 u hu
     ·unfold q1e at hu;obtain⟨row,_,hr⟩:=qPE.1 hu;rw[<-hr];rfl)
    have hup:=UpdW.setRow (X:=X) (c':=(c.toList.take 0++(Value.agg (vs'++q1e k l').toArray).cells.toList++c.toList.drop (0+(Value.agg (vs'++q1e k l').toArray).cells.size)).toArray) e2 (by rw[hcs];simp[hcz,ub];omega);have hkk:qiL (.big cs k n l) (.big cs' k n l'):=trivial;have hx:=Ctx.upd_ext hs hh hown hup hkk;refine⟨.skip,Go.undef,X.upd b (.big cs' k n l') (X.w.setRow n0 _),?_,.inr ⟨rfl,rfl⟩,.skip,hs.upd hh hown hup hkk ?_,rfl,hx⟩
    ·simp only[Instr.storeAt,Instr.sureAddr,qOQ,qPh,qOW,hrun];rfl
    ·refine⟨n0,_,T,vs',hσ,hup.new,h'.ext hx,?_,hl'⟩;rw[hcs];simp[hcz]
  ·cases h
 ·rename_i hnb;split at h
  ·rename_i hc;obtain⟨c1,c2,c3⟩:=hc;split at h
   ·rename_i hle;have hle':off+a.cells.length<=cs.length:=Nat.le_of_ble_eq_true hle;cases h;have hrl:=qjT hv c2;have hlenv:v.cells.size=a.cells.length:=by have:=hrl.length;simpa using this.symm
    have hone:=qe0 hrl c2;have hsz:(sizeOf t).run P X.w=.ok v.cells.size X.w:=by rw[hlenv];exact qbz hE c1 c3 X.w
    have hrun:=q2V (P:=P) (t:=t) (o:=off) (v:=v) e2 hsz (by omega) hone;have hup:=UpdW.setRow (X:=X) (c':=(c.toList.take off++v.cells.toList++c.toList.drop (off+v.cells.size)).toArray) e2 (by simp;omega);have hkk:qiL (.big cs k n l) (.big (qrU cs off a.cells) k n l):=trivial;have hx:=Ctx.upd_ext hs hh hown hup hkk;refine⟨.skip,Go.undef,X.upd b (.big (qrU cs off a.cells) k n l) (X.w.setRow n0 _),?_,.inr ⟨rfl,rfl⟩,.skip,hs.upd hh hown hup hkk ?_,rfl,hx⟩
    ·simp[Instr.storeAt,Instr.sureAddr,hrun];rfl
    ·refine⟨n0,_,T,vs.take off++v.cells.toList++vs.drop (off+a.cells.length),hσ,hup.new,(qgW e3 hrl off).ext hx,?_,e5⟩;show c.toList.take off++v.cells.toList++c.toList.drop (off+v.cells.size)=_;rw[e4,hlenv,List.take_append_of_le_length (by omega),List.drop_append_of_le_length (by omega)];simp
   ·split at h
    ·rename_i k' x hx;split at h
     ·rename_i hc2;obtain⟨rfl,d1,d2⟩:=hc2;cases h;obtain rfl:=q49 hv hx;have hone:a.cells.length=1:=by cases a<;>simp[asI] at hx<;>rfl
      have:=qEq (P:=P) hE hs hσ hh (j:=off-cs.length) (by omega) (t:=t) (by omega) x
      rwa [show cs.length+(off-cs.length)=off by omega] at this
     ·cases h
    ·cases h
  ·cases h
theorem qzf (hE:E.tok P)(hs:HSim B X){p a:AV}{vp v:Value}(hp:Rep X p vp)(hv:Rep X a v)(h:(q0a E X.h t p a).run=some r):qL P B X (do Instr.storeAt t vp v;pure .skip) r:=by
 unfold q0a at h;split at h
 ·rename_i b off;split at h
  ·rename_i cs k n l hh;cases hp with
   | ptr _ _ n0 hb hσ=>exact qES hE hs hσ hh hv h
  ·exact qs7 hE hs hp hv h
 ·rename_i b o i;split at h
  ·rename_i cs k n l hh;split at h
   ·rename_i k' x hx;split at h
    ·rename_i hc;obtain⟨rfl,rfl,hc3⟩:=hc;obtain⟨g1,g2⟩:=j9 h;cases g2;obtain⟨g3,g4⟩:=qnn g1;obtain rfl:=q49 hv hx;cases hp with
     | aptr _ _ _ n0 hb hσ h0=>
      have:=qEq (P:=P) hE hs hσ hh (j:=i.toNat) (by omega) (t:=t) hc3 x
      rwa [qQD h0] at this
    ·cases h
   ·cases h
  ·cases h
 ·exact qs7 hE hs hp hv h
theorem qq4 (hE:E.tok P)(hs:HSim B X){a ai:AV}{v vi:Value}(hv:Rep X a v)(hi:Rep X ai vi)(h:(q0U E X.h t a ai).run=some r):∃av u,r=(av,X.h,none)/\(Instr.indexAt t v vi).run P X.w=.ok u X.w/\Rep X av u:=by
 unfold q0U at h;split at h
 ·rename_i n e es hd;split at h
  ·split at h
   ·rename_i b off;split at h
    ·rename_i k i;split at h
     ·rename_i hes;obtain⟨ht,hce⟩:=q8Z hE hd;obtain⟨g1,g2⟩:=j9 h;cases g2;obtain⟨g3,g4⟩:=qnn g1;obtain rfl:=q49 hi rfl;cases hv with
      | ptr _ _ n0 hb hσ=>
       refine⟨_,_,rfl,q0m ht (by omega) g3 g4,?_⟩;rw[qPy,<-hce,hes,qQr];exact .aptr b off i n0 hb hσ g3
     ·cases h
    ·exact q3N hE hs hv hi h
   ·exact q3N hE hs hv hi h
  ·exact q3N hE hs hv hi h
 ·exact q3N hE hs hv hi h
theorem qmd{X:Ctx}{place:Nat->Option (Nat×Nat)}(tl:List Value):∀{parts:List (Nat×AV)} {vparts:List (Nat×Value)} {cells cs:List AV} {vc:Array Value} {vs:List Value},
  qgv place cells parts=some cs->RepP X parts vparts->RepL X cells vs->vc.toList=vs++tl->∃vc' vs',Instr.fill place vc vparts=some vc'/\RepL X cs vs'/\vc'.toList=vs'++tl
 | [],_,cells,cs,vc,vs,h,hp,hr,hv=>by
  cases hp;simp only[qgv,qOL] at h;subst h;exact⟨vc,vs,rfl,hr,hv⟩
 | (i,a)::rest,_,cells,cs,vc,vs,h,hp,hr,hv=>by
  cases hp with
  | cons ha ht=>
  rename_i v m;simp only[qgv] at h;cases hpl:place i with
  | none=>rw[hpl] at h;cases h
  | some q=>
   obtain⟨off,size⟩:=q;rw[hpl] at h;simp only at h;by_cases hc:a.cells.length=size/\off+a.cells.length<=cells.length/\yu a.cells=true
   ·rw[if_pos hc] at h;have hrl:=qjT ha hc.2.2;have hlen:v.cells.size=a.cells.length:=by have:=hrl.length;simpa using this.symm
    have hvs:cells.length=vs.length:=hr.length;have hvc:vc.size=vs.length+tl.length:=by
     have:vc.toList.length=(vs++tl).length:=by rw[hv]
     simpa using this
    have hnot:¬(v.cells.size≠size\/off+v.cells.size>vc.size):=by omega
    have hf:=qwY v.cells vc off (by omega);obtain⟨vc',vs',h1,h2,h3⟩:=qmd tl (vc:=v.cells.zipIdx.foldl (fun cs (x:Value×Nat)=>cs.setIfInBounds (off+x.2) x.1) vc) (vs:=vs.take off++v.cells.toList++vs.drop (off+a.cells.length)) h ht (qgW hr hrl off) (by rw[hf,hlen,hv,List.take_append_of_le_length (by omega),List.drop_append_of_le_length (by omega)];simp);refine⟨vc',vs',?_,h2,h3⟩;simp only[Instr.fill,hpl];rw[if_neg (by simpa using hnot)];exact h1
   ·rw[if_neg hc] at h;cases h
theorem qwv (hE:E.tok P){parts:List (Nat×AV)}{vparts:Array (Nat×Value)}(hp:RepP X parts vparts.toList)(h:(qe4 E X.h t parts).run=some r):∃av u,r=(av,X.h,none)/\(Instr.build t vparts).run P X.w=.ok u X.w/\Rep X av u:=by
 unfold qe4 at h;split at h
 ·rename_i o k n hb;obtain⟨b1,b2,b3,b4,_⟩:=ql5 hb;split at h
  ·rename_i fs hd;split at h
   ·rename_i hok;obtain⟨z,z1,z2,_⟩:=qhd hE (t:=t) (by omega) X.w;obtain⟨fields,e1,e2⟩:=q9g hE hd;have hinfo:∀f∈fields.toList,(P.info? f.type).isSome=true:=by have hk:=q0c hE (t:=t) (by rw[hd];rfl);rw[hk.1] at hok;unfold qBr at hok;obtain⟨_,i,dd,h1,_⟩:=hk;rw[h1] at hok;simpa only [e1,qPi] using hok
    cases hf:qgv (fun i=>(fs[i]?).map fun (f:Nat×TypeId×Nat)=>(f.1,f.2.2)) (((E.ty t).zero.take o).map jl) parts with
    | none=>rw[hf] at h;cases h
    | some cs=>
     rw[hf] at h;cases h;have hpl:(fun i:Nat=>(fs[i]?).map fun (f:Nat×TypeId×Nat)=>(f.1,f.2.2))=fun i:Nat=>(fields.map fun f=>(f.offset,P.cellsOf f.type))[i]?:=by funext i;rw[e2];simp only[qOU,qQS,Array.getElem?_map,Option.map_map];rfl
     rw[hpl] at hf;obtain⟨vc,vs',f1,f2,f3⟩:=qmd (q1e k (q4e n [.i 0])) (vc:=z.cells) (vs:=(E.ty t).zero.take o) hf hp (jA X _) (by rw[z2];exact qqm hb);have:Rep X (.bagg cs k n (q4e n [.i 0])) (.agg (vs'++q1e k (q4e n [.i 0])).toArray):=.bagg _ _ _ _ _ f2 (qtL _ _);rw[<-f3] at this;refine⟨_,.agg vc,rfl,?_,by simpa using this⟩;have hm:=qDz (P:=P) (f:=fun f:Field=>(do pure (f.offset,<-sizeOf f.type):Sem (Nat×Nat))) (g:=fun f=>(f.offset,P.cellsOf f.type)) fields (fun f hf w=>by
      have:=hinfo f hf;cases hi:P.info? f.type with
      | none=>rw[hi] at this;cases this
      | some i=>simp[sizeOf,typeInfo,hi,Program.cellsOf]) X.w
     simp only[Instr.build,qOQ,z1,qOW,run_underlying e1];rw[hm];simp only[qOW,f1];rfl
   ·cases h
  ·cases h
 ·exact qy2 hE hp h
theorem qgI {t e:TypeId}{ad:Addr}{vlo vhi:Option Value}{a b:Nat}(ht:P.underlying t=some (.array n e))(hp:0<P.cellsOf e)(hb:(Instr.sliceBounds false n n vlo vhi none).run P w=.ok (a,b,n) w) :(Instr.sliceAt t (.pointer (some ad)) vlo vhi none).run P w=.ok (.slice (some (if n=a then ad else ad.add (a*P.cellsOf e))) (b-a) (n-a)) w:=by simp[Instr.sliceAt,run_underlying ht,Instr.sureAddr,hb,zw hp]
theorem qp3 {t e:TypeId}{ad:Addr}{vlo vhi vmx:Option Value}{a b:Nat}(ht:P.underlying t=some (.array n e))(hp:0<P.cellsOf e)(hb:(Instr.sliceBounds false n n vlo vhi vmx).run P w=.ok (a,b,b) w) :(Instr.sliceAt t (.pointer (some ad)) vlo vhi vmx).run P w=.ok (.slice (some (if b=a then ad else ad.add (a*P.cellsOf e))) (b-a) (b-a)) w:=by simp[Instr.sliceAt,run_underlying ht,Instr.sureAddr,hb,zw hp]
theorem Sh.beq_eq1 {s t:Sh}(h:Sh.beq s t=true):s=t:=by
 have:Sh.beqL [s] [t]=true:=by simp[Sh.beqL,h]
 have:=Sh.beqL_eq _ _ this;cases this;rfl
theorem qCL {M:Nat->Prop}{sh:List Sh}{i:Int}{off n:Nat}{s:Sh}{rows:R}(h:qBx sh l i off n=some (s,rows)){a:Addr}(_:a.spot=none)(hr:Rows w M sh l a) :rows.length=n/\i=0/\qhB w M [s] rows (.slice (some ⟨a.block,a.off+i.toNat*sh.length+off,none⟩) n n):=by
 unfold qBx at h;split at h
 ·rename_i s' row hs;split at h
  ·rename_i hc;obtain⟨⟨rfl,c1⟩,c2,c3⟩:=hc;cases h;have hl:(((row.drop off).take n).map fun u=>[u]).length=n:=by simp;omega
   refine⟨hl,rfl,.inr ⟨_,n,by rw[hl],fun _=>rfl,by rw[hl];exact qON n,fun r j hj hrn=>?_⟩⟩;rw[hl] at hrn;have hj0:j=0:=by simpa using hj
   subst hj0;have hlt:off+r<sh.length:=by omega
   obtain⟨g1,v,g2,g3⟩:=hr 0 (off+r) hlt (by simp);refine⟨g1,v,?_,?_⟩
   ·rw[<-g2];show World.cell? w ⟨a.block,a.off+(0:Int).toNat*sh.length+off+r*1+0,none⟩=_;congr 2;simp;omega
   ·have e1:sh[off+r]=s:=by
     have hm:sh[off+r]∈(sh.drop off).take n:=by rw[List.mem_iff_getElem];refine⟨r,by simp;omega,by simp⟩
     exact(Sh.beq_eq1 (qPi.1 c2 _ hm)).symm
    have e2:zJ [row] ((0:Nat):Int) (off+r)=zJ (((row.drop off).take n).map fun u=>[u]) (r:Int) 0:=by
     unfold zJ;have h1:(((row.drop off).take n).map fun u=>[u]).getD ((r:Nat):Int).toNat []=[row.getD (off+r) (.i 0)]:=by rw[qOX,qOM,qOU,qPQ,if_pos hrn,qPR,qOM,qOS (show off+r<row.length by omega)];rfl
     rw[h1];rfl
    rw[e1] at g3;rw[<-e2];exact g3
  ·cases h
 ·cases h
theorem qu8 {lo:Option AV}{vlo:Option Value}(hlo:RepO X lo vlo){k k':IntKind}{a b:Int}(h1:qgV lo 0=some a) (hb:b<=n) (ha0:0<=a) (ha:a<=b) (w:World) :(Instr.sliceBounds false n n vlo (some (.int k b)) (some (.int k' b))).run P w=.ok (a.toNat,b.toNat,b.toNat) w:=by
 have hb0:0<=b:=by omega
 have hba:a<=(b.toNat:Nat):=by omega
 have hbb:b<=(b.toNat:Nat):=by omega
 rcases qop hlo h1 with⟨rfl,rfl⟩|⟨k,rfl⟩
 ·simp[Instr.sliceBounds,zl hb0 hb,zl hb0 hbb]
 ·simp[Instr.sliceBounds,zl hb0 hb,zl hb0 hbb,zl ha0 hba]
theorem qCJ (hs:HSim B X){t e:TypeId}(hta:P.underlying t=some (.array n e))(hce:P.cellsOf e=1){ad:Addr}{s:Sh}{rows:R}(hl:rows.length=n)(himm:qhB X.w X.M [s] rows (.slice (some ad) n n)) {lo hi mx:Option AV} {vlo vhi vmx:Option Value} (hlo:RepO X lo vlo) (hhi:RepO X hi vhi) (hmx:RepO X mx vmx) {r:Res}(h:(qBs X.h n s rows lo hi mx).run=some r):qL P B X (do pure (.value (<-Instr.sliceAt t (.pointer (some ad)) vlo vhi vmx))) r:=by
 have hrl:qg rows=(n:Int):=by unfold qg;rw[hl]
 unfold qBs at h;cases mx with
 | none=>
  cases hmx;simp only at h;cases h1:qgV lo 0 with
  | none=>rw[h1] at h;cases h
  | some x=>
   cases h2:qgV hi n with
   | none=>rw[h1,h2] at h;cases h
   | some y=>
    rw[h1,h2] at h;obtain⟨g1,g2⟩:=j9 h;obtain⟨g3,g4⟩:=j9 g2;cases g4;obtain⟨q1,q2⟩:=q0d g1;obtain⟨q3,q4⟩:=q0d g3;have hrun:=qgI (P:=P) (w:=X.w) (ad:=ad) hta (by omega) (q0H hlo hhi h1 h2 rfl q1 (by omega) q3 q4 _);refine qL.ofV hs hrun ?_;obtain⟨_,_,w3⟩:=qvi himm q3 q4 (by rw[hrl];exact q2);refine .imm _ _ _ ?_;rw[hce];have e0:(if n=x.toNat then some ad else (some ad).map (·.add (x.toNat*[s].length)))=some (if n=x.toNat then ad else ad.add (x.toNat*1)):=by split<;>rfl
    rw[e0] at w3;exact w3
 | some m=>
  simp only at h;cases h1:qgV lo 0 with
  | none=>rw[h1] at h;cases h
  | some x=>
   cases hi with
   | none=>rw[h1] at h;cases h
   | some y=>
   rw[h1] at h;simp only[qPd] at h;cases h2:asI y with
   | none=>rw[h2] at h;cases h
   | some p=>
    obtain⟨k1,c⟩:=p;cases h3:asI m with
    | none=>rw[h2,h3] at h;cases h
    | some p'=>
     obtain⟨k2,d⟩:=p';rw[h2,h3] at h;obtain⟨g1,g2⟩:=j9 h;obtain⟨g3,g4⟩:=j9 g2;obtain⟨g5,g6⟩:=j9 g4;cases g6;obtain⟨q1,q2⟩:=q0d g1;obtain⟨q3,q4⟩:=q0d g3;have hcd:c=d:=of_decide_eq_true g5;subst hcd;cases hhi with
     | some hy=>
      cases hmx with
      | some hm=>
       obtain⟨k3,rfl⟩:=qxY hy h2;obtain⟨k4,rfl⟩:=qxY hm h3;have hrun:=qp3 (P:=P) (w:=X.w) (ad:=ad) hta (by omega) (qu8 (k:=k3) (k':=k4) hlo h1 q2 q3 q4 _);refine qL.ofV hs hrun ?_;obtain⟨_,w3⟩:=qxp himm q3 q4 (by rw[hrl];exact q2);rw[hce];have e0:(if c.toNat=x.toNat then some ad else (some ad).map (·.add (x.toNat*[s].length)))=some (if c.toNat=x.toNat then ad else ad.add (x.toNat*1)):=by split<;>rfl
       rw[e0] at w3;exact .full _ _ _ _ w3
theorem qzy (hE:E.tok P)(hs:HSim B X){a:AV}{lo hi mx:Option AV}{vlo vhi vmx:Option Value}(hv:Rep X a v)(hlo:RepO X lo vlo) (hhi:RepO X hi vhi) (hmx:RepO X mx vmx) {r:Res} (h:(un E X.h t a lo hi mx).run=some r) :qL P B X (do pure (.value (<-Instr.sliceAt t v vlo vhi vmx))) r:=by
 unfold un at h;split at h
 ·rename_i n e es hd;obtain⟨hta,hce⟩:=q8Z hE hd;split at h
  ·rename_i sh l i off;split at h
   ·rename_i hes;split at h
    ·rename_i s rows har;cases hv with
     | eptr _ _ _ _ a hsp h0 h1 hr=>
      obtain⟨hl,hi0,himm⟩:=qCL har hsp hr;exact qCJ hs hta (by omega) hl himm hlo hhi hmx h
    ·cases h
   ·cases h
  ·rename_i b off;split at h
   ·cases hmx
    ·split at h
     ·rename_i hes;unfold qKe at h;cases h1:qgV lo 0 with
      | none=>rw[h1] at h;cases h
      | some x=>
       cases h2:qgV hi n with
       | none=>rw[h1,h2] at h;cases h
       | some y=>
        rw[h1,h2] at h;obtain⟨g1,g2⟩:=j9 h;obtain⟨g3,g4⟩:=j9 g2;cases g4;obtain⟨q1,q2⟩:=q0d g1;obtain⟨q3,q4⟩:=q0d g3;cases hv with
        | ptr _ _ n0 hb hσ=>
         have hrun:=qgI (P:=P) (w:=X.w) (ad:=⟨n0,off,none⟩) hta (by omega) (q0H hlo hhi h1 h2 rfl q1 (by omega) q3 q4 _);refine qL.ofV hs hrun ?_;have he1:P.cellsOf e=1:=by omega
         have hk:(if n=x.toNat then (⟨n0,off,none⟩:Addr) else Addr.add ⟨n0,off,none⟩ (x.toNat*P.cellsOf e))=⟨n0,if n=x.toNat then off else off+x.toNat,none⟩:=by
          split
          ·rfl
          ·rw[qPy,he1,qQr]
         rw[hk];have hyx:qC0 y x=y-x:=rfl;have hn:y.toNat-x.toNat=(qC0 y x).toNat:=by rw[hyx];omega
         rw[hn];refine .asub b off n x (qC0 y x) n0 _ _ hb hσ q3 (by rw[hyx];omega) (by rw[hyx];omega) ?_;split
         ·right;rw[hyx];omega
         ·exact .inl rfl
     ·cases h
   ·cases h
  ·cases h
 ·exact qB9 hE hs hv hlo hhi hmx h
theorem qGT {l l':R}{i i' c:Int}(h0:0<=i)(h0':0<=i')(hc:0<=c)(h1:i+c<=l.length)(h2:i'+c<=l'.length):(qpL l i l' i' c).length=l.length:=by simp[qpL];omega
theorem qzQ (hE:E.tok P)(hs:HSim B X){ts:List TypeId}{azz:List AV}(hv:RepL X azz vs)(h:(qym E X.h ts azz).run=some r)(ty:TypeId) :qL P B X (do pure (.value (<-Builtin.copy_ ts.toArray ty vs.toArray))) r:=by
 unfold qym at h;split at h
 ·rename_i t t' b o n i m b' o' n' i' m';split at h
  ·rename_i e es hd;obtain⟨ht,hce⟩:=q1i hE hd;split at h
   ·rename_i cs k N l hb;split at h
    ·rename_i cs' k' N' l' hb';split at h
     ·rename_i hc;obtain⟨hes,rfl,rfl,rfl,rfl,rfl⟩:=hc;cases h;cases hv with
      | cons hv1 hv=>cases hv with
       | cons hv2 hv=>cases hv with
        | nil=>
         cases hv1 with
         | asub _ _ _ _ _ n0 k0 c0 hbl hσ i0 m0 im hk=>
          cases hv2 with
          | asub _ _ _ _ _ n1 k1 c1 hbl' hσ' i0' m0' im' hk'=>
           obtain⟨q,c,T,us,e1,e2,e3,e4,e5⟩:=hs.blk b _ hb;rw[hσ] at e1;cases e1;obtain⟨q',c',T',us',f1,f2,f3,f4,f5⟩:=hs.blk b' _ hb';rw[hσ'] at f1;cases f1;have hlen:=e3.length;have hlen':=f3.length;have hcl:c.size=us.length+n:=by
            have:c.toList.length=(us++q1e k l).length:=by rw[e4]
            simpa[ub,e5] using this
           obtain⟨d,hd0,hd1⟩:∃d:Int,d=qo8 m' m/\0<=d/\d<=m/\d<=m':=by refine⟨_,rfl,?_⟩;unfold qo8;split<;>omega
           rw[<-hd0];have hdn:d.toNat=Nat.min m'.toNat m.toNat:=by rw[hd0];unfold qo8;show _=min m'.toNat m.toNat;split<;>omega
           let ws:List Value:=(List.range d.toNat).map fun j:Nat=>Value.int k (cI l' ((i'.toNat+j:Nat):Int) 0)
           have hwl:ws.length=d.toNat:=by simp[ws]
           have hcell:∀j v,ws[j]?=some v->X.w.cell? (Addr.add ⟨n1,k1,none⟩ j)=some v:=by
            intro j v hj;have hjd:j<d.toNat:=by have:=qq hj;omega
            simp only[ws,qOU,qPp hjd,qPk,qOL] at hj;rw[qPy,zS f2,<-hj];rcases hk' with hk'|hk'
            ·rw[hk',show cs'.length+i'.toNat+j=us'.length+(i'.toNat+j) by omega];exact qxW f4 (by omega)
            ·omega
           have hone:∀v∈ws,v.oneCell'=true:=by intro v hv;obtain⟨j,_,hj⟩:=qPE.1 hv;rw[<-hj];rfl
           have hkd:k0=cs.length+i.toNat\/ws=[]:=by
            rcases hk with hk|hk
            ·exact .inl hk
            ·exact .inr (qQi (by omega))
           have hinfo:(P.info? e).map (·.size)=some 1:=by obtain⟨ii,w1,w2⟩:=qCS (P:=P) (e:=e) (by omega);rw[w1,qPk,w2,<-hce,hes]
           have hmin:ws.length=Nat.min m'.toNat m.toNat:=by omega
           have hown:X.own b n0:=⟨hσ,_,hb,rfl⟩;have hkk:qiL (.big cs k n l) (.big cs k n (qpL l i l' i' d)):=trivial;have hrl:(qpL l i l' i' d).length=l.length:=qGT i0 i0' hd1.1 (by omega) (by omega);have hint:q1e k (qpL l i l' i' d)=(q1e k l).take i.toNat++ws++(q1e k l).drop (i.toNat+d.toNat):=by
            apply qPC;intro j;have hsp:=qg8 (c:=q1e k l) (vs:=ws) (o:=i.toNat) (k:=j) (by rw[hwl,ub];omega);rw[hwl] at hsp;rw[hsp];by_cases hj:j<l.length
            ·rw[qjk (by omega)];have hli:(l.take i.toNat).length=i.toNat:=by simp;omega
             have hld:((l'.drop i'.toNat).take d.toNat).length=d.toNat:=by simp;omega
             have hcu:∀(f:R) (k:Nat),cI f (k:Int) 0=((f[k]?.getD []).getD 0 (.i 0)).toI:=fun f k=>by unfold cI zJ;rw[qOX,qOM (l:=f)]
             split
             ·rename_i hin;simp only[ws,qOU,qPp (show j-i.toNat<d.toNat by omega),qPk,qOL];congr 1;rw[hcu,hcu];unfold qpL;rw[qPj,qP4 (by omega),hli,qOY (by omega),qPQ,if_pos (by omega),qPR]
             ·rename_i hout;rw[qjk hj];congr 2;rw[hcu,hcu];unfold qpL;rcases qOT j i.toNat with hlt|hge
              ·rw[qPj,qOY (by omega),qPQ,if_pos hlt]
              ·rw[qP4 (by simp only[qP6];omega),qPR];simp only[qP6,hli,hld];rw[show i.toNat+d.toNat+(j-(i.toNat+d.toNat))=j by omega]
            ·rw[qP7 (by rw[ub];omega)];rw[if_neg (by omega),qP7 (by rw[ub];omega)]
           have hrow:c.toList.take k0++ws++c.toList.drop (k0+ws.length)=us++q1e k (qpL l i l' i' d):=by
            rw[hint];rcases hkd with hkd|hkd
            ·rw[e4,hkd,hwl,hlen,List.take_append,List.drop_append,List.take_of_length_le (by omega),qQs (show us.length<=us.length+i.toNat+d.toNat by omega)];rw[show us.length+i.toNat-us.length=i.toNat by omega,show us.length+i.toNat+d.toNat-us.length=i.toNat+d.toNat by omega];simp
            ·have hd00:d.toNat=0:=by rw[<-hwl,hkd];rfl
             rw[hkd,hd00];simp[e4]
           have hfit:k0+ws.length<=c.size\/ws=[]:=by
            rcases hkd with hkd|hkd
            ·left;omega
            ·exact .inr hkd
           rcases hfit with hfit|hfit
           ·have hrun:=run_copy_row (P:=P) X.w t t' ty e n0 k0 m.toNat c0 ⟨n1,k1,none⟩ m'.toNat c1 c T ws ht hinfo e2 hmin hcell hfit hone;have hup:=UpdW.setRow (X:=X) (c':=(c.toList.take k0++ws++c.toList.drop (k0+ws.length)).toArray) e2 (by simp;omega);have hx:=Ctx.upd_ext hs hb hown hup hkk;refine⟨.value (goInt ws.length),goInt ws.length,X.upd b (.big cs k n (qpL l i l' i' d)) (X.w.setRow n0 _),?_,.inl rfl,?_,hs.upd hb hown hup hkk ?_,rfl,hx⟩
            ·rw[qOQ];have:(#[Value.slice (some ⟨n0,k0,none⟩) m.toNat c0,Value.slice (some ⟨n1,k1,none⟩) m'.toNat c1]:Array Value)=List.toArray [.slice (some ⟨n0,k0,none⟩) m.toNat c0,.slice (some ⟨n1,k1,none⟩) m'.toNat c1]:=rfl;rw[<-this];have h2:(#[t,t']:Array TypeId)=List.toArray [t,t']:=rfl;rw[<-h2,hrun];rfl
            ·have:goInt ws.length=.int .i64 d:=by show Value.int .i64 (ws.length:Int)=_;rw[hwl,qQD hd1.1]
             rw[this];exact .int _ _
            ·exact⟨n0,_,T,us,hσ,hup.new,e3.ext hx,by rw[<-hrow],by rw[hrl];exact e5⟩
           ·
            have hd00:d.toNat=0:=by rw[<-hwl,hfit];rfl
            have hrun:(Builtin.copy_ (List.toArray [t,t']) ty (List.toArray [.slice (some ⟨n0,k0,none⟩) m.toNat c0,.slice (some ⟨n1,k1,none⟩) m'.toNat c1])).run P X.w=.ok (goInt 0) X.w:=by
             have hl:=run_loadCells_list (P:=P) X.w ⟨n1,k1,none⟩ ws hcell;cases hq:P.info? e with
             | none=>rw[hq] at hinfo;cases hinfo
             | some ii=>
              have hsize:ii.size=1:=by rw[hq] at hinfo;simpa using hinfo
              have hmz:Nat.min m'.toNat m.toNat=0:=by omega
              rw[hfit] at hl;simp only[qPu] at hl;simp[Builtin.copy_,run_underlying ht,Builtin.lenOf,Builtin.firstCells,sizeOf,typeInfo,hq,hmz,hl,storeCells]
            have hw:X.w=X.w.setRow n0 c:=(setRow_self X.w n0 c T (0,0) e2).symm;have hup:UpdW X n0 c c T X.w:=⟨e2,e2,rfl,fun _ _=>rfl,rfl,rfl,rfl,rfl⟩;have hx:=Ctx.upd_ext hs hb hown hup hkk;refine⟨.value (goInt 0),goInt 0,X.upd b (.big cs k n (qpL l i l' i' d)) X.w,?_,.inl rfl,?_,hs.upd hb hown hup hkk ?_,rfl,hx⟩
            ·rw[qOQ,hrun];rfl
            ·have:goInt 0=.int .i64 d:=by show Value.int .i64 (0:Int)=_;congr 1;omega
             rw[this];exact .int _ _
            ·refine⟨n0,c,T,us,hσ,e2,e3.ext hx,?_,by rw[hrl];exact e5⟩;rw[<-hrow,hfit];simp
     ·cases h
    ·cases h
   ·cases h
  ·cases h
 ·exact qCo hE hs hv h ty
end Go.Eng

namespace Go.Eng
variable {B:Base}{E:Env}{P:Program}{X:Ctx}{a:Act}{r:Res}{st:St}
theorem Move.transl {X Y Z:Ctx}{f:Nat->Option Nat}(h:Ext X Y)(k:Move Y Z f):Move X Z f:=by refine Move.of (fun n hn=>k.M n (h.M n hn)) (fun a ha=>(k.w a (h.M _ ha)).trans (h.w a ha)) (fun b1 b2 hb1 hf=>?_) (k.y.trans h.y) (k.kept.trans h.kept);have k1:=h.b b1 b1 hb1 rfl;have k2:=k.b b1 b2 k1.lt hf;refine⟨k2.lt,k2.σ.trans k1.σ,fun sh m hv=>k1.vec sh m (k2.vec sh m hv),fun sh m hv n hn c T fr hc=>?_⟩;obtain⟨c1,T1,fr1,e1,e2⟩:=k1.size sh m (k2.vec sh m hv) n hn c T fr hc;obtain⟨c2,T2,fr2,e3,e4⟩:=k2.size sh m hv n (by rw[k1.σ];exact hn) c1 T1 fr1 e1;exact⟨c2,T2,fr2,e3,e4.trans e2⟩
theorem qL.frozen {X X1:Ctx}{h':List Blk}{m:Sem Next}(fz:Frozen B X X1 h')(h:qL P B X1 m r):qL P B X m r:=by
 obtain⟨nx,v,X',g1,g2,g3,g4,g5⟩:=h;refine⟨nx,v,X',by rw[<-fz.w];exact g1,g2,g3,g4,?_⟩;cases hn:r.2.2 with
 | none=>rw[hn] at g5;exact⟨g5.1,fz.ext.trans g5.2⟩
 | some b=>rw[hn] at g5;exact⟨g5.1,Move.transl fz.ext g5.2⟩
theorem qLA (hs:HSim B X){x:AV}{vx:Value}(h2:Rep X x vx){sh:List Sh}{m:R}(hm:vr X.h x=some (sh,m)) :∃X1,Frozen B X X1 (ye X.h x)/\Src P X1 sh m vx:=by
 cases h2 with
 | imm sh' l v himm=>
  simp only[vr,qOL,qPl] at hm;obtain⟨rfl,rfl⟩:=hm;exact⟨X,⟨rfl,rfl,rfl,hs,Ext.refl X⟩,qxr himm⟩
 | vec b p n c hb hv=>
  obtain⟨e0,hh⟩:=qgr hm;obtain⟨X1,fz⟩:=qjx hs b;have hfr:X1.h[b]?=some (.frz e0 sh m):=by rw[fz.h];exact qkn hh
  exact⟨X1,fz,qxr (ql0 fz.hs hfr ((Rep.vec b p n c hb hv).ext fz.ext))⟩
 | _=>simp[vr] at hm
theorem qhh (hs:HSim B X){t e ty:TypeId}{sh:List Sh}{s x:AV}{vs vx:Value}{i:TypeInfo}{z:Value}(ht:P.underlying t=some (.slice e))(hc2:0<P.cellsOf e)(hc1:sh.length=P.cellsOf e) {rm:Int} (he:ElemOk rm P e (P.cellsOf e) i z) (h1:Rep X s vs) (h2:Rep X x vx) {r:Res} (hh:(qos rm X.h e sh s x).run=some r) :qL P B X (do pure (.value (<-Builtin.append_ #[t,t] ty #[vs,vx]))) r:=by
 unfold qos at hh;cases hr:vr X.h x with
 | none=>rw[hr] at hh;cases hh
 | some q=>
  obtain⟨sh',m⟩:=q;rw[hr] at hh;simp only at hh;by_cases hbq:Sh.beqL sh sh'=true
  ·rw[if_pos hbq] at hh;obtain rfl:=Sh.beqL_eq _ _ hbq;obtain⟨X1,fz,hsrc⟩:=qLA (P:=P) hs h2 hr;have hlen:X1.h.length=X.h.length:=by rw[fz.h];cases x<;>simp[ye,qfK]
   cases h1 with
   | nils=>
    simp only at hh;obtain⟨g1,g2⟩:=j9 hh;cases g2;have:=qjA (ty:=ty) fz.hs ht hc2 hc1 he hsrc (of_decide_eq_true g1);rw[hlen,fz.h] at this;exact this.frozen fz
   | vec b p n c hb hv=>
    simp only at hh;cases hbk:X.h[b]? with
    | none=>rw[hbk] at hh;cases hh
    | some k=>
     rw[hbk] at hh;cases k<;>try (cases hh)
     rename_i e' sh'' l;simp only at hh;by_cases hq:Sh.beqL sh sh''=true/\e=e'
     ·rw[if_pos hq] at hh;obtain rfl:=Sh.beqL_eq _ _ hq.1;obtain rfl:=hq.2;have hrep:Rep X (.vec b) (.slice p n c):=.vec b p n c hb hv;by_cases hxv:∃b',x=AV.vec b'
      ·obtain⟨b',rfl⟩:=hxv;simp only[qGO] at hh;by_cases hbb:b=b'
       ·rw[if_pos hbb] at hh;cases hh
       rw[if_neg hbb] at hh;obtain⟨g1,g2⟩:=j9 hh;cases g2;have hb1:X1.h[b]?=some (.vec e sh l):=by
        rw[fz.h];simp only[ye,zF];split
        ·rw[qOO (qPe hbb)];exact hbk
        ·exact hbk
       have:=qk3 (ty:=ty) fz.hs ht hc2 hc1 he hb1 (hrep.ext fz.ext) hsrc (of_decide_eq_true g1);rw[fz.h] at this;exact this.frozen fz
      ·have hh':(Tree.br (ile (qg l+qg m) rm) (.leaf ((.vec b,X.h.set b (.vec e sh (zE l m)),some b):Res)) .fail).run=some r:=by cases x<;>first|exact hh|exact absurd ⟨_,rfl⟩ hxv
       obtain⟨g1,g2⟩:=j9 hh';cases g2;have hx1:X1.h=X.h:=by rw[fz.h];cases x<;>first|rfl|exact absurd ⟨_,rfl⟩ hxv
       have:=qk3 (ty:=ty) fz.hs ht hc2 hc1 he (by rw[hx1];exact hbk) (hrep.ext fz.ext) hsrc (of_decide_eq_true g1);rw[hx1] at this;exact this.frozen fz
     ·rw[if_neg hq] at hh;cases hh
   | full sh'' l p n himm=>
    simp only at hh;by_cases hq:Sh.beqL sh sh''=true
    ·rw[if_pos hq] at hh;obtain rfl:=Sh.beqL_eq _ _ hq;have hrep:=(Rep.full (X:=X) sh l p n himm).ext fz.ext;cases hrep with
     | full _ _ _ _ himm'=>
      cases hlt:ilt 0 (qg m) with
      | true=>
       rw[hlt] at hh;obtain⟨g3,g4⟩:=j9 (show (Tree.br _ _ _).run=some r from hh);cases g4;have:=qsI (ty:=ty) fz.hs ht hc2 hc1 he himm' hsrc (of_decide_eq_true hlt) (of_decide_eq_true g3);rw[hlen,fz.h] at this;exact this.frozen fz
      | false=>
       rw[hlt] at hh;obtain⟨g3,g4⟩:=j9 (show (Tree.br _ _ _).run=some r from hh);cases g4;have hm0:m=[]:=by have:¬(0:Int)<qg m:=of_decide_eq_false hlt;unfold qg at this;exact qQi (by omega)
       subst hm0;have hn0:n=0:=by
        have hl0:qg l<=0:=of_decide_eq_true g3;unfold qg at hl0;rcases himm' with⟨q1,_⟩|⟨_,_,q1,_⟩
        ·cases q1;rfl
        ·cases q1;omega
       subst hn0;have:=qsS (ty:=ty) fz.hs ht hc2 hsrc (p:=p);rw[hlen,fz.h] at this;exact this.frozen fz
    ·rw[if_neg hq] at hh;cases hh
   | _=>simp only at hh;cases hh
  ·rw[if_neg hbq] at hh;cases hh
theorem qyf (hE:E.tok P)(hs:HSim B X){t ty:TypeId}{s x:AV}{vs vx:Value}(h1:Rep X s vs)(h2:Rep X x vx)(h:(qyE E X.h t s x).run=some r):qL P B X (do pure (.value (<-Builtin.append_ #[t,t] ty #[vs,vx]))) r:=by
 unfold qyE at h;cases hd:(E.ty t).d<;>rw[hd] at h<;>try (cases h)
 rename_i e es;obtain⟨ht,rfl⟩:=q1i hE hd;simp only at h;cases hsh:E.shape 16 e with
 | none=>rw[hsh] at h;cases h
 | some sh=>
  rw[hsh] at h;simp only at h;by_cases hc:sh.length=P.cellsOf e/\0<P.cellsOf e/\(E.ty e).zero.length=P.cellsOf e
  ·rw[if_pos hc] at h;obtain⟨hc1,hc2,hc4⟩:=hc;obtain⟨i,z,he⟩:=qHQ hE hc2 hc4;cases x with
   | nils=>
    simp only at h;cases h1<;>simp only[okv] at h<;>cases h;cases h2;exact qL.ofV hs (ki ht hc2 (qON 0)) .nils
   | _=>exact qhh hs ht hc2 hc1 he h1 h2 h
  ·rw[if_neg hc] at h;cases h
inductive RepLL (X:Ctx):List (List AV)->List (List Value)->Prop
 | nil:RepLL X [] []
 | cons {a:List AV} {v:List Value} {l:List (List AV)} {m:List (List Value)} (h:RepL X a v) (t:RepLL X l m):RepLL X (a::l) (v::m)
theorem RepLL.ren {X X':Ctx}{f:Nat->Option Nat}(hm:Move0 X X' f):∀{l:List (List AV)} {m:List (List Value)},RepLL X l m->RepLL X' (l.map (AV.renL f)) m
 | _,_,.nil=>.nil
 | _,_,.cons h t=>.cons (h.ren hm) (t.ren hm)
theorem RepLL.ext {X X':Ctx}(hm:Ext X X'):∀{l:List (List AV)} {m:List (List Value)},RepLL X l m->RepLL X' l m
 | _,_,.nil=>.nil
 | _,_,.cons h t=>.cons (h.ext hm) (t.ext hm)
theorem RepLL.ext0 {X X':Ctx}(hm:Move0 X X' some):∀{l:List (List AV)} {m:List (List Value)},RepLL X l m->RepLL X' l m
 | _,_,.nil=>.nil
 | _,_,.cons h t=>.cons (h.ext0 hm) (t.ext0 hm)
def qmu(D:Nat):Deferred:={ target:=.collected D,args:=#[] }
def qBY(kept pin:List (Nat×Obj))(ds:List Deferred):Prop:=∃Ds:List Nat,ds=Ds.map qmu/\Ds.Nodup/\∀D,D∈Ds->(D,.deferred (some []))∈kept/\∀p,p∈pin->p.1≠D
theorem qBY.nil {kept pin:List (Nat×Obj)}:qBY kept pin []:=⟨[],rfl,.nil,fun _ h=>by cases h⟩
def AV.span:AV->Nat
 | .eptr sh l _ _=>sh.length*l.length
 | _=>0
def qJW(X:Ctx)(x:Nat×AV):Prop:=Rep X x.2 (.pointer (some ⟨x.1,0,none⟩))/\X.M x.1/\X.w.cell? ⟨x.1,x.2.span,none⟩=none
theorem qJW.move {X X':Ctx}{x:Nat×AV}(h:qJW X x)(hM:∀n,X.M n->X'.M n)(hw:∀a:Addr,X.M a.block->X'.w.cell? a=X.w.cell? a)(hr:Rep X' x.2 (.pointer (some ⟨x.1,0,none⟩))):qJW X' x:=⟨hr,hM _ h.2.1,by rw[hw _ h.2.1];exact h.2.2⟩
def q4x(gl:List (Nat×AV))(X:Ctx):Prop:=∀x,x∈gl->(∃sh l i off,x.2=.eptr sh l i off)/\qJW X x
structure Sim (E:Env) (B:Base) (X:Ctx) (st:St) (a:Act):Prop where
 hs:HSim B X
 h:X.h=st.h
 t:RepL X st.t a.tmps.toList
 fs:RepLL X st.fs B.fs
 glob:∀x,x∈E.glob->(∃sh l i off,x.2=.eptr sh l i off)/\qJW X x
 df:qBY X.kept (B.pin st.pend) a.defers
 ni:B.imps.length<=E.nimp
 y:X.y=B.y
 pin:∀p,p∈B.pin st.pend->p∈X.kept
theorem qaM (hs:Sim E B X st a)(x:Operand):Rep X (E.opd st.t x) (a.eval x):=by
 cases x with
 | tmp i=>
  have:=hs.t.getD i;simpa[Env.opd,Act.eval,qQ4,qOM] using this
 | const v=>exact qMd X v
 | global g=>
  simp only[Env.opd,Act.eval];cases hg:E.glob.find? fun x=>x.1==g with
  | none=>exact .undef _
  | some x=>
   have h1:=qQ0 hg;have h2:x.1=g:=by simpa using h1
   have:=(hs.glob x (qPG hg)).2.1;rw[h2] at this;exact this
 | func f=>exact .fn f [] [] [] [] .nil .nil
theorem q4j{E:Env}{B:Base}{X:Ctx}{st:St}{a:Act}(hs:Sim E B X st a):∀l:List Operand,RepL X (l.map (E.opd st.t)) (l.map a.eval)
 | []=>.nil
 | x::l=>.cons (qaM hs x) (q4j hs l)
theorem qu0{E:Env}{B:Base}{X:Ctx}{st:St}{a:Act}(hs:Sim E B X st a):∀l:List (Nat×Operand),RepP X (l.map fun p=>(p.1,E.opd st.t p.2)) (l.map fun p=>(p.1,a.eval p.2))
 | []=>.nil
 | (_,x)::l=>.cons (qaM hs x) (qu0 hs l)
theorem qzt (hs:Sim E B X st a)(x:Option Operand):RepO X (x.map (E.opd st.t)) (x.map a.eval):=by
 cases x with
 | none=>exact .none
 | some x=>exact .some (qaM hs x)
theorem qx7 (hs:HSim B X){f:Int->Int->Int}{g:Value->Value->Sem Value}(hg:∀k k' x y w,(g (.int k x) (.int k' y)).run P w=.ok (.int k (f x y)) w){azz:List AV} {vs:List Value} (hv:RepL X azz vs) {r:Res} (h:(qyg f X.h azz).run=some r) {m:Sem Value} (hm:∀x rest,vs=x::rest->m=rest.foldlM g x):qL P B X (do pure (.value (<-m))) r:=by
 cases hv with
 | nil=>cases h
 | cons hx ht=>
  rename_i a v azz vs;simp only[qyg] at h;cases h1:asI a with
  | none=>rw[h1] at h;cases h
  | some p=>
   obtain⟨k,n⟩:=p;rw[h1] at h;simp only at h;cases h2:qCg f k n azz with
   | none=>rw[h2] at h;cases h
   | some q=>
    rw[h2] at h;simp only at h;obtain rfl:=q49 hx h1;have hr:=qul (P:=P) hg k azz n q vs h2 ht;rw[hm _ _ rfl];split at h<;>cases h
    ·exact qL.ofV hs hr (.ilit _ _)
    ·exact qL.ofV hs hr (.int _ _)
theorem qwd (hE:E.tok P)(hs:HSim B X){b:Builtin}{ts:Array TypeId}{azz:List AV}{vs:List Value}(hv:RepL X azz vs)(h:(q9j E X.h b ts.toList azz).run=some r) (ty:TypeId) (cs:Array Bool):qL P B X (builtin b ts ty cs vs.toArray) r:=by
 obtain⟨ts⟩:=ts;cases b with
 | append=>
  simp only[q9j] at h;unfold qzM at h;split at h
  ·rename_i t t' s x;by_cases htt:t=t'
   ·subst htt;rw[if_pos rfl] at h;cases hv with
    | cons h1 hv=>cases hv with
     | cons h2 hv=>cases hv;exact qyf hE hs h1 h2 h
   ·rw[if_neg htt] at h;cases h
  ·cases h
 | len=>
  simp only[q9j] at h;unfold quW at h;split at h
  ·rename_i t rest x;cases hv with
   | cons h1 hv=>
    cases hv;obtain⟨av,u,rfl,g1,g2⟩:=qCZ (P:=P) (t:=t) (ty:=ty) (ts:=(t::rest:List TypeId).toArray) hE hs (by simp) h1 h;exact qL.ofV hs g1 g2
  ·cases h
 | max=>
  simp only[q9j] at h;exact qx7 hs (f:=qzG) (g:=Builtin.max2) (fun _ _ _ _ _=>qKf) hv h (m:=Builtin.max_ ts.toArray ty vs.toArray) (fun x rest e=>by subst e;rfl)
 | min=>
  simp only[q9j] at h;exact qx7 hs (f:=qo8) (g:=Builtin.min2) (fun _ _ _ _ _=>qJK) hv h (m:=Builtin.min_ ts.toArray ty vs.toArray) (fun x rest e=>by subst e;rfl)
 | copy=>
  simp only[q9j] at h;exact qzQ hE hs hv h ty
 | _=>simp only[q9j] at h;cases h
theorem qpn (hE:E.tok P)(hs:Sim E B X st a){o:Oper}(h:(qtc E st.h (E.opd st.t) o.op).run=some r):qL P B X (execOp a.eval o) r:=by
 have ro:=qaM hs;rw[<-hs.h] at h;unfold qtc at h;unfold execOp;cases hop:o.op with
 | move x=>rw[hop] at h;cases h;exact qL.val hs.hs rfl (ro x)
 | assign x=>rw[hop] at h;cases h;exact qL.val hs.hs rfl (ro x)
 | pick c x y=>
  rw[hop] at h;simp only at h ⊢;have hc:=ro c;generalize E.opd st.t c=ac at *;generalize a.eval c=vc at *;cases hc<;>simp only at h<;>try (cases h)
  ·rename_i b;refine qL.val hs.hs (v:=if b then a.eval x else a.eval y) rfl ?_;cases b<;>exact ro _
  ·rename_i b;cases b
   ·cases h;exact qL.val hs.hs (v:=a.eval y) rfl (ro y)
   ·cases h;exact qL.val hs.hs (v:=a.eval x) rfl (ro x)
 | box t x=>
  rw[hop] at h;simp only at h ⊢;obtain⟨z,hz,rfl⟩:=qxn h;exact qHY hs.hs (ro x) hz
 | alloc t=>
  rw[hop] at h;simp only at h ⊢;obtain⟨z,hz,rfl⟩:=qxn h;exact qD6 hE hs.hs hz
 | load t x=>
  rw[hop] at h;obtain⟨av,u,rfl,g1,g2⟩:=qyM hE hs.hs (ro x) h;exact qL.ofV hs.hs g1 g2
 | store t x y=>rw[hop] at h;exact qzf hE hs.hs (ro x) (ro y) h
 | build t parts=>
  rw[hop] at h;obtain⟨av,u,rfl,g1,g2⟩:=qwv (vparts:=parts.map fun p=>(p.1,a.eval p.2)) hE (by simpa using qu0 hs parts.toList) h;exact qL.ofV hs.hs g1 g2
 | buildSlice t len parts=>
  rw[hop] at h;have h:(q9i E X.h t len (parts.toList.map fun p=>(p.1,E.opd st.t p.2))).run=some r:=h;have hp:RepP X (parts.toList.map fun p=>(p.1,E.opd st.t p.2)) (parts.map fun p=>(p.1,a.eval p.2)).toList:=by rw[Array.toList_map];exact qu0 hs parts.toList
  have hg:=qqq hE hs.hs hp h;exact hg
 | nilCheck x=>
  rw[hop] at h;simp only at h ⊢;have hx:=ro x;generalize E.opd st.t x=ax at *;generalize a.eval x=vx at *;cases hx<;>simp only at h<;>try (cases h)
  ·rename_i b off n hb hσ;split at h
   ·cases h;exact qL.val hs.hs rfl (.ptr b off n hb hσ)
   ·cases h;exact qL.val hs.hs rfl (.ptr b off n hb hσ)
   ·cases h
  ·rename_i sh l i off ad h1 h2 h3 h4;exact qL.val hs.hs rfl (.eptr sh l i off ad h1 h2 h3 h4)
  ·rename_i sh l i off ad h1 h2 h3 h4;exact qL.val hs.hs rfl (.eptr sh l i off ad h1 h2 h3 h4)
 | binOp op t x y ty=>
  rw[hop] at h;simp only at h ⊢;have hx:=ro x;have hy:=ro y;generalize E.opd st.t x=ax at *;generalize E.opd st.t y=ay at *;unfold qo2 at h;split at h
  ·obtain⟨av,u,rfl,g1,g2⟩:=qxU (x:=x) (y:=y) hE hx hy h;exact qL.ofV hs.hs g1 g2
  ·obtain⟨av,u,rfl,g1,g2⟩:=qCX (x:=x) (y:=y) hE hs.hs hx hy h;exact qL.ofV hs.hs g1 g2
 | unOp op t x=>
  rw[hop] at h;obtain⟨av,u,rfl,g1,g2⟩:=qEE (P:=P) (ro x) h;exact qL.ofV hs.hs g1 g2
 | convert s d x=>
  rw[hop] at h;obtain⟨av,u,rfl,g1,g2⟩:=qz9 hE hs.hs (ro x) h;exact qL.ofV hs.hs g1 g2
 | makeSlice t n m=>rw[hop] at h;exact qCQ hE hs.hs (ro n) (ro m) h
 | makeFunc fn first caps=>
  rw[hop] at h;simp only at h ⊢;cases fn<;>simp only at h<;>try (cases h)
  rename_i f;have:Rep X (.fn f (first.toList.map (E.opd st.t)) (caps.toList.map (E.opd st.t))) (.func (.func f) (first.toList.map a.eval).toArray (caps.toList.map a.eval).toArray):=
   .fn f _ _ _ _ (q4j hs _) (q4j hs _)
  refine qL.val hs.hs (v:=.func (.func f) (first.map a.eval) (caps.map a.eval)) rfl ?_;have e1:(first.toList.map a.eval).toArray=first.map a.eval:=by apply qQ1;simp
  have e2:(caps.toList.map a.eval).toArray=caps.map a.eval:=by apply qQ1;simp
  rwa [e1,e2] at this
 | slice t x lo hi mx=>
  rw[hop] at h;exact qzy hE hs.hs (ro x) (qzt hs lo) (qzt hs hi) (qzt hs mx) h
 | fieldAddr s x f=>
  rw[hop] at h;obtain⟨av,u,rfl,g1,g2⟩:=qqD hE (ro x) h;exact qL.ofV hs.hs g1 g2
 | field s x f=>
  rw[hop] at h;obtain⟨av,u,rfl,g1,g2⟩:=qyS hE (ro x) h;exact qL.ofV hs.hs g1 g2
 | indexAddr t x i=>
  rw[hop] at h;obtain⟨av,u,rfl,g1,g2⟩:=qq4 hE hs.hs (ro x) (ro i) h;exact qL.ofV hs.hs g1 g2
 | index t x i=>
  rw[hop] at h;obtain⟨av,u,rfl,g1,g2⟩:=qyh hE (ro x) (ro i) h;exact qL.ofV hs.hs g1 g2
 | extract x i=>
  rw[hop] at h;simp only at h ⊢;have hx:=ro x;generalize E.opd st.t x=ax at *;generalize a.eval x=vx at *;cases hx<;>simp only at h<;>try (cases h)
  rename_i vs us hv;cases hi:vs[i]? with
  | none=>rw[hi] at h;cases h
  | some v=>
   rw[hi] at h;cases h;obtain⟨u,g1,g2⟩:=hv.get i v hi;refine qL.ofV hs.hs (v:=u) ?_ g2;simp[Instr.extract,g1]
 | call c=>
  rw[hop] at h;obtain⟨callee,args,argTypes⟩:=c;cases callee with
  | value x=>simp only at h;cases h
  | invoke x n=>simp only at h;cases h
  | builtin b=>
   simp only at h ⊢;have hargs:=q4j hs args.toList;have hrun:∀ty,(do let d <-resolve a.eval { callee:=.builtin b,args,argTypes } ty;invoke d.target d.args:Sem Next) =
     builtin b argTypes ty (args.map fun|.const _=>true|_=>false) (args.map a.eval):=by
    intro ty;rfl
   rw[hrun];have hA:args.map a.eval=(args.toList.map a.eval).toArray:=by apply qQ1;simp
   rw[hA];generalize args.toList.map (E.opd st.t)=als at *;generalize args.toList.map a.eval=avs at *;exact qwd hE hs.hs hargs h _ _
 | _=>rw[hop] at h;simp only at h;cases h
end Go.Eng

namespace Go.Eng
variable {P:Program}{n:Nat}{w:World}
def q5O(ro:Option Nat):Fence:={ Fence.wide with round:=ro }
theorem qi4 (ro:Option Nat):(q5O ro).depth.isSome=true->1<=n:=fun h=>by simp[q5O,Fence.wide] at h
theorem qIf {ro:Option Nat}{f:FuncId}{args:Array Value}{R:Ending->World->Prop}:CallsIn (q5O ro) n P f args w R↔Calls P f args w R:=(callsIn_wide (n:=n))
theorem qOw {ro:Option Nat}{row:String}{args:Array Value}{R:Value->World->Prop}(h:Go.Rows P row args w R):RowsIn (q5O ro) n P row args w R:=by intro c cs _;obtain⟨v,w',h1,h2⟩:=h c cs;exact⟨v,w',h1,stepsIn_wide.2 h2⟩
theorem qvc (ro:Option Nat)(n:Nat){o:Oper}{a:Act}{next:Act->World->Prop}{Q:Exit->Act->World->Prop}(h:o.wp P a w next Q)(hd:∀c,o.op≠.defer c) :o.wpIn (q5O ro) n P a w next Q:=by
 refine⟨fun _ _=>trivial,?_⟩;rw[show (q5O ro).round=ro from rfl,Oper.semAt_eq _ _ _ hd];unfold Oper.wp at h;generalize (execOp a.eval o).run P w=r at h;cases r with
 | ok x w'=>
  cases x with
  | value v=>exact h
  | skip=>exact h
  | defer d=>exact h
  | enter f args=>exact⟨qi4 ro,qIf.2 h⟩
  | row row args=>exact⟨qi4 ro,qOw h⟩
  | round l f tmps assign body=>exact h.elim
  | _=>exact h
 | halt x w'=>cases x<;>exact h
end Go.Eng

namespace Go.Eng
variable {B:Base}{E:Env}{X:Ctx}{a:Act}{o:Oper}{st:St}{v:Value}
structure CallOK (E:Env) (P:Program) (callH:qav) (B:Base):Prop where
 fn:∀(f:FuncId) (args:List AV) (st:St) (r:AV×St) (X:Ctx) (a:Act) (vargs:List Value),Sim E B X st a->RepL X args vargs->(callH (some f) args st).run=some r ->
  (∀w,(callFunc f vargs.toArray).run P w=.ok (.enter f vargs.toArray) w) /\
  Calls P f vargs.toArray X.w fun e w'=>∃v X',e=.returned v/\X'.w=w'/\Rep X' r.1 v/\Sim E B X' r.2 a
 yld:∀(args:List AV) (st:St) (r:AV×St) (X:Ctx) (a:Act) (vargs:List Value),Sim E B X st a->RepL X args vargs->(callH none args st).run=some r ->
  ∃(l:Nat) (f:FuncId) (tmps:Array Value) (assign body:Code),(Instr.yield X.y vargs.toArray).run P X.w=.ok (.round l f tmps assign body) X.w /\
  ∀n,RoundIn (q5O B.ro) n P l f tmps assign body X.w fun e w'=>∃v X',e=.returned v/\X'.w=w'/\Rep X' r.1 v/\Sim E B X' r.2 a
theorem qDb {t:List AV}(h:RepL X t a.tmps.toList){av:AV}(hv:Rep X av v)(dst:Option Tmp):RepL X (qmF t dst av) (a.put dst v).tmps.toList:=by
 cases dst with
 | none=>exact h
 | some d=>
  simp only[qmF,Act.put,Array.toList_setIfInBounds];exact RepL.set hv h d
theorem qxN (a:Act)(dst:Option Tmp)(v:Value):(a.put dst v).defers=a.defers:=by cases dst<;>rfl
theorem Sim.put (hs:Sim E B X st a){av:AV}(hv:Rep X av v)(dst:Option Tmp) :Sim E B X { st with t:=qmF st.t dst av } (a.put dst v):=⟨hs.hs,hs.h,qDb hs.t hv dst,hs.fs,hs.glob,by rw[qxN];exact hs.df,hs.ni,hs.y,hs.pin⟩
theorem Sim.ext {X X':Ctx}(hs:Sim E B X st a)(hx:Ext X X')(hs':HSim B X'):Sim E B X' { st with h:=X'.h } a:=⟨hs',rfl,hs.t.ext hx,hs.fs.ext hx,fun x hx'=>⟨(hs.glob x hx').1,(hs.glob x hx').2.move hx.M hx.w ((hs.glob x hx').2.1.ext hx)⟩,hx.kept▸hs.df,hs.ni,hx.y.trans hs.y,fun p hp=>hx.kept▸hs.pin p hp⟩
theorem Sim.apply {X X':Ctx}(hs:Sim E B X st a){r:Res}(hv:Rep X' r.1 v)(hs':HSim B X')(hm:match r.2.2 with|none=>X'.h=r.2.1/\Ext X X'|some b=>X'.h=r.2.1.map (Blk.ren (qfO b))/\Move X X' (qfO b)) (dst:Option Tmp) :Sim E B X' (st.apply dst r) (a.put dst v):=by
 unfold St.apply;cases hn:r.2.2 with
 | none=>
  rw[hn] at hm;obtain⟨h1,h2⟩:=hm;have:=(hs.ext h2 hs').put hv dst;rw[h1] at this;exact this
 | some b=>
  rw[hn] at hm;obtain⟨h1,h2⟩:=hm;refine⟨hs',h1,qDb (hs.t.ren h2.toMove0) hv dst,hs.fs.ren h2.toMove0,fun x hx=>?_,by rw[qxN];exact h2.kept▸hs.df,hs.ni,h2.y.trans hs.y,fun p hp=>h2.kept▸hs.pin p hp⟩;obtain⟨⟨sh,l,i,off,he⟩,hr⟩:=hs.glob x hx;refine⟨⟨sh,l,i,off,he⟩,hr.move h2.M h2.w ?_⟩;have:=hr.1.ren h2.toMove0;rw[he] at this ⊢;exact this
theorem qwa {callH:qav}{st s:St}(h:(qvC E callH o st).run=some s):∀c,o.op≠.defer c:=by intro c hc;unfold qvC at h;rw[hc] at h;simp[qtc,Tree.bind,Tree.run] at h
theorem qs1 {P:Program}(hE:E.tok P){callH:qav}(hc:CallOK E P callH B){st st':St}(hs:Sim E B X st a)(h:(qvC E callH o st).run=some st') {next:Act->World->Prop} {Q:Exit->Act->World->Prop} (hq:∀X' a',Sim E B X' st' a'->next a' X'.w) {n:Nat}:o.wpIn (q5O B.ro) n P a X.w next Q:=by
 have hnd:=qwa h;have plain:∀(_:((qtc E st.h (E.opd st.t) o.op).bind fun r=>.leaf (st.apply o.dst r)).run=some st'),o.wp P a X.w next Q:=by
  intro hh;obtain⟨r,h1,h2⟩:=bind_some hh;cases h2;obtain⟨nx,v,X',g1,g2,g3,g4,g5⟩:=qpn hE hs h1;unfold Oper.wp;rw[g1];rcases g2 with rfl|⟨rfl,rfl⟩
  ·exact hq X' _ (hs.apply g3 g4 g5 o.dst)
  ·exact hq X' _ (hs.apply g3 g4 g5 o.dst)
 unfold qvC at h;split at h
 ·rename_i x args tys hop;cases hx:E.opd st.t x with
  | fn f first caps=>
   rw[hx] at h;obtain⟨r,h1,h2⟩:=bind_some h;cases h2;have hv:=qaM hs x;rw[hx] at hv;generalize hev:a.eval x=vx at hv;cases hv with
   | fn _ _ _ vf vc q1 q2=>
    have hargs:=q4j hs args.toList;have hall:RepL X (first++args.toList.map (E.opd st.t)++caps) (vf++args.toList.map a.eval++vc):=(q1.append hargs).append q2;obtain⟨g1,g2⟩:=hc.fn f _ st r X a _ hs hall h1;refine qvc B.ro n ?_ hnd;unfold Oper.wp;have hrun:(execOp a.eval o).run P X.w=.ok (.enter f (vf++args.toList.map a.eval++vc).toArray) X.w:=by
     simp only[execOp,hop,resolve,hev,Deferred.ofValue,qOQ,qPh,qOW,invoke];have:vf.toArray++args.map a.eval++vc.toArray=(vf++args.toList.map a.eval++vc).toArray:=by apply qQ1;simp
     rw[this];exact g1 X.w
    rw[hrun];refine g2.mono fun e w' ⟨v,X',e1,e2,e3,e4⟩=>?_;subst e1 e2;exact hq X' _ (e4.put e3 o.dst)
  | yld=>
   rw[hx] at h;obtain⟨r,h1,h2⟩:=bind_some h;cases h2;have hv:=qaM hs x;rw[hx] at hv;generalize hev:a.eval x=vx at hv;cases hv;obtain⟨l,f,tmps,assign,body,g1,g2⟩:=hc.yld _ st r X a _ hs (q4j hs args.toList) h1;refine⟨fun _ _=>trivial,?_⟩;rw[Oper.semAt_eq _ _ _ hnd];have hrun:(execOp a.eval o).run P X.w=.ok (.round l f tmps assign body) X.w:=by
    simp only[execOp,hop,resolve,hev,Deferred.ofValue,qOQ,qPh,qOW,invoke];have:#[]++args.map a.eval=(args.toList.map a.eval).toArray:=by apply qQ1;simp
    rw[this];exact g1
   rw[hrun];refine⟨qi4 B.ro,(g2 (n-1)).mono fun e w' ⟨v,X',e1,e2,e3,e4⟩=>?_⟩;subst e1 e2;exact hq X' _ (e4.put e3 o.dst)
  | _=>rw[hx] at h;cases h
 ·exact qvc B.ro n (plain h) hnd
theorem Sim.lit (hs:Sim E B X st a){d:Nat}{b:Bool}(hd:st.t[d]?=some (.bool b)):Sim E B X { st with t:=st.t.set d (.blit b) } a:=by
 refine⟨hs.hs,hs.h,?_,hs.fs,hs.glob,hs.df,hs.ni,hs.y,hs.pin⟩;obtain⟨v,h1,h2⟩:=hs.t.get d _ hd;have hv:v=.bool b:=by cases h2;rfl
 subst hv;have:=RepL.set (X:=X) (a:=.blit b) (v:=.bool b) (.blit b) hs.t d;have e:a.tmps.toList.set d (.bool b)=a.tmps.toList:=by
  apply qPC;intro i;by_cases hi:i=d
  ·subst hi;rw[qOZ (qq h1),h1]
  ·rw[qOO (qPe hi)]
 rwa [e] at this
theorem qvr {st st':St}(hs:Sim E B X st a){all:Array Oper}{k:Nat}(h:(qvU all k o st).run=some st'):Sim E B X st' a:=by
 unfold qvU at h;split at h
 ·split at h
  ·rename_i d _;split at h
   ·rename_i b hd;cases b
    ·cases h;exact hs.lit hd
    ·cases h;exact hs.lit hd
   ·cases h;exact hs
  ·cases h;exact hs
 ·cases h;exact hs
theorem qbl {t:List AV}(ht:RepL X t a.tmps.toList){all:Array Oper}{b:Bool}(h:q6Q all o t=some b):Region.wanted o (yielded all a.tmps)=b:=by
 unfold q6Q at h;unfold Region.wanted;cases hg:o.guard with
 | none=>rw[hg] at h;cases h;rfl
 | some p=>
  obtain⟨j,want⟩:=p;rw[hg] at h;simp only at h ⊢;cases hj:(all[j]?).bind (·.dst) with
  | none=>rw[hj] at h;cases h
  | some d=>
   rw[hj] at h;simp only at h;unfold yielded;rw[hj,qPd];split at h
   ·rename_i c hd;cases h;obtain⟨v,h1,h2⟩:=ht.get d _ hd;have h1':a.tmps[d]?=some v:=by simpa using h1
    cases h2;rw[h1'];cases c<;>cases want<;>rfl
   ·rename_i hd;cases h;obtain⟨v,h1,h2⟩:=ht.get d _ hd;have h1':a.tmps[d]?=some v:=by simpa using h1
    cases h2;rw[h1'];rfl
   ·cases h
theorem qnq{E:Env}{P:Program}(hE:E.tok P){callH:qav}{B:Base}(hc:CallOK E P callH B){all:Array Oper}{st':St}{Q:Exit->Act->World->Prop}{n:Nat}
  (hq:∀X' a',Sim E B X' st' a'->Q .normal a' X'.w):∀(l:List Oper) (k:Nat) {X:Ctx} {st:St} {a:Act},Sim E B X st a->(qnM E callH all k l st).run=some st'->wpListIn (q5O B.ro) n P all Q l a X.w
 | [],k,X,st,a,hs,h=>by
  simp only[qnM,Tree.run,qOL] at h;subst h;exact hq X a hs
 | o::rest,k,X,st,a,hs,h=>by
  simp only[qnM] at h;simp only[wpListIn];cases hw:q6Q all o st.t with
  | none=>rw[hw] at h;cases h
  | some b=>
   rw[hw] at h;rw[qbl hs.t hw];cases b with
   | true=>
    simp only[if_true];obtain⟨s1,h1,h2⟩:=bind_some h;obtain⟨s2,h3,h4⟩:=bind_some h2;refine qs1 hE hc hs h1 fun X' a' hs'=>?_;exact qnq hE hc hq rest (k+1) (qvr hs' h3) h4
   | false=>
    simp only[qPo,if_false];exact⟨fun _ _=>trivial,qnq hE hc hq rest (k+1) (hs.put (av:=.skip) .skip o.dst) h⟩
theorem qwb {P:Program}(hE:E.tok P){callH:qav}(hc:CallOK E P callH B){id:Nat}{ops:Array Oper}{st st':St}(hs:Sim E B X st a)(h:(qnM E callH ops 0 ops.toList st).run=some st') {Q:Exit->Act->World->Prop} {n:Nat} (hq:∀X' a',Sim E B X' st' a'->Q .normal a' X'.w):(Code.region id ops false).wpIn (q5O B.ro) n P Q a X.w:=wpIn_region_list (qnq hE hc hq ops.toList 0 hs h)
end Go.Eng

namespace Go.Eng
variable {B:Base}{X:Ctx}
structure Entry (B:Base) (X:Ctx):Prop where
 w0:B.w0=X.w
 imps:B.imps=(List.range X.h.length).map X.σ
 M0:∀n,X.M n->B.M0 n
def qeq(P:Program)(f:FuncId):Prop:=∀(args:Array Value) (w:World),(callFunc f args).run P w=.ok (.enter f args) w
def qz(P:Program)(gl:List (Nat×AV))(f:FuncId)(G:zj):Prop:=
 qeq P f/\∀(B:Base) (X:Ctx) (args:List AV) (vargs:List Value) (r:AV×List Blk),HSim B X->Entry B X->q4x gl X->RepL X args vargs->(G args X.h).run=some r ->
  Calls P f vargs.toArray X.w fun e w'=>∃v X',e=.returned v/\X'.w=w'/\Rep X' r.1 v/\X'.h=r.2/\HSim B X'/\X'.y=X.y
mutual
theorem qDA{B:Base}{X:Ctx}(hs:HSim B X):∀{av:AV} {v:Value},Rep X av v->Rep X (av.lend X.h) v
 | .vec b,v,h=>by
  unfold AV.lend;split
  ·rename_i e sh l hb;exact .imm _ _ _ (ql0 hs hb h)
  ·exact .undef v
 | .agg cs,_,.agg _ vs h=>.agg _ vs (qga hs h)
 | .tuple cs,_,.tuple _ vs h=>.tuple _ vs (qga hs h)
 | .undef,_,h|.skip,_,h|.yld,_,h|.blit _,_,h|.bool _,_,h|.ilit _ _,_,h|.int _ _,_,h|.str _,_,h|.nilp,_,h|.ptr _ _,_,h|.eptr _ _ _ _,_,h|.mptr _ _ _ _ _,_,h|.vptr _ _ _,_,h|.vsub _ _,_,h|.aptr _ _ _,_,h|.asub _ _ _ _ _,_,h|.bagg _ _ _ _,_,h
 | .nils,_,h|.imm _ _,_,h|.full _ _,_,h|.nilf,_,h|.fn _ _ _,_,h=>h
theorem qga{B:Base}{X:Ctx}(hs:HSim B X):∀{azz:List AV} {vs:List Value},RepL X azz vs->RepL X (AV.lendL X.h azz) vs
 | _,_,.nil=>.nil
 | _,_,.cons h t=>.cons (qDA hs h) (qga hs t)
end
def Wk(X:Ctx)(k k':Blk):Prop:=k'=.dead\/k'=k\/(∃cs cs',k=.cells cs/\k'=.cells cs'/\∀vs,RepL X cs vs->RepL X cs' vs)\/∃cs cs' kk n l,k=.big cs kk n l/\k'=.big cs' kk n l/\∀vs,RepL X cs vs->RepL X cs' vs
theorem qdj (hs:HSim B X){h':List Blk}(hl:h'.length=X.h.length)(hw:∀(b:Nat) (k':Blk),h'[b]?=some k'->∃k0,X.h[b]?=some k0/\Wk X k0 k')(hc:∀b:Nat,b<B.imps.length->∀k':Blk,h'[b]?=some k'->k'.solid=true):HSim B { X with h:=h' }/\Ext X { X with h:=h' }:=by
 have hvec:∀b sh m,({ X with h:=h' }:Ctx).isVec b sh m->X.isVec b sh m:=by
  intro b sh m ⟨e,l,h1,h2⟩;refine⟨e,l,?_,h2⟩;rcases h1 with h1|h1
  ·obtain⟨k0,h3,h4⟩:=hw b _ h1;rcases h4 with h4|h4|⟨_,_,_,h4,_⟩|⟨_,_,_,_,_,_,h4,_⟩
   ·cases h4
   ·exact .inl (h4▸h3)
   ·cases h4
   ·cases h4
  ·obtain⟨k0,h3,h4⟩:=hw b _ h1;rcases h4 with h4|h4|⟨_,_,_,h4,_⟩|⟨_,_,_,_,_,_,h4,_⟩
   ·cases h4
   ·exact .inr (h4▸h3)
   ·cases h4
   ·cases h4
 have hx:Ext X { X with h:=h' }:=by refine Move.of (fun _ h=>h) (fun _ _=>rfl) (fun b b' hb hf=>?_);cases hf;exact⟨by show b<h'.length;omega,rfl,hvec b,fun sh m _ k hk c T fr hc=>⟨c,T,fr,hc,rfl⟩⟩
 have hown:∀b m,({ X with h:=h' }:Ctx).own b m->X.own b m:=by
  intro b m ⟨h1,k,h2,h3⟩;obtain⟨k0,h4,h5⟩:=hw b k h2;refine⟨h1,k0,h4,?_⟩;rcases h5 with h5|h5|⟨_,_,h5,_,_⟩|⟨_,_,_,_,_,h5,_,_⟩
  ·subst h5;cases h3
  ·exact h5▸h3
  ·subst h5;rfl
  ·subst h5;rfl
 refine⟨⟨?_,fun b b' m h h'=>hs.inj b b' m (hown _ _ h) (hown _ _ h'),fun b m h=>hs.notM b m (hown _ _ h),hs.ltM,hs.M0,hs.newM,hs.os,hs.tape,hs.output,hs.size,hs.frame,hs.imps,?_,fun b m h=>hs.fresh b m (hown _ _ h),hs.kept⟩,hx⟩
 ·intro b k hk;obtain⟨k0,h1,h2⟩:=hw b k hk;have h3:=hs.blk b k0 h1;rcases h2 with h2|h2|⟨cs,cs',h2,h4,h5⟩|⟨cs,cs',kk,N,l,h2,h4,h5⟩
  ·subst h2;trivial
  ·subst h2;exact jm.ext hx rfl (fun _ _=>rfl) h3
  ·subst h2 h4;obtain⟨m,c,T,e1,e2,e3⟩:=h3;exact⟨m,c,T,e1,e2,(h5 _ e3).ext hx⟩
  ·subst h2 h4;obtain⟨m,c,T,vs,e1,e2,e3,e4,e5⟩:=h3;exact⟨m,c,T,vs,e1,e2,(h5 _ e3).ext hx,e4,e5⟩
 ·intro b hb;have hlt:b<h'.length:=by have:=hs.hlen;omega
  exact⟨_,qOS hlt,hc b hb _ (qOS hlt)⟩
theorem Frozen.trans {X Y Z:Ctx}{h h':List Blk}(f:Frozen B X Y h)(g:Frozen B Y Z h'):Frozen B X Z h':=⟨g.h,g.w.trans f.w,g.σ.trans f.σ,g.hs,Move.trans f.ext g.ext⟩
theorem qna{B:Base}:∀(l:List Nat) {X:Ctx} (_:HSim B X),∃X',Frozen B X X' (qe2 X.h l)
 | [],X,hs=>⟨X,rfl,rfl,rfl,hs,Ext.refl X⟩
 | b::l,X,hs=>by
  simp only[qe2];split
  ·rename_i cs hb;obtain⟨d1,d2⟩:=qdj hs (h':=X.h.set b (.cells (AV.lendL X.h cs))) (by simp) (fun b' k' hk=>by
    by_cases hbb:b'=b
    ·subst hbb;rw[qOZ (qq hb)] at hk;exact⟨.cells cs,hb,.inr (.inr (.inl ⟨cs,_,rfl,(qPq hk).symm,fun vs hv=>qga hs hv⟩))⟩
    ·rw[qOO (qPe hbb)] at hk;exact⟨k',hk,.inr (.inl rfl)⟩) (fun b' hb' k' hk=>by
    by_cases hbb:b'=b
    ·subst hbb;rw[qOZ (qq hb)] at hk;rw[<-qPq hk];rfl
    ·rw[qOO (qPe hbb)] at hk;obtain⟨cs',h1,h2⟩:=hs.impc b' hb';rw[h1] at hk;rw[<-qPq hk];exact h2)
   obtain⟨X2,f⟩:=qna l d1;have f0:Frozen B X { X with h:=X.h.set b (.cells (AV.lendL X.h cs)) } (X.h.set b (.cells (AV.lendL X.h cs))):=⟨rfl,rfl,rfl,d1,d2⟩;exact⟨X2,f0.trans f⟩
  ·exact qna l hs
theorem qyb (args:List AV)(hs:HSim B X):∃X',Frozen B X X' (vk X.h args):=by unfold vk;obtain⟨X1,f1⟩:=q60 (args.flatMap zT) hs;simp only;rw[<-f1.h];obtain⟨X2,f2⟩:=q60 (q93 X1.h (AV.menL (AV.lendL X1.h args))) f1.hs;rw[<-f2.h];obtain⟨X3,f3⟩:=qna (AV.menL (AV.lendL X1.h args)) f2.hs;exact⟨X3,(f1.trans f2).trans f3⟩
mutual
theorem AV.ren_of_men(f:Nat->Option Nat):∀av:AV,av.men=[]->av.ren f=av
 | .undef,_|.skip,_|.yld,_|.blit _,_|.bool _,_|.ilit _ _,_|.int _ _,_|.str _,_|.nilp,_|.eptr _ _ _ _,_|.mptr _ _ _ _ _,_|.nils,_|.imm _ _,_|.full _ _,_|.nilf,_=>rfl
 | .ptr _ _,h=>by simp[AV.men] at h
 | .vptr _ _ _,h=>by simp[AV.men] at h
 | .vsub _ _,h=>by simp[AV.men] at h
 | .aptr _ _ _,h=>by simp[AV.men] at h
 | .asub _ _ _ _ _,h=>by simp[AV.men] at h
 | .bagg cs k n l,h=>by simp only[AV.men] at h;simp only[AV.ren,AV.renL_of_men f cs h]
 | .vec _,h=>by simp[AV.men] at h
 | .fn g a b,h=>by
  simp only[AV.men,List.append_eq_nil_iff] at h;simp only[AV.ren,AV.renL_of_men f a h.1,AV.renL_of_men f b h.2]
 | .agg cs,h=>by simp only[AV.men] at h;simp only[AV.ren,AV.renL_of_men f cs h]
 | .tuple cs,h=>by simp only[AV.men] at h;simp only[AV.ren,AV.renL_of_men f cs h]
theorem AV.renL_of_men(f:Nat->Option Nat):∀l:List AV,AV.menL l=[]->AV.renL f l=l
 | [],_=>rfl
 | a::l,h=>by
  simp only[AV.menL,List.append_eq_nil_iff] at h;simp only[AV.renL,AV.ren_of_men f a h.1,AV.renL_of_men f l h.2]
end
theorem RepL.noMen {X X':Ctx}{azz:List AV}{vs:List Value}(h:RepL X azz vs)(hm:AV.menL azz=[])(hM:∀n,X.M n->X'.M n)(hw:∀a:Addr,X.M a.block->X'.w.cell? a=X.w.cell? a)(hy:X'.y=X.y:=by rfl):RepL X' azz vs:=by
 have:=h.ren (X':=X') (f:=fun _=>none) ⟨hM,hw,(fun _ _ _ h=>by cases h),hy⟩
 rwa [AV.renL_of_men _ _ hm] at this
theorem Rep.noMen {X X':Ctx}{a:AV}{v:Value}(h:Rep X a v)(hm:a.men=[])(hM:∀n,X.M n->X'.M n)(hw:∀a:Addr,X.M a.block->X'.w.cell? a=X.w.cell? a)(hy:X'.y=X.y:=by rfl):Rep X' a v:=by
 have:=h.ren (X':=X') (f:=fun _=>none) ⟨hM,hw,(fun _ _ _ h=>by cases h),hy⟩
 rwa [AV.ren_of_men _ _ hm] at this
theorem qnG:∀l:List Nat,(qmT l).Nodup
 | []=>List.nodup_nil
 | a::l=>by
  simp only[qmT];split
  ·exact qnG l
  ·rename_i h;exact List.nodup_cons.2 ⟨by simpa using h,qnG l⟩
theorem qEI {l:List Nat}{b k:Nat}(h:qIi l b=some k):l[k]?=some b:=by
 simp only[qIi] at h;split at h
 ·rename_i hlt;cases h;rw[qOS hlt];have:=List.findIdx_getElem (p:=(·==b)) (w:=hlt);simpa using this
 ·cases h
theorem qqb:∀{fp:List Nat} {h:List Blk} {hin:List Blk},q6i h fp=some hin->hin.length=fp.length /\
  ∀(k:Nat) (b:Nat),fp[k]?=some b->∃cs,h[b]?=some cs/\hin[k]?=some cs/\cs.plain=true
 | [],h,hin,e=>by simp[q6i] at e;subst e;exact⟨rfl,fun k b hk=>by simp at hk⟩
 | b::l,h,hin,e=>by
  simp only[q6i] at e;split at e
  ·rename_i cs r h1 h2;split at e
   ·rename_i hm;cases e;obtain⟨g1,g2⟩:=qqb h2;refine⟨by simp[g1],fun k b' hk=>?_⟩;cases k with
    | zero=>simp at hk;subst hk;exact⟨cs,h1,by simp,hm⟩
    | succ k=>
     obtain⟨cs',q1,q2,q3⟩:=g2 k b' (by simpa using hk);exact⟨cs',q1,by simpa using q2,q3⟩
   ·cases e
  ·cases e
theorem qrM:∀{fp:List Nat} {h hout h2:List Blk},q19 h fp hout=some h2->fp.Nodup->(∀b∈fp,b<h.length)->h2.length=h.length/\fp.length<=hout.length /\
  (∀b,b∉fp->h2[b]?=h[b]?)/\∀(k:Nat) (b:Nat),fp[k]?=some b->∃cs,hout[k]?=some cs/\h2[b]?=some cs/\cs.plain=true
 | [],h,hout,h2,e,_,_=>by
  simp[q19] at e;subst e;exact⟨rfl,by simp,fun _ _=>rfl,fun k b hk=>by simp at hk⟩
 | b::l,h,hout,h2,e,hn,hl=>by
  cases hout with
  | nil=>simp[q19] at e
  | cons cs r=>
    simp only[q19] at e;by_cases hm:cs.plain=true
    ·rw[if_pos hm] at e;cases hp:q19 h l r with
     | none=>rw[hp] at e;cases e
     | some h'=>
      rw[hp] at e;simp only[qPk,qOL] at e;subst e;obtain⟨hn1,hn2⟩:=List.nodup_cons.1 hn;obtain⟨g1,g2,g3,g4⟩:=qrM hp hn2 (fun x hx=>hl x (qPc _ hx));have hb:=hl b qP8;refine⟨by simp[g1],by simp;omega,fun x hx=>?_,fun k b' hk=>?_⟩
      ·have:x≠b:=fun e=>hx (e▸qP8);rw[qOO (qPe this)];exact g3 x fun h=>hx (qPc _ h)
      ·cases k with
       | zero=>simp at hk;subst hk;exact⟨cs,by simp,by rw[qOZ (by omega)],hm⟩
       | succ k=>
        have hk':l[k]?=some b':=by simpa using hk
        obtain⟨cs',q1,q2,q3⟩:=g4 k b' hk';have:b'≠b:=fun e=>hn1 (e▸qPA hk');exact⟨cs',by simpa using q1,by rw[qOO (qPe this)];exact q2,q3⟩
    ·rw[if_neg hm] at e;cases e
theorem qF0 {b:Nat}{k:Blk}(hp:k.plain=true)(h:jm X b k):∃n,X.σ b=some n:=by
 cases k with
 | cells cs=>obtain⟨n,_,_,e,_⟩:=h;exact⟨n,e⟩
 | big cs k N l=>obtain⟨n,_,_,_,e,_⟩:=h;exact⟨n,e⟩
 | _=>cases hp
theorem qxt {X X':Ctx}{b b':Nat}{k:Blk}(hp:k.plain=true)(h:jm X b k)(hσ:X'.σ b'=X.σ b)(hw:∀n,X.σ b=some n->X'.w.heap[n]?=X.w.heap[n]?)(hM:∀n,X.M n->X'.M n) (hc:∀a:Addr,X.M a.block->X'.w.cell? a=X.w.cell? a) (hy:X'.y=X.y):jm X' b' k:=by
 cases k with
 | cells cs=>
  obtain⟨n,c,T,e1,e2,e3⟩:=h;exact⟨n,c,T,by rw[hσ];exact e1,by rw[hw n e1];exact e2,e3.noMen (by simpa[Blk.plain] using hp) hM hc hy⟩
 | big cs k N l=>
  obtain⟨n,c,T,vs,e1,e2,e3,e4,e5⟩:=h;exact⟨n,c,T,vs,by rw[hσ];exact e1,by rw[hw n e1];exact e2,e3.noMen (by simpa[Blk.plain] using hp) hM hc hy,e4,e5⟩
 | _=>cases hp
theorem qo0 {k:Blk}(hp:k.plain=true):k.solid=true/\k.mut=true/\(∀e sh l,k≠.vec e sh l/\k≠.frz e sh l):=by cases k<;>first|(cases hp;done)|exact⟨rfl,rfl,fun _ _ _=>⟨(nomatch ·),(nomatch ·)⟩⟩
theorem q9d {E:Env}{P:Program}{f:FuncId}{G:zj}(hG:qz P E.glob f G){args:List AV}{st:St}{r:AV×St}{a:Act}{vargs:List Value}(hsim:Sim E B X st a) (hargs:RepL X args vargs) (h:(q1s G args st).run=some r) :Calls P f vargs.toArray X.w fun e w'=>∃v X',e=.returned v/\X'.w=w'/\Rep X' r.1 v/\Sim E B X' r.2 a:=by
 unfold q1s at h;obtain⟨X1,fz⟩:=qyb args hsim.hs;rw[<-hsim.h] at h;rw[<-fz.h] at h;simp only at h;have hs1:=fz.hs;generalize hfp:qmT (AV.menL (AV.lendL X1.h args))=fp at h;have hnd:fp.Nodup:=hfp▸qnG _;cases htk:q6i X1.h fp with
 | none=>rw[htk] at h;cases h
 | some hin=>
  rw[htk] at h;obtain⟨r0,h1,h2⟩:=bind_some h;cases hput:q19 X1.h fp r0.2 with
  | none=>rw[hput] at h2;cases h2
  | some hh2=>
   rw[hput] at h2;cases h2;obtain⟨k1,k2⟩:=qqb htk;have hfpl:∀b∈fp,b<X1.h.length:=by intro b hb;obtain⟨k,hk⟩:=qQY hb;obtain⟨cs,q1,_⟩:=k2 k b hk;exact qq q1
   obtain⟨p1,p2,p3,p4⟩:=qrM hput hnd hfpl;have hcell:∀(k b:Nat),fp[k]?=some b->∃cs n,X1.h[b]?=some cs/\hin[k]?=some cs/\cs.plain=true/\X1.σ b=some n/\X1.own b n:=by intro k b hk;obtain⟨cs,q1,q2,q3⟩:=k2 k b hk;obtain⟨n,e1⟩:=qF0 q3 (hs1.blk b _ q1);exact⟨cs,n,q1,q2,q3,e1,e1,_,q1,(qo0 q3).2.1⟩
   let X0:Ctx:={ σ:=fun k=>(fp[k]?).bind X1.σ,h:=hin,w:=X1.w,M:=X1.M,y:=X1.y }
   let B0:Base:={ w0:=X1.w,imps:=(List.range hin.length).map X0.σ,M0:=X1.M,fs:=[] }
   have hget0:∀(k:Nat) (blk:Blk),X0.h[k]?=some blk->∃(b:Nat) (cs:Blk) (n:Nat),fp[k]?=some b/\blk=cs/\X1.h[b]?=some cs/\cs.plain=true/\X1.σ b=some n/\X1.own b n:=by
    intro k blk hk;have hlt:k<fp.length:=by rw[<-k1];exact qq hk
    have hfk:fp[k]?=some fp[k]:=qOS hlt;obtain⟨cs,n,q1,q2,q3,q4,q5⟩:=hcell k _ hfk;have:blk=cs:=by have hk':hin[k]?=some blk:=hk;rw[q2] at hk';exact(qPq hk').symm
    exact⟨fp[k],cs,n,hfk,this,q1,q3,q4,q5⟩
   have hσ0:∀(k b:Nat),fp[k]?=some b->X0.σ k=X1.σ b:=by intro k b hk;show (fp[k]?).bind X1.σ=_;rw[hk];rfl
   have hown0:∀(k n:Nat),X0.own k n->∃b:Nat,fp[k]?=some b/\X1.own b n:=by intro k n ⟨e1,blk,e2,e3⟩;obtain⟨b,cs,n',q1,q2,q3,q4,q5,q6⟩:=hget0 k blk e2;rw[hσ0 k b q1,q5] at e1;cases e1;exact⟨b,q1,q6⟩
   have hs0:HSim B0 X0:=by
    constructor
    ·intro k blk hk;obtain⟨b,cs,n,q1,q2,q3,q4,q5,q6⟩:=hget0 k blk hk;subst q2;exact qxt q4 (hs1.blk b _ q3) (hσ0 k b q1) (fun _ _=>rfl) (fun _ h=>h) (fun _ _=>rfl) rfl
    ·intro k k' n hk hk';obtain⟨b,q1,q2⟩:=hown0 k n hk;obtain⟨b',q3,q4⟩:=hown0 k' n hk';have:=hs1.inj b b' n q2 q4;subst this;have hlt:=qq q1;exact(List.getElem?_inj hlt hnd).1 (q1.trans q3.symm)
    ·intro k n hk;obtain⟨b,_,q2⟩:=hown0 k n hk;exact hs1.notM b n q2
    ·exact hs1.ltM
    ·exact fun n hn=>hn
    ·exact fun n hn=>.inl hn
    ·rfl
    ·rfl
    ·rfl
    ·exact qON _
    ·intro _ _ _;rfl
    ·intro k hk;have hk':k<hin.length:=by simpa[B0] using hk
     simp[B0,hk']
    ·intro k hk;have hk':k<hin.length:=by simpa[B0] using hk
     obtain⟨b,cs,n,q1,q2,q3,q4,q5,q6⟩:=hget0 k _ (qOS hk');exact⟨cs,by rw[<-q2];exact qOS hk',(qo0 q4).1⟩
    ·intro k n hk hk2;obtain⟨b,q1,_⟩:=hown0 k n hk;have:k<hin.length:=by rw[k1];exact qq q1
     simp[B0] at hk2;omega
    ·intro p hp;cases hp
   have hent:Entry B0 X0:=⟨rfl,rfl,fun _ h=>h⟩;have hgl:q4x E.glob X0:=by intro x hx;obtain⟨⟨sh,l,i,off,he⟩,hr⟩:=hsim.glob x hx;refine⟨⟨sh,l,i,off,he⟩,hr.move fz.ext.M fz.ext.w ?_⟩;have h3:=hr.1.ext fz.ext;rw[he] at h3 ⊢;exact h3.noMen rfl (fun _ h=>h) (fun _ _=>rfl)
   have hmove:Move0 X1 X0 (qIi fp):=by
    refine⟨fun _ h=>h,fun _ _=>rfl,fun b k hb hk=>?_,rfl⟩;have hfk:=qEI hk;have hnv:∀sh m,¬X0.isVec k sh m:=by intro sh m ⟨e,l,q1,_⟩;rcases q1 with q1|q1<;>obtain⟨_,_,_,_,q2,_,q4,_⟩:=hget0 k _ q1<;>subst q2<;>cases q4
    exact⟨by show k<hin.length;rw[k1];exact qq hfk,hσ0 k b hfk,fun sh m hv=>absurd hv (hnv sh m),fun sh m hv=>absurd hv (hnv sh m)⟩
   have hrep0:RepL X0 (AV.renL (qIi fp) (AV.lendL X1.h args)) vargs:=(qga hs1 (hargs.ext fz.ext)).ren hmove;have hcalls:=hG.2 B0 X0 _ vargs r0 hs0 hent hgl hrep0 h1;have hw1:X0.w=X.w:=fz.w;rw[hw1] at hcalls;refine hcalls.mono fun e w' ⟨v,X0',e1,e2,e3,e4,e5,e6⟩=>?_;have hB0:B0.imps.length=fp.length:=by simp[B0,k1]
   have hσ0':∀(k b:Nat),fp[k]?=some b->X0'.σ k=X1.σ b:=by
    intro k b hk;have hlt:=qq hk;have:=e5.imps k (by rw[hB0];exact hlt);rw[this,<-hσ0 k b hk];have hk':k<hin.length:=by omega
    simp[B0,hk']
   let X':Ctx:={ σ:=fun b=>if b<X1.h.length then X1.σ b else X0'.σ (fp.length+(b-X1.h.length)),h:=hh2++(r0.2.drop fp.length).map (Blk.ren (qrB fp X1.h.length)),w:=X0'.w,M:=X0'.M,kept:=X1.kept,y:=X1.y }
   have hM01:∀n,X1.M n->X0'.M n:=fun n hn=>e5.M0 n hn;have himp:∀n,some n∈B0.imps->∃(k b:Nat),fp[k]?=some b/\X1.own b n:=by
    intro n hn;obtain⟨k,hk,hk2⟩:=qPE.1 hn;have hk':k<fp.length:=by rw[<-k1];simpa using hk
    have hfk:fp[k]?=some fp[k]:=qOS hk';obtain⟨cs,n',q1,q2,q3,q4,q5⟩:=hcell k _ hfk;rw[hσ0 k _ hfk,q4] at hk2;cases hk2;exact⟨k,_,hfk,q5⟩
   have hkeep:∀n,n<X1.w.heap.size->(∀(k b:Nat),fp[k]?=some b->¬X1.own b n)->X0'.w.heap[n]?=X1.w.heap[n]?:=by intro n hn hno;refine e5.frame n hn fun hm=>?_;obtain⟨k,b,q1,q2⟩:=himp n hm;exact hno k b q1 q2
   have hh2l:hh2.length=X1.h.length:=p1;have hget':∀(b:Nat) (blk:Blk),X'.h[b]?=some blk ->
     (b<X1.h.length/\b∉fp/\X1.h[b]?=some blk)\/(b<X1.h.length/\∃(k:Nat) (cs:Blk),fp[k]?=some b/\blk=cs/\X0'.h[k]?=some cs/\cs.plain=true) \/
     (X1.h.length<=b/\∃k0,X0'.h[fp.length+(b-X1.h.length)]?=some k0/\blk=k0.ren (qrB fp X1.h.length)):=by
    intro b blk hb;have hb':(hh2++(r0.2.drop fp.length).map (Blk.ren (qrB fp X1.h.length)))[b]?=some blk:=hb;rcases qOT b X1.h.length with hlt|hge
    ·rw[qOY (by omega)] at hb';by_cases hbf:b∈fp
     ·obtain⟨k,hk⟩:=qQY hbf;obtain⟨cs,q1,q2,q3⟩:=p4 k b hk;rw[q2] at hb';cases hb';exact .inr (.inl ⟨hlt,k,blk,hk,rfl,by rw[e4];exact q1,q3⟩)
     ·rw[p3 b hbf] at hb';exact .inl ⟨hlt,hbf,hb'⟩
    ·rw[qP4 (by omega),qOU,qPR] at hb';refine .inr (.inr ⟨hge,?_⟩);rw[hh2l] at hb';cases hq:r0.2[fp.length+(b-X1.h.length)]? with
     | none=>rw[hq] at hb';cases hb'
     | some k0=>
      rw[hq] at hb';simp only[qPk,qOL] at hb';exact⟨k0,by rw[e4];exact hq,hb'.symm⟩
   have hσlt:∀b,b<X1.h.length->X'.σ b=X1.σ b:=fun b hb=>by show (if b<X1.h.length then _ else _)=_;rw[if_pos hb]
   have hσge:∀b,X1.h.length<=b->X'.σ b=X0'.σ (fp.length+(b-X1.h.length)):=fun b hb=>by show (if b<X1.h.length then _ else _)=_;rw[if_neg (by omega)]
   have hnotin:∀b n,b∉fp->X1.own b n->∀(k b':Nat),fp[k]?=some b'->¬X1.own b' n:=by intro b n hb ho k b' hk ho';exact hb (hs1.inj b b' n ho ho'▸qPA hk)
   have hMnot:∀n,X1.M n->∀(k b':Nat),fp[k]?=some b'->¬X1.own b' n:=fun n hn k b' _ ho=>hs1.notM b' n ho hn;have hsz:=e5.size;have hback:Move0 X0' X' (qrB fp X1.h.length):=by
    refine⟨fun _ h=>h,fun _ _=>rfl,fun k b hk hf=>?_,e6.symm⟩;simp only[qrB] at hf;by_cases hlt:k<fp.length
    ·rw[if_pos hlt] at hf;have hbl:=hfpl b (qPA hf);have hnv:∀sh m,¬X'.isVec b sh m:=by
      intro sh m ⟨e,l,q1,_⟩;rcases q1 with q1|q1<;>rcases hget' b _ q1 with⟨_,h3,_⟩|⟨_,_,_,_,h3,_,h3p⟩|⟨h3,_⟩ <;>
       first|omega|exact absurd (qPA hf) h3|(subst h3;cases h3p)
     exact⟨by show b<List.length (_++_);simp;omega,by rw[hσlt b hbl,hσ0' k b hf],fun sh m hv=>absurd hv (hnv sh m),fun sh m hv=>absurd hv (hnv sh m)⟩
    ·rw[if_neg hlt] at hf;cases hf;have hk2:k<r0.2.length:=by rw[<-e4];exact hk
     have hidx:fp.length+(X1.h.length+(k-fp.length)-X1.h.length)=k:=by omega
     refine⟨?_,?_,fun sh m ⟨e,l,q1,q2⟩=>?_,fun sh m _ n hn c T fr hc=>⟨c,T,fr,hc,rfl⟩⟩
     ·show _<List.length (_++_);simp;omega
     ·rw[hσge _ (by omega),hidx]
     ·rcases q1 with q1|q1<;>rcases hget' _ _ q1 with⟨h3,_⟩|⟨h3,_⟩|⟨_,k0,h3,h4⟩<;>first|omega|skip
      ·rw[hidx] at h3;rcases qr9 (.inl h4) with rfl|rfl
       ·exact⟨e,l,.inl h3,q2⟩
       ·exact⟨e,l,.inr h3,q2⟩
      ·rw[hidx] at h3;rcases qr9 (.inr h4) with rfl|rfl
       ·exact⟨e,l,.inl h3,q2⟩
       ·exact⟨e,l,.inr h3,q2⟩
   have hext:Ext X1 X':=by
    refine Move.of hM01 (fun ad had=>qPP (hkeep _ (hs1.ltM _ had) (hMnot _ had))) (fun b b' hb hf=>?_);cases hf;have hvec:∀sh m,X'.isVec b sh m->b∉fp/\X1.isVec b sh m:=by
     intro sh m ⟨e,l,q1,q2⟩;rcases q1 with q1|q1<;>rcases hget' b _ q1 with⟨_,h3,h4⟩|⟨_,_,_,_,h3,_,h3p⟩|⟨h3,_⟩<;>first|omega|(subst h3;cases h3p;done)|skip
     ·exact⟨h3,e,l,.inl h4,q2⟩
     ·exact⟨h3,e,l,.inr h4,q2⟩
    refine⟨by show _<List.length (_++_);simp;omega,hσlt b hb,fun sh m hv=>(hvec sh m hv).2,fun sh m hv n hn c T fr hc=>⟨c,T,fr,?_,rfl⟩⟩;obtain⟨h3,e,l,h4,_⟩:=hvec sh m hv;refine(hkeep n (qOR.1 hc).1 ?_).trans hc;rcases h4 with h4|h4
    ·exact hnotin b n h3 ⟨hn,_,h4,rfl⟩
    ·rcases hs1.blk b _ h4 with⟨h5,_⟩|⟨n',c',h5,_,_,h6⟩
     ·rw[hn] at h5;cases h5
     ·rw[hn] at h5;cases h5;exact hMnot n h6
   have hown':∀(b n:Nat),X'.own b n->(b<X1.h.length/\X1.own b n)\/(X1.h.length<=b/\X0'.own (fp.length+(b-X1.h.length)) n):=by
    intro b n ⟨q1,blk,q2,q3⟩;rcases hget' b blk q2 with⟨h3,_,h4⟩|⟨h3,k,cs,h4,h5,_,_⟩|⟨h3,k0,h4,h5⟩
    ·exact .inl ⟨h3,by rw[<-hσlt b h3];exact q1,blk,h4,q3⟩
    ·obtain⟨cs',n',w1,_,_,w4,w5⟩:=hcell k b h4;rw[hσlt b h3,w4] at q1;cases q1;exact .inl ⟨h3,w5⟩
    ·subst h5;exact .inr ⟨h3,by rw[<-hσge b h3];exact q1,k0,h4,by rwa [Blk.mut_ren] at q3⟩
   have hnewge:∀k n,fp.length<=k->X0'.own k n->X1.w.heap.size<=n:=fun k n hk ho=>e5.fresh k n ho (by rw[hB0];exact hk);have hs':HSim B X':=by
    constructor
    ·intro b blk hb;rcases hget' b blk hb with⟨h3,h4,h5⟩|⟨h3,k,cs,h4,h5,h6,h7⟩|⟨h3,k0,h4,h5⟩
     ·by_cases hd:blk=.dead
      ·subst hd;trivial
      ·refine jm.ext hext (hσlt b h3) (fun n hn=>hkeep n (hs1.lt h5 hd hn) ?_) (hs1.blk b blk h5);by_cases hm1:blk.mut=true
       ·exact hnotin b n h4 ⟨hn,blk,h5,hm1⟩
       ·cases blk with
        | cells=>exact absurd rfl hm1
        | big=>exact absurd rfl hm1
        | vec=>exact absurd rfl hm1
        | dead=>exact absurd rfl hd
        | frz e sh l=>
         rcases hs1.blk b _ h5 with⟨h6,_⟩|⟨n',c',h6,_,_,h7⟩
         ·rw[hn] at h6;cases h6
         ·rw[hn] at h6;cases h6;exact hMnot n h7
     ·subst h5;exact qxt h7 (e5.blk k _ h6) (by rw[hσlt b h3,<-hσ0' k b h4]) (fun _ _=>rfl) (fun _ h=>h) (fun _ _=>rfl) e6.symm
     ·subst h5;exact jm.move hback (hσge b h3) (fun _ _=>rfl) (e5.blk _ k0 h4)
    ·intro b b' n h3 h4;rcases hown' b n h3 with⟨w1,w2⟩|⟨w1,w2⟩<;>rcases hown' b' n h4 with⟨w3,w4⟩|⟨w3,w4⟩
     ·exact hs1.inj b b' n w2 w4
     ·have:=hnewge _ n (by omega) w4;have:=Ctx.own.lt hs1 w2;omega
     ·have:=hnewge _ n (by omega) w2;have:=Ctx.own.lt hs1 w4;omega
     ·have:=e5.inj _ _ n w2 w4;omega
    ·intro b n h3 h4;rcases hown' b n h3 with⟨w1,w2⟩|⟨w1,w2⟩
     ·rcases e5.newM n h4 with h5|h5
      ·exact hs1.notM b n w2 h5
      ·have h6:X1.w.heap.size<=n:=h5;have:=Ctx.own.lt hs1 w2;omega
     ·exact e5.notM _ n w2 h4
    ·exact e5.ltM
    ·exact fun n hn=>hM01 n (hs1.M0 n hn)
    ·intro n hn;rcases e5.newM n hn with h5|h5
     ·exact hs1.newM n h5
     ·have h6:X1.w.heap.size<=n:=h5;have:=hs1.size;exact .inr (by omega)
    ·exact e5.os.trans hs1.os
    ·exact e5.tape.trans hs1.tape
    ·exact e5.output.trans hs1.output
    ·have h6:X1.w.heap.size<=X0'.w.heap.size:=hsz;have:=hs1.size;show B.w0.heap.size<=X0'.w.heap.size;omega
    ·intro n hn hni;have h6:=hs1.size;have:X0'.w.heap[n]?=X1.w.heap[n]?:=by
      refine hkeep n (by omega) fun k b hk ho=>?_;rcases qOT b B.imps.length with hlt|hge
      ·have h7:=hs1.imps b hlt;rw[ho.1,qOS hlt] at h7;simp at h7;exact hni (h7▸qPx hlt)
      ·have:=hs1.fresh b n ho hge;omega
     exact this.trans (hs1.frame n hn hni)
    ·intro b hb;have:=hs1.hlen;rw[hσlt b (by omega)];exact hs1.imps b hb
    ·intro b hb;have:=hs1.hlen;obtain⟨cs,h3,h3s⟩:=hs1.impc b hb;by_cases hbf:b∈fp
     ·obtain⟨k,hk⟩:=qQY hbf;obtain⟨cs',q1,q2,q3⟩:=p4 k b hk;exact⟨cs',by show (_++_)[b]?=_;rw[qOY (by omega)];exact q2,(qo0 q3).1⟩
     ·exact⟨cs,by show (_++_)[b]?=_;rw[qOY (by omega),p3 b hbf];exact h3,h3s⟩
    ·intro b n h3 h4;rcases hown' b n h3 with⟨w1,w2⟩|⟨w1,w2⟩
     ·exact hs1.fresh b n w2 h4
     ·have:=hnewge _ n (by omega) w2;have:=hs1.size;omega
    ·intro p hp;obtain⟨q1,q2,q3⟩:=hs1.kept p hp;refine⟨(hkeep p.1 (qOR.1 q1).1 fun k b _ ho=>?_).trans q1,q2,q3⟩;obtain⟨c,T,fr,hc⟩:=ho.cells hs1;rw[hc] at q1;exact q2 _ _ _ (qPq q1).symm
   exact⟨v,X',e1,e2,e3.ren hback,(hsim.ext fz.ext hs1).ext hext hs'⟩
end Go.Eng

namespace Go.Eng
variable {E:Env}{t:TypeId}
def uA(h:List Blk):Tree Res->Prop
 | .leaf r=>r.2=(h,none)
 | .br _ t e=>uA h t/\uA h e
 | .fail=>True
theorem uA.run {h:List Blk}{t:Tree Res}{r:Res}(ht:uA h t)(hr:t.run=some r):r.2=(h,none):=by
 induction t with
 | leaf x=>cases hr;exact ht
 | br b t e iht ihe=>cases b<;>simp only[Tree.run] at hr<;>first|exact iht ht.1 hr|exact ihe ht.2 hr
 | fail=>cases hr
theorem qpZ (h:List Blk)(k:IntKind)(f:Int->Int->Int)(l:Bool)(x y:Int):uA h (q7Z h k f l x y):=by unfold q7Z;split<;>rfl
theorem qC6 (h:List Blk)(f:Int->Int->Bool)(l:Bool)(x y:Int):uA h (qEx h f l x y):=by unfold qEx;split<;>rfl
theorem qFe (E:Env)(h:List Blk)(t:TypeId)(p:AV):uA h (qiD E h t p):=by
 unfold qiD;dsimp only
 repeat' (first|exact rfl|exact trivial|split)
theorem qBM (E:Env)(h:List Blk)(t:TypeId)(ps:List (Nat×AV)):uA h (qkP E h t ps):=by
 unfold qkP
 repeat' (first|exact rfl|exact trivial|split)
theorem qCC (E:Env)(h:List Blk)(t:TypeId)(p:AV):uA h (qf2 E h t p):=by
 unfold qf2 qH1
 repeat' (first|exact qFe _ _ _ _|exact rfl|exact trivial|exact⟨rfl,trivial⟩|split)
theorem qBo (E:Env)(h:List Blk)(t:TypeId)(ps:List (Nat×AV)):uA h (qe4 E h t ps):=by
 unfold qe4
 repeat' (first|exact qBM _ _ _ _|exact rfl|exact trivial|split)
theorem qv1 (E:Env)(h:List Blk)(s:TypeId)(x:AV)(f:Nat):uA h (q2D E h s x f):=by
 unfold q2D
 repeat' (first|exact rfl|exact trivial|split)
theorem qrs (E:Env)(h:List Blk)(t:TypeId)(cs:List AV)(o:Nat):uA h (qkN E h t cs o):=by
 unfold qkN
 repeat' (first|exact rfl|exact trivial|split)
theorem qCr (E:Env)(h:List Blk)(s:TypeId)(x:AV)(f:Nat):uA h (qkH E h s x f):=by
 unfold qkH
 repeat' (first|exact rfl|exact trivial|exact qrs _ _ _ _ _|split)
theorem qox(h:List Blk)(i:Int)(f:Nat->AV):∀n,uA h (qjC h i f n)
 | 0=>trivial
 | n+1=>⟨rfl,qox h i f n⟩
theorem quU (E:Env)(h:List Blk)(t:TypeId)(x i:AV):uA h (yY E h t x i):=by
 unfold yY
 repeat' (first|exact qox _ _ _ _|exact rfl|exact trivial|exact⟨rfl,trivial⟩|split)
theorem qsU (E:Env)(h:List Blk)(t:TypeId)(x i:AV):uA h (q0U E h t x i):=by
 unfold q0U
 repeat' (first|exact quU _ _ _ _ _|exact rfl|exact trivial|exact⟨rfl,trivial⟩|split)
theorem qxC(E:Env)(h:List Blk)(e:TypeId)(cs:List AV)(es:Nat)(i:Int):∀m j,uA h (qrX E h e cs es i j m)
 | 0,_=>trivial
 | m+1,j=>⟨qrs _ _ _ _ _,qxC E h e cs es i m (j+1)⟩
theorem qCV (E:Env)(h:List Blk)(t:TypeId)(x i:AV):uA h (qjS E h t x i):=by
 unfold qjS
 repeat' (first|exact rfl|exact trivial|exact⟨rfl,trivial⟩|exact qrs _ _ _ _ _|exact qxC _ _ _ _ _ _ _ _|split)
theorem qHT (d:TD)(h:List Blk)(op:BinOp)(x y:AV):uA h (qzT d h op x y):=by
 unfold qzT
 repeat' (first|exact rfl|exact trivial|exact qpZ _ _ _ _ _ _|exact qC6 _ _ _ _ _|exact⟨rfl,trivial⟩|exact⟨qpZ _ _ _ _ _ _,trivial⟩|split)
theorem qCE (E:Env)(h:List Blk)(op:BinOp)(t:TypeId)(x y:AV):uA h (qo2 E h op t x y):=by
 unfold qo2;split
 ·unfold qvs
  repeat' (first|exact rfl|exact trivial|split)
 ·exact qHT _ _ _ _ _
theorem qJH (h:List Blk)(op:UnOp)(x:AV):uA h (qLR h op x):=by
 unfold qLR
 repeat' (first|exact rfl|exact trivial|split)
theorem qFt (E:Env)(h:List Blk)(s d:TypeId)(x:AV):uA h (qsa E h s d x):=by
 unfold qsa
 repeat' (first|exact rfl|exact trivial|split)
theorem qCp (E:Env)(h:List Blk)(s d:TypeId)(x:AV):uA h (qkS E h s d x):=by
 unfold qkS;split
 ·split
  ·unfold qtx
   repeat' (first|exact rfl|exact trivial|split)
  ·trivial
 ·exact qFt _ _ _ _ _
theorem qHs (E:Env)(h:List Blk)(ts:List TypeId)(azz:List AV):uA h (quW E h ts azz):=by
 unfold quW;split
 ·unfold qGf
  repeat' (first|exact rfl|exact trivial|split)
 ·trivial
theorem qDc (f:Int->Int->Int)(h:List Blk)(azz:List AV):uA h (qyg f h azz):=by
 unfold qyg
 repeat' (first|exact rfl|exact trivial|split)
theorem qC7 (ht:(E.ty t).d=.str)(h:List Blk)(x:AV)(lo hi mx:Option AV):uA h (qfS E h t x lo hi mx):=by
 unfold qfS;rw[ht];cases mx with
 | some _=>trivial
 | none=>
  cases x<;>first|trivial|skip
  simp only;split
  ·exact⟨⟨rfl,trivial⟩,trivial⟩
  ·trivial
theorem qAK (ht:(E.ty t).d=.str)(h:List Blk)(x:AV)(lo hi mx:Option AV):uA h (un E h t x lo hi mx):=by unfold un;rw[ht];exact qC7 ht _ _ _ _ _
theorem qA6 {n:Nat}{e:TypeId}{es:Nat}(ht:(E.ty t).d=.array n e es)(h:List Blk)(x:AV)(lo hi mx:Option AV):uA h (un E h t x lo hi mx):=by
 unfold un;rw[ht];simp only;unfold qKe qBs
 repeat' (first|exact rfl|exact trivial|exact⟨⟨rfl,trivial⟩,trivial⟩|exact⟨⟨⟨rfl,trivial⟩,trivial⟩,trivial⟩|split)
theorem qB3 {e:TypeId}{es:Nat}(ht:(E.ty t).d=.slice e es)(h:List Blk)(x:AV)(lo hi:Option AV){mx:Option AV}(hm:mx.isSome=true):uA h (un E h t x lo hi mx):=by
 unfold un;rw[ht];simp only;unfold qfS;cases mx with
 | none=>cases hm
 | some m=>
  simp only;rw[ht]
  repeat' (first|exact rfl|exact trivial|exact⟨⟨⟨rfl,trivial⟩,trivial⟩,trivial⟩|split)
theorem qxb {h:List Blk}{ev:Operand->AV}{op:Op}(hs:qf7 E op=true){r:Res}(hr:(qtc E h ev op).run=some r):r.2=(h,none):=by
 have key:uA h (qtc E h ev op):=by
  unfold qtc;cases op<;>simp only[qf7] at hs<;>try (cases hs)
  case move=>rfl
  case assign=>rfl
  case pick=>simp only;split<;>first|rfl|exact⟨rfl,rfl⟩|trivial
  case build=>exact qBo _ _ _ _
  case load=>exact qCC _ _ _ _
  case nilCheck=>simp only;repeat' (first|exact rfl|exact⟨rfl,trivial⟩|exact trivial|split)
  case binOp=>exact qCE _ _ _ _ _ _
  case unOp=>exact qJH _ _ _
  case convert=>exact qCp _ _ _ _ _
  case makeFunc fn _ _=>cases fn<;>first|rfl|trivial
  case slice t x lo hi mx=>
   split at hs
   ·rename_i ht;exact qAK ht _ _ _ _ _
   ·rename_i ht;exact qA6 ht _ _ _ _ _
   ·rename_i ht;exact qB3 ht _ _ _ _ (by simpa using hs)
   ·cases hs
  case fieldAddr=>exact qv1 _ _ _ _ _
  case field=>exact qCr _ _ _ _ _
  case indexAddr=>exact qsU _ _ _ _ _
  case index=>exact qCV _ _ _ _ _
  case extract=>simp only;repeat' (first|exact rfl|exact trivial|split)
  case call c=>
   obtain⟨callee,args,tys⟩:=c;cases callee with
   | builtin b=>
    cases b<;>simp only at hs<;>try (cases hs)
    ·exact qHs _ _ _ _
    ·exact qDc _ _ _
    ·exact qDc _ _ _
   | value x=>simp only at hs;cases hs
   | invoke x n=>simp only at hs;cases hs
 exact key.run hr
end Go.Eng

namespace Go.Eng
variable {E:Env}
theorem qyw {callS:q8f}{h:List Blk}{f g:Operand->AV}{op:Op}(hfg:∀x∈op.operands.toList,f x=g x):qeI E callS h f op=qeI E callS h g op:=by
 have hmap:∀(l:List Operand),(∀x∈l,x∈op.operands.toList)->l.map f=l.map g:=fun l hl=>qPV fun x hx=>hfg x (hl x hx);have hop:qf7 E op=true->qtc E h f op=qtc E h g op:=by
  intro hst;unfold qtc;cases op<;>simp only[qf7] at hst<;>try (cases hst)
  case move x=>simp only;rw[hfg x (by simp[Op.operands])]
  case assign x=>simp only;rw[hfg x (by simp[Op.operands])]
  case pick c a b=>simp only;rw[hfg c (by simp[Op.operands]),hfg a (by simp[Op.operands]),hfg b (by simp[Op.operands])]
  case build t ps=>
   simp only;have:(ps.toList.map fun p=>(p.1,f p.2))=ps.toList.map fun p=>(p.1,g p.2):=qPV fun p hp=>by rw[hfg p.2 (by simp only[Op.operands];exact List.mem_map_of_mem hp)]
   rw[this]
  case load t a=>simp only;rw[hfg a (by simp[Op.operands])]
  case nilCheck a=>simp only;rw[hfg a (by simp[Op.operands])]
  case binOp o t x y ty=>simp only;rw[hfg x (by simp[Op.operands]),hfg y (by simp[Op.operands])]
  case unOp o t x=>simp only;rw[hfg x (by simp[Op.operands])]
  case convert s d x=>simp only;rw[hfg x (by simp[Op.operands])]
  case makeFunc fn a b=>cases fn<;>simp only;rw[hmap a.toList (fun x hx=>by simp only[Op.operands,qQN];exact qPF _ hx),hmap b.toList (fun x hx=>by simp only[Op.operands,qQN];exact qPt _ hx)]
  case slice t x lo hi mx=>
   simp only;have hlo:∀y,lo=some y->f y=g y:=fun y hy=>hfg y (by subst hy;simp[Op.operands]);have hhi:∀y,hi=some y->f y=g y:=fun y hy=>hfg y (by subst hy;simp[Op.operands]);have hmx:∀y,mx=some y->f y=g y:=fun y hy=>hfg y (by subst hy;simp[Op.operands]);have e1:lo.map f=lo.map g:=by
    cases lo with
    | none=>rfl
    | some y=>exact congrArg some (hlo y rfl)
   have e2:hi.map f=hi.map g:=by
    cases hi with
    | none=>rfl
    | some y=>exact congrArg some (hhi y rfl)
   have e3:mx.map f=mx.map g:=by
    cases mx with
    | none=>rfl
    | some y=>exact congrArg some (hmx y rfl)
   rw[e1,e2,e3,hfg x (by simp[Op.operands])]
  case fieldAddr s x i=>simp only;rw[hfg x (by simp[Op.operands])]
  case field s x i=>simp only;rw[hfg x (by simp[Op.operands])]
  case indexAddr t x i=>simp only;rw[hfg x (by simp[Op.operands]),hfg i (by simp[Op.operands])]
  case index t x i=>simp only;rw[hfg x (by simp[Op.operands]),hfg i (by simp[Op.operands])]
  case extract x i=>simp only;rw[hfg x (by simp[Op.operands])]
  case call c=>
   obtain⟨callee,args,tys⟩:=c;cases callee with
   | builtin b=>
    simp only;rw[hmap args.toList (fun x hx=>by simpa[Op.operands,Call.operands] using hx)]
   | value x=>simp only at hst;cases hst
   | invoke x n=>simp only at hst;cases hst
 unfold qeI;split
 ·rename_i x args tys;rw[hfg x (by simp[Op.operands,Call.operands]),hmap args.toList (fun y hy=>by simp only[Op.operands,Call.operands,qQN];exact qPt _ hy)]
 ·split
  ·rename_i hst;rw[hop hst]
  ·rfl
def qnJ(E:Env)(P:Program)(callS:List Blk->q8f):Prop:=
 ∀(f:FuncId) (args:List AV) (st:St) (v:AV) (B:Base) (X:Ctx) (a:Act) (vargs:List Value),Sim E B X st a->RepL X args vargs->(callS st.h f args).run=some v ->
  (∀w,(callFunc f vargs.toArray).run P w=.ok (.enter f vargs.toArray) w) /\
  Calls P f vargs.toArray X.w fun e w'=>∃u X',e=.returned u/\X'.w=w'/\Rep X' v u/\Sim E B X' st a
def q6s(E:Env)(callS:List Blk->q8f):Prop:=∀(h h':List Blk) (f:FuncId) (args:List AV),(qjt E f).isSome=true->(∀b,b∈AV.menL args->h'[b]?=h[b]?)->callS h' f args=callS h f args
def qqP(P:Program)(f:FuncId)(e:TypeId):Prop:=(∀args w,(callFunc f args).run P w=.ok (.enter f args) w) /\
 ∀(w:World) (n len cap i j:Nat) (c:Array Value) (T:TypeId),w.heap[n]?=some (.cells c T (0,0))->c.size=cap*P.cellsOf e->(∀k v,k<len*P.cellsOf e->c[k]?=some v->v.oneCell'=true)->0<P.cellsOf e ->
  len<=cap->cap<=9223372036854775807->i<=j->j<=len ->
  Calls P f #[.slice (some ⟨n,0,none⟩) len cap,.int .i64 i,.int .i64 j] w fun x w'=>x=.returned (.slice (some ⟨n,0,none⟩) (len-(j-i)) cap) /\
   ∃c',w'.heap[n]?=some (.cells c' T (0,0))/\c'.size=c.size/\(∀k,k<(len-(j-i))*P.cellsOf e->c'[k]?=if k<i*P.cellsOf e then c[k]? else c[k+(j-i)*P.cellsOf e]?) /\
    (∀m,m≠n->w'.heap[m]?=w.heap[m]?)/\w'.heap.size=w.heap.size/\w'.os=w.os/\w'.tape=w.tape/\w'.output=w.output
structure Env.specs (E:Env) (P:Program):Prop where
 sp:∀x,x∈E.spec->qz P E.glob x.1 x.2
 dl:∀x,x∈E.dels->qqP P x.1 x.2
theorem qm6:∀(l:List Nat) (h:List Blk),l.all (qnD h)=true->qH h l=h
 | [],_,_=>rfl
 | b::l,h,hl=>by
  simp only[qQL,qP0] at hl;have:zF h b=h:=by
   unfold zF;have:=hl.1;unfold qnD at this;split at this
   ·rename_i hb;rw[hb]
   ·cases this
  simp only[qH,this];exact qm6 l h hl.2
theorem qzc {P:Program}(hS:E.specs P):qnJ E P (qbX E):=by
 intro f args st v B X a vargs hsim hargs h;unfold qbX at h;cases hf:E.spec.find? fun x=>x.1==f with
 | none=>rw[hf] at h;cases h
 | some G=>
  rw[hf] at h;have hG:=hS.sp G (qPG hf);have hfe:G.1=f:=by simpa using qQ0 hf
  simp only at h;split at h
  ·rename_i hc;obtain⟨r,h1,h2⟩:=bind_some h;have hr2:r.2=[]/\(r.1.men)=[]/\v=r.1:=by
    split at h2
    ·rename_i he;split at h2
     ·rename_i hm;cases h2;exact⟨he,by simpa using hm,rfl⟩
     ·cases h2
    ·cases h2
   obtain⟨q1,q2,rfl⟩:=hr2;have hfz:qH st.h (args.flatMap zT)=st.h:=qm6 _ _ hc.1;have hmen:AV.menL (AV.lendL st.h args)=[]:=by simpa using hc.2
   have hcs:(q1s G.2 args st).run=some (r.1,st):=by
    unfold q1s;have hpr:vk st.h args=st.h:=by unfold vk;simp only[hfz,hmen,q93,qH,qe2]
    simp only[hpr,hmen,qmT,q6i];rw[AV.renL_of_men _ _ hmen,Tree.run_bind,h1];simp only[qPd,q19,q1,qPu,List.drop_nil,List.map_nil,qPL];rw[AV.ren_of_men _ _ q2];rfl
   rw[hfe] at hG;refine⟨hG.1 _,?_⟩;exact q9d hG hsim hargs hcs
  ·cases h
theorem qys {P:Program}(hE:E.tok P){callS:List Blk->q8f}(hc:qnJ E P callS){B:Base}{X:Ctx}{st:St}{a:Act}(hs:Sim E B X st a){o:Oper}{av:AV}(h:(qeI E (callS st.h) st.h (E.opd st.t) o.op).run=some av) {next:Act->World->Prop} {Q:Exit->Act->World->Prop}(hq:∀X' v,Sim E B X' st a->Rep X' av v->next (a.put o.dst v) X'.w):o.wp P a X.w next Q:=by
 unfold qeI at h;split at h
 ·rename_i x args tys hop;cases hx:E.opd st.t x with
  | fn f first caps=>
   rw[hx] at h;have hv:=qaM hs x;rw[hx] at hv;generalize hev:a.eval x=vx at hv;cases hv with
   | fn _ _ _ vf vc q1 q2=>
    have hargs:=q4j hs args.toList;have hall:RepL X (first++args.toList.map (E.opd st.t)++caps) (vf++args.toList.map a.eval++vc):=(q1.append hargs).append q2;obtain⟨g1,g2⟩:=hc f _ st av B X a _ hs hall h;unfold Oper.wp;have hrun:(execOp a.eval o).run P X.w=.ok (.enter f (vf++args.toList.map a.eval++vc).toArray) X.w:=by
     simp only[execOp,hop,resolve,hev,Deferred.ofValue,qOQ,qPh,qOW,invoke];have:vf.toArray++args.map a.eval++vc.toArray=(vf++args.toList.map a.eval++vc).toArray:=by apply qQ1;simp
     rw[this];exact g1 X.w
    rw[hrun];refine g2.mono fun e w' ⟨v,X',e1,e2,e3,e4⟩=>?_;subst e1 e2;exact hq X' _ e4 e3
  | _=>rw[hx] at h;cases h
 ·split at h
  ·rename_i hst;obtain⟨r,h1,h2⟩:=bind_some h;cases h2;have hr2:=qxb hst h1;obtain⟨nx,v,X',g1,g2,g3,g4,g5⟩:=qpn hE hs h1;have hrn:r.2.2=none:=by rw[hr2]
   rw[hrn] at g5;have hXh:X'.h=st.h:=by rw[g5.1,hr2]
   have hs':Sim E B X' st a:=by have:=hs.ext g5.2 g4;rw[hXh] at this;exact this
   unfold Oper.wp;rw[g1];rcases g2 with rfl|⟨rfl,rfl⟩
   ·exact hq X' _ hs' g3
   ·exact hq X' _ hs' g3
  ·cases h
theorem Sim.drawn {B:Base}{X:Ctx}{st:St}{a:Act}(hs:Sim E B X st a)(n:Nat):Sim E B { X with w:={ X.w with drawn:=n } } st a:=by
 have hx:Ext X { X with w:={ X.w with drawn:=n } }:=
  Move.of (fun _ h=>h) (fun _ _=>rfl) (fun b b' hb h=>by cases h;exact⟨hb,rfl,fun _ _ h=>h,fun _ _ _ _ _ c T fr h=>⟨c,T,fr,h,rfl⟩⟩)
 have h0:=hs.hs;have hs':HSim B { X with w:={ X.w with drawn:=n } }:=
  ⟨fun b k hk=>jm.ext hx rfl (fun _ _=>rfl) (h0.blk b k hk),h0.inj,h0.notM,h0.ltM,h0.M0,h0.newM,h0.os,h0.tape,h0.output,h0.size,h0.frame,h0.imps,h0.impc,h0.fresh,h0.kept⟩
 have:=hs.ext hx hs';have e:({ st with h:=X.h }:St)=st:=by rw[hs.h]
 exact e▸this
end Go.Eng

namespace Go.Eng
def qCv(all:Array Oper)(k:Nat)(v:AV):AV:=if qBz all k then (match v with|.bool b=>.blit b|v=>v) else v
theorem qvg{X:Ctx}{all:Array Oper}{k:Nat}{v:AV}{u:Value}(h:Rep X v u):Rep X (qCv all k v) u:=by
 unfold qCv;split
 ·cases h with
  | bool b=>exact .blit b
  | undef=>exact .undef _
  | skip=>exact .skip
  | yld=>exact .yld
  | blit b=>exact .blit b
  | ilit k n=>exact .ilit k n
  | int k n=>exact .int k n
  | str s=>exact .str s
  | nilp=>exact .nilp
  | ptr b off n h1 h2=>exact .ptr b off n h1 h2
  | eptr sh l i off a h1 h2 h3 h4=>exact .eptr sh l i off a h1 h2 h3 h4
  | mnil sh l i off=>exact .mnil sh l i off
  | mptr sh l i off a h1 h2 h3 h4=>exact .mptr sh l i off a h1 h2 h3 h4
  | vptr b i off n k h1 h2 h3=>exact .vptr b i off n k h1 h2 h3
  | vsub b i n k m c h1 h2 h3=>exact .vsub b i n k m c h1 h2 h3
  | aptr b o i n h1 h2 h3=>exact .aptr b o i n h1 h2 h3
  | asub b o N i m n k c h1 h2 h3 h4 h5 h6=>exact .asub b o N i m n k c h1 h2 h3 h4 h5 h6
  | nils=>exact .nils
  | imm sh l _ h=>exact .imm sh l _ h
  | full sh l p n h=>exact .full sh l p n h
  | vec b p n c h1 h2=>exact .vec b p n c h1 h2
  | nilf=>exact .nilf
  | fn f a b c d h1 h2=>exact .fn f a b c d h1 h2
  | agg cs vs h=>exact .agg cs vs h
  | tuple cs vs h=>exact .tuple cs vs h
  | bagg cs k n l vs h hl=>exact .bagg cs k n l vs h hl
 ·exact h
theorem qI4{all:Array Oper}{k:Nat}{o:Oper}{st st':St}{v:AV}(h:(qvU all k o { st with t:=qmF st.t o.dst v }).run=some st') :st'={ st with t:=qmF st.t o.dst (qCv all k v) }:=by
 unfold qvU at h;unfold qCv;by_cases hg:qBz all k=true
 ·rw[if_pos hg] at h ⊢;cases hd:o.dst with
  | none=>rw[hd] at h;cases h;rfl
  | some d=>
   rw[hd] at h;simp only[qmF] at h ⊢;rcases qOT d st.t.length with hlt|hge
   ·rw[qOZ hlt] at h;cases v<;>simp only at h<;>try (cases h;rfl)
    rename_i b;cases b<;>(cases h;simp[List.set_set])
   ·rw[List.set_eq_of_length_le hge] at h;rw[qP7 hge] at h;cases h;rw[List.set_eq_of_length_le hge]
 ·rw[if_neg hg] at h ⊢;cases h;rfl
def qgg(V:Nat->AV):Nat->List Oper->List AV->List AV
 | _,[],t=>t
 | k,o::rest,t=>qgg V (k+1) rest (qmF t o.dst (V k))
theorem qtT{V W:Nat->AV}:∀(l:List Oper) (k:Nat) (t:List AV),(∀j,k<=j->V j=W j)->qgg V k l t=qgg W k l t
 | [],_,_,_=>rfl
 | o::l,k,t,h=>by
  simp only[qgg];rw[h k (qON _)];exact qtT l (k+1) _ fun j hj=>h j (by omega)
section
variable (dst:Nat->Option Tmp) (V:Nat->AV) (T0:List AV)
def TLp(L:Nat->Bool):Nat->List AV
 | 0=>T0
 | m+1=>if L m then qmF (TLp L m) (dst m) (V m) else TLp L m
variable {dst V T0}
theorem qCq(t:List AV)(d:Option Tmp)(v:AV):(qmF t d v).length=t.length:=by cases d<;>simp[qmF]
theorem qgO(L:Nat->Bool):∀m,(TLp dst V T0 L m).length=T0.length
 | 0=>rfl
 | m+1=>by simp only[TLp];split<;>simp[qCq,qgO L m]
theorem qbO{L:Nat->Bool}{t:Tmp}:∀m,(∀j,j<m->L j=true->dst j≠some t)->(TLp dst V T0 L m)[t]?=T0[t]?
 | 0,_=>rfl
 | m+1,h=>by
  simp only[TLp];split
  ·rename_i hl;have:=h m (qQA m) hl;cases hd:dst m with
   | none=>exact qbO m fun j hj=>h j (by omega)
   | some d=>
    rw[hd] at this;simp only[qmF];rw[qOO (fun e=>this (by rw[e]))];exact qbO m fun j hj=>h j (by omega)
  ·exact qbO m fun j hj=>h j (by omega)
theorem qln{L:Nat->Bool}{t:Tmp}{j:Nat}(hj:L j=true)(hd:dst j=some t):∀m,j<m->(∀k,k<m->k≠j->dst k≠some t) ->
  (TLp dst V T0 L m)[t]?=if t<T0.length then some (V j) else none
 | 0,h,_=>by omega
 | m+1,h,hu=>by
  by_cases hm:j=m
  ·subst hm;simp only[TLp,hj,if_true,hd,qmF];rw[List.getElem?_set];simp[qgO]
  ·simp only[TLp];split
   ·have:=hu m (qQA m) (fun e=>hm e.symm);cases hdm:dst m with
    | none=>exact qln hj hd m (by omega) fun k hk=>hu k (by omega)
    | some d=>
     rw[hdm] at this;simp only[qmF];rw[qOO (fun e=>this (by rw[e]))];exact qln hj hd m (by omega) fun k hk=>hu k (by omega)
   ·exact qln hj hd m (by omega) fun k hk=>hu k (by omega)
theorem qLS{L:Nat->Bool}{i n:Nat}(hi:i<n)(hL:L i=false)(hu:∀k,k<n->k≠i->∀t,dst i=some t->dst k≠some t) :TLp dst V T0 (fun j=>if j=i then true else L j) n=qmF (TLp dst V T0 L n) (dst i) (V i):=by
 apply qPC;intro t;cases hd:dst i with
 | none=>
  simp only[qmF];by_cases hex:∃j,j<n/\L j=true/\dst j=some t
  ·
   clear hex;have:∀m,m<=n->TLp dst V T0 (fun j=>if j=i then true else L j) m=TLp dst V T0 L m:=by
    intro m;induction m with
    | zero=>intro _;rfl
    | succ m ih=>
     intro hm;simp only[TLp];by_cases hmi:m=i
     ·subst hmi;rw[ih (by omega)];simp[hL,hd,qmF]
     ·rw[ih (by omega)];simp[hmi]
   rw[this n (qON _)]
  ·have h1:∀j,j<n->L j=true->dst j≠some t:=fun j hj hl he=>hex ⟨j,hj,hl,he⟩;rw[qbO n h1];refine qbO n fun j hj hl he=>?_;by_cases hji:j=i
   ·subst hji;rw[hd] at he;cases he
   ·simp[hji] at hl;exact h1 j hj hl he
 | some d=>
  simp only[qmF];by_cases htd:t=d
  ·subst htd;rw[qln (j:=i) (by simp) hd n hi (fun k hk hki=>hu k hk hki t hd),List.getElem?_set];simp[qgO]
  ·rw[qOO (fun e=>htd e.symm)];have:∀m,m<=n->(TLp dst V T0 (fun j=>if j=i then true else L j) m)[t]?=(TLp dst V T0 L m)[t]?:=by
    intro m;induction m with
    | zero=>intro _;rfl
    | succ m ih=>
     intro hm;simp only[TLp];by_cases hmi:m=i
     ·subst hmi;simp only[if_true,hL,qPo,if_false,hd,qmF];rw[qOO (fun e=>htd e.symm)];exact ih (by omega)
     ·simp only[hmi,if_false];split
      ·cases hdm:dst m with
       | none=>exact ih (by omega)
       | some d'=>
        simp only[qmF,List.getElem?_set];rw[qgO,qgO,ih (by omega)]
      ·exact ih (by omega)
   exact this n (qON _)
end
theorem qK9{V:Nat->AV}{l:List Oper}{T0:List AV}:∀j,j<=l.length->TLp (fun i=>(l[i]?).bind (·.dst)) V T0 (fun _=>true) j=qgg V 0 (l.take j) T0:=by
 have app:∀(l:List Oper) (o:Oper) (k:Nat) (t:List AV),qgg V k (l++[o]) t=qmF (qgg V k l t) o.dst (V (k+l.length)):=by
  intro l;induction l with
  | nil=>intro o k t;simp[qgg]
  | cons a l ih=>intro o k t;simp only[qQb,qgg,ih];congr 2;simp;omega
 intro j;induction j with
 | zero=>intro _;simp[TLp,qgg]
 | succ j ih=>
  intro hj;have hlt:j<l.length:=by omega
  have ht:l.take (j+1)=l.take j++[l[j]]:=by rw[List.take_succ_eq_append_getElem hlt]
  rw[ht,app,<-ih (by omega)];simp only[TLp,if_true];rw[qOS hlt];simp only[qPd];congr 2;simp;omega
end Go.Eng

namespace Go.Eng
variable {all:Array Oper}
def qD7(acc:List Nat)(o:Oper):Nat:=o.after.toList.foldl (fun s e=>if Region.binds .any e then s ||| 2^e.on ||| acc.getD e.on 0 else s) 0
theorem quA(acc:List Nat)(x:Nat):∀(es:List Edge) (s:Nat),(es.foldl (fun s e=>if Region.binds .any e then s ||| 2^e.on ||| acc.getD e.on 0 else s) s).testBit x=true ->
  s.testBit x=true\/∃e,e∈es/\Region.binds .any e=true/\(x=e.on\/(acc.getD e.on 0).testBit x=true)
 | [],s,h=>.inl h
 | e::es,s,h=>by
  simp only[qQB] at h;rcases quA acc x es _ h with h1|⟨e',h1,h2,h3⟩
  ·split at h1
   ·rename_i hb;rw[Nat.testBit_or,Nat.testBit_or,qQc,qQc] at h1;rcases h1 with (h1|h1)|h1
    ·exact .inl h1
    ·rw[Nat.testBit_two_pow] at h1;have h2:e.on=x:=by simpa using h1
     exact .inr ⟨e,qP8,hb,.inl h2.symm⟩
    ·exact .inr ⟨e,qP8,hb,.inr h1⟩
   ·exact .inl h1
  ·exact .inr ⟨e',qPc _ h1,h2,h3⟩
def qKX(ops:List Oper)(acc:List Nat):Prop:=∀i x,(acc.getD i 0).testBit x=true->∃o e,ops[i]?=some o/\e∈o.after.toList/\Region.binds .any e=true/\(x=e.on\/(acc.getD e.on 0).testBit x=true)
theorem qxJ:∀(rest done:List Oper) (acc:List Nat),acc.length=done.length->qKX done acc->qKX (done++rest) (rest.foldl (fun acc o=>acc++[qD7 acc o]) acc)
 | [],done,acc,_,h=>by simpa using h
 | o::rest,done,acc,hl,h=>by
  simp only[qQB];have:=qxJ rest (done++[o]) (acc++[qD7 acc o]) (by simp[hl]) ?_
  ·simpa using this
  ·intro i x hb;have grow:∀(j x:Nat),(acc.getD j 0).testBit x=true->((acc++[qD7 acc o]).getD j 0).testBit x=true:=by
    intro j x hj;rcases qOT j acc.length with hlt|hge
    ·rw[qOM,qOY hlt,<-qOM];exact hj
    ·rw[qOM,qP7 hge] at hj;simp at hj
   rcases qOT i acc.length with hlt|hge
   ·rw[qOM,qOY hlt,<-qOM] at hb;obtain⟨o',e,h1,h2,h3,h4⟩:=h i x hb;refine⟨o',e,by rw[qOY (by omega)];exact h1,h2,h3,?_⟩;exact h4.elim .inl fun q=>.inr (grow _ _ q)
   ·rcases qQm hge with he|hgt
    ·rw[qOM,<-he,qP4 (qON _)] at hb;simp only[qPv,qQ2,qPI] at hb;rcases quA acc x _ _ hb with h1|⟨e,h1,h2,h3⟩
     ·simp at h1
     ·exact⟨o,e,by rw[<-he,qP4 (by omega)];simp[hl],h1,h2,h3.elim .inl fun q=>.inr (grow _ _ q)⟩
    ·rw[qOM,qP7 (by simp;omega)] at hb;simp at hb
theorem qyC (ops:List Oper):qKX ops (qjd ops):=by have:=qxJ ops [] [] rfl (fun i x h=>by simp at h);exact this
structure DrawOk (all:Array Oper):Prop where
 edge:∀i o,all[i]?=some o->∀e,e∈o.after.toList->Region.binds .any e=true->e.on<i
 dst:∀i j oi oj,all[i]?=some oi->all[j]?=some oj->j≠i->∀t,oj.dst=some t->oi.dst≠some t /\
  (t∈qFK all oi->((qjd all.toList).getD i 0).testBit j=true\/((qjd all.toList).getD j 0).testBit i=true)
theorem qJD (h:qFS all=true):DrawOk all:=by
 unfold qFS at h;simp only[qPi,qPH] at h;have main:∀i oi,all[i]?=some oi->(∀e,e∈oi.after.toList->Region.binds .any e=true->e.on<i) /\
   ∀j oj,all[j]?=some oj->j≠i->∀t,oj.dst=some t->oi.dst≠some t/\(t∈qFK all oi->((qjd all.toList).getD i 0).testBit j=true\/((qjd all.toList).getD j 0).testBit i=true):=by
  intro i oi hi;have hi':all.toList[i]?=some oi:=by simpa using hi
  have:=h i (qq hi');rw[hi'] at this;simp only[qP0,qPi,qPH,qQc,beq_iff_eq] at this;obtain⟨h1,h2⟩:=this;refine⟨fun e he hb=>?_,fun j oj hj hne t ht=>?_⟩
  ·have:=h1 e he;rw[hb] at this;simpa using this
  ·have hj':all.toList[j]?=some oj:=by simpa using hj
   have:=(h2 j (qq hj')).resolve_left hne;rw[hj'] at this;simp only[ht,qP0,bne_iff_ne,ne_eq,qQc,qQn,List.contains_eq_mem,decide_eq_false_iff_not] at this;refine⟨this.1,fun hm=>?_⟩;rcases this.2 with (h3|h3)|h3
   ·exact absurd hm h3
   ·exact .inl h3
   ·exact .inr h3
 exact⟨fun i o hi=>(main i o hi).1,fun i j oi oj hi hj hne=>(main i oi hi).2 j oj hj hne⟩
theorem qKR (hd:DrawOk all):∀(i x:Nat),((qjd all.toList).getD i 0).testBit x=true->x<i:=by
 intro i;induction i using Nat.strongRecOn with
 | _ i ih=>
  intro x hx;obtain⟨o,e,h1,h2,h3,h4⟩:=qyC all.toList i x hx;have he:=hd.edge i o (by simpa using h1) e h2 h3;rcases h4 with rfl|h4
  ·exact he
  ·have:=ih e.on he x h4;omega
def qrK(all:Array Oper)(L:Nat->Bool):Prop:=∀i o,all[i]?=some o->L i=true->∀e,e∈o.after.toList->Region.binds .any e=true->L e.on=true
theorem qxM (hd:DrawOk all){L:Nat->Bool}(hc:qrK all L):∀(i x:Nat),L i=true->((qjd all.toList).getD i 0).testBit x=true->L x=true:=by
 intro i;induction i using Nat.strongRecOn with
 | _ i ih=>
  intro x hi hx;obtain⟨o,e,h1,h2,h3,h4⟩:=qyC all.toList i x hx;have ho:all[i]?=some o:=by simpa using h1
  have he:=hc i o ho hi e h2 h3;rcases h4 with rfl|h4
  ·exact he
  ·exact ih e.on (hd.edge i o ho e h2 h3) x he h4
section
variable {E:Env} {callS:q8f} {h:List Blk} {all:Array Oper} {V:Nat->AV} {T0:List AV}
def yW(all:Array Oper):Nat->Option Tmp:=fun i=>(all[i]?).bind (·.dst)
theorem qLg (hd:DrawOk all){L:Nat->Bool}(hc:qrK all L){n i:Nat}{o:Oper}(hi:all[i]?=some o)(hin:i<=n)(hL:L i=false)(hedge:∀e,e∈o.after.toList->Region.binds .any e=true->L e.on=true) {t:Tmp} (ht:t∈qFK all o) :(TLp (yW all) V T0 L n)[t]?=(TLp (yW all) V T0 (fun _=>true) i)[t]?:=by
 by_cases hex:∃j oj,all[j]?=some oj/\j≠i/\oj.dst=some t
 ·obtain⟨j,oj,hj,hne,hjt⟩:=hex;have hdj:yW all j=some t:=by simp[yW,hj,hjt]
  have huniq:∀m k,k<m->k≠j->yW all k≠some t:=by
   intro m k _ hkj he;unfold yW at he;cases hk:all[k]? with
   | none=>rw[hk] at he;cases he
   | some ok=>
    rw[hk] at he;simp only[qPd] at he;exact(hd.dst j k oj ok hj hk hkj t he).1 hjt
  rcases (hd.dst i j o oj hi hj hne t hjt).2 ht with ha|ha
  ·
   have hji:=qKR hd i j ha;have hLj:L j=true:=by
    obtain⟨o',e,h1,h2,h3,h4⟩:=qyC all.toList i j ha;have:o'=o:=by
     have h1':all[i]?=some o':=by simpa using h1
     rw[hi] at h1';exact(qPq h1').symm
    subst this;have he:=hedge e h2 h3;rcases h4 with rfl|h4
    ·exact he
    ·exact qxM hd hc _ _ he h4
   rw[qln hLj hdj n (by omega) (huniq n),qln rfl hdj i hji (huniq i)]
  ·
   have hij:=qKR hd j i ha;have hLj:L j=false:=by
    cases hLj:L j with
    | false=>rfl
    | true=>have:=qxM hd hc _ _ hLj ha;rw[hL] at this;cases this
   have e1:(TLp (yW all) V T0 L n)[t]?=T0[t]?:=qbO n fun k hk hLk he=>by
    by_cases hkj:k=j
    ·subst hkj;rw[hLj] at hLk;cases hLk
    ·exact huniq n k hk hkj he
   have e2:(TLp (yW all) V T0 (fun _=>true) i)[t]?=T0[t]?:=qbO i fun k hk _ he=>by
    by_cases hkj:k=j
    ·omega
    ·exact huniq i k hk hkj he
   rw[e1,e2]
 ·have hno:∀k,k≠i->yW all k≠some t:=by
   intro k hki he;unfold yW at he;cases hk:all[k]? with
   | none=>rw[hk] at he;cases he
   | some ok=>
    rw[hk] at he;exact hex ⟨k,ok,hk,hki,he⟩
  have e1:(TLp (yW all) V T0 L n)[t]?=T0[t]?:=qbO n fun k hk hLk=>hno k (fun e=>by subst e;rw[hL] at hLk;cases hLk);have e2:(TLp (yW all) V T0 (fun _=>true) i)[t]?=T0[t]?:=qbO i fun k hk _=>hno k (by omega);rw[e1,e2]
end
def unl(listed:Array Bool):Nat->Nat
 | 0=>0
 | m+1=>unl listed m+if listed.getD m false then 0 else 1
theorem qyJ{listed:Array Bool}:∀{m:Nat},unl listed m=0->∀i,i<m->listed.getD i false=true
 | 0,_,i,hi=>by omega
 | m+1,h,i,hi=>by
  simp only[unl] at h;by_cases him:i=m
  ·subst him;cases hl:listed.getD i false with
   | true=>rfl
   | false=>rw[hl] at h;simp at h
  ·exact qyJ (Nat.add_eq_zero_iff.1 h).1 i (by omega)
theorem q1l {listed:Array Bool}{i j:Nat}(hi:i<listed.size):(listed.setIfInBounds i true).getD j false=if j=i then true else listed.getD j false:=by
 by_cases h:j=i
 ·subst h;simp[hi]
 ·simp[h,Array.getElem?_setIfInBounds_ne (qPe h)]
theorem qCD{listed:Array Bool}{i:Nat}(hi:i<listed.size)(hl:listed.getD i false=false):∀m,(m<=i->unl (listed.setIfInBounds i true) m=unl listed m)/\(i<m->unl (listed.setIfInBounds i true) m+1=unl listed m)
 | 0=>⟨fun _=>rfl,fun h=>by omega⟩
 | m+1=>by
  obtain⟨h1,h2⟩:=qCD hi hl m;refine⟨fun h=>?_,fun h=>?_⟩
  ·simp only[unl];rw[h1 (by omega),q1l hi,if_neg (show ¬m=i by omega)]
  ·simp only[unl];rw[q1l hi];by_cases him:m=i
   ·subst him;rw[h1 (qON _),if_pos rfl,hl];simp
   ·rw[if_neg him];have:=h2 (by omega);omega
end Go.Eng

namespace Go.Eng
variable {E:Env}{op:Op}{t:TypeId}
def q05(h':List Blk):Tree Res->Tree Res->Prop
 | .leaf r,t'=>t'=.leaf (r.1,h',none)
 | .br b t e,.br b' t' e'=>b=b'/\q05 h' t t'/\q05 h' e e'
 | .fail,_=>True
 | .br _ _ _,_=>False
theorem q05.run{h':List Blk}:∀{t t':Tree Res} {r:Res},q05 h' t t'->t.run=some r->t'.run=some (r.1,h',none)
 | .leaf _,t',_,hm,hr=>by cases hr;simp only[q05] at hm;subst hm;rfl
 | .fail,_,_,_,hr=>by cases hr
 | .br b t e,.br b' t' e',r,hm,hr=>by
  simp only[q05] at hm;obtain⟨rfl,h1,h2⟩:=hm;cases b<;>simp only[Tree.run] at hr ⊢
  ·exact q05.run h2 hr
  ·exact q05.run h1 hr
 | .br _ _ _,.leaf _,_,hm,_=>by cases hm
 | .br _ _ _,.fail,_,hm,_=>by cases hm
section
variable {h h':List Blk}
def Agr(h h':List Blk)(p:AV):Prop:=∀b,b∈p.men->h'[b]?=h[b]?
theorem zV (v:AV):q05 h' (okv h v) (okv h' v):=rfl
theorem jX {b:Bool}{t t' e e':Tree Res}(h1:q05 h' t t')(h2:q05 h' e e'):q05 h' (.br b t e) (.br b t' e'):=⟨rfl,h1,h2⟩
theorem zk {c:Prop}[Decidable c]{t t' e e':Tree Res}(h1:q05 h' t t')(h2:q05 h' e e'):q05 h' (if c then t else e) (if c then t' else e'):=by split<;>assumption
theorem qcf (kk:IntKind)(f:Int->Int->Int)(l:Bool)(x y:Int):q05 h' (q7Z h kk f l x y) (q7Z h' kk f l x y):=by unfold q7Z;cases l<;>rfl
theorem qHv (f:Int->Int->Bool)(l:Bool)(x y:Int):q05 h' (qEx h f l x y) (qEx h' f l x y):=by unfold qEx;cases l<;>rfl
theorem qld {v:AV}(H:Agr h h' v):vr h' v=vr h v:=by
 cases v<;>first|rfl|skip
 rename_i b;simp only[vr];rw[H b (by simp[AV.men])]
theorem qzU (E:Env)(t:TypeId)(p:AV)(H:Agr h h' p):q05 h' (qiD E h t p) (qiD E h' t p):=by
 unfold qiD;dsimp only;refine zk trivial ?_;cases p with
 | ptr b off=>
  simp only;rw[H b (by simp[AV.men])];cases hb:h[b]? with
  | none=>trivial
  | some x=>
   cases x with
   | cells cs=>
    simp only;refine zk (zk (zV _) trivial) ?_;cases cs[off]?<;>first|trivial|rfl
   | _=>trivial
 | eptr sh l i off=>
  simp only;refine zk ?_ ?_
  ·cases qcu sh l i off (E.ty t).size<;>first|trivial|rfl
  ·cases qiG sh l i off<;>first|trivial|rfl
 | vptr b i off=>
  simp only;rw[qld (v:=.vec b) H];cases hb:vr h (.vec b) with
  | none=>trivial
  | some x=>
   obtain⟨sh,l⟩:=x;simp only;refine zk ?_ ?_
   ·cases qcu sh l i off (E.ty t).size<;>first|trivial|rfl
   ·cases qiG sh l i off<;>first|trivial|rfl
 | _=>trivial
theorem qEz (E:Env)(t:TypeId)(p:AV)(H:Agr h h' p):q05 h' (qf2 E h t p) (qf2 E h' t p):=by
 cases p with
 | ptr b off=>
  have hm:=qzU E t (.ptr b off) H;unfold qf2;simp only;rw[H b (by simp[AV.men])];cases hb:h[b]? with
  | none=>
   have:qiD E h t (.ptr b off)=.fail:=by unfold qiD;simp only[hb];split<;>rfl
   simp only[this];trivial
  | some x=>
   cases x with
   | big cs kk n l=>
    simp only;unfold qH1;refine zk trivial (zk (zk (zV _) trivial) ?_);cases cs[off]? with
    | none=>exact zk (zV _) trivial
    | some v=>exact zV _
   | _=>exact hm
 | aptr b o i=>
  unfold qf2;simp only;rw[H b (by simp[AV.men])];cases hb:h[b]? with
  | none=>trivial
  | some x=>
   cases x with
   | big cs kk n l=>exact zk (jX (zV _) trivial) trivial
   | _=>trivial
 | _=>unfold qf2;exact qzU _ _ _ H
theorem qF2 (E:Env)(t:TypeId)(ps:List (Nat×AV)):q05 h' (qkP E h t ps) (qkP E h' t ps):=by
 unfold qkP;refine zk trivial ?_;cases (E.ty t).d with
 | struct fs=>
  simp only;refine zk ?_ trivial;cases qgv (fun i=>(fs[i]?).map fun f=>(f.1,f.2.2)) ((E.ty t).zero.map jl) ps<;>first|trivial|rfl
 | array n e es=>
  simp only;refine zk trivial ?_;cases qgv (fun i=>some (i*es,es)) ((E.ty t).zero.map jl) ps<;>first|trivial|rfl
 | _=>trivial
theorem qBX (E:Env)(t:TypeId)(ps:List (Nat×AV)):q05 h' (qe4 E h t ps) (qe4 E h' t ps):=by
 unfold qe4;cases qF6 E t with
 | none=>exact qF2 _ _ _
 | some q=>
  obtain⟨o,kk,n⟩:=q;simp only;cases (E.ty t).d with
  | struct fs=>
   simp only;refine zk ?_ trivial;cases qgv (fun i=>(fs[i]?).map fun f=>(f.1,f.2.2)) (((E.ty t).zero.take o).map jl) ps<;>first|trivial|rfl
  | _=>trivial
theorem qvP (E:Env)(s:TypeId)(x:AV)(f:Nat):q05 h' (q2D E h s x f) (q2D E h' s x f):=by
 unfold q2D;cases (E.ty s).d with
 | struct fs=>
  simp only;cases fs[f]? with
  | none=>trivial
  | some o=>
   obtain⟨o,tt,sz⟩:=o;simp only;refine zk trivial ?_;cases x<;>first|rfl|trivial
 | _=>trivial
theorem qve (E:Env)(t:TypeId)(cs:List AV)(o:Nat):q05 h' (qkN E h t cs o) (qkN E h' t cs o):=by unfold qkN;cases qiP E t cs o<;>first|rfl|trivial
theorem qFy (E:Env)(s:TypeId)(x:AV)(f:Nat):q05 h' (qkH E h s x f) (qkH E h' s x f):=by
 unfold qkH;cases (E.ty s).d with
 | struct fs=>
  cases x with
  | agg cs=>
   simp only;cases fs[f]? with
   | none=>trivial
   | some o=>exact qve _ _ _ _
  | _=>trivial
 | _=>trivial
theorem qk8(i:Int)(f:Nat->AV):∀n,q05 h' (qjC h i f n) (qjC h' i f n)
 | 0=>trivial
 | n+1=>⟨rfl,rfl,qk8 i f n⟩
theorem qvZ (E:Env)(t:TypeId)(x i:AV)(H:Agr h h' x):q05 h' (yY E h t x i) (yY E h' t x i):=by
 unfold yY;cases (E.ty t).d with
 | slice e es=>
  cases x with
  | imm sh l=>
   cases asI i with
   | none=>trivial
   | some y=>exact zk (jX (zV _) trivial) trivial
  | vec b=>
   cases asI i with
   | none=>trivial
   | some y=>
    simp only;rw[qld (v:=.vec b) H];cases hb:vr h (.vec b) with
    | none=>trivial
    | some z=>exact zk (jX (zV _) trivial) trivial
  | _=>trivial
 | array n e es=>
  cases x with
  | ptr b off=>
   simp only;cases i with
   | ilit kk j=>exact zk (zV _) trivial
   | int kk j=>exact zk (qk8 _ _ _) trivial
   | _=>trivial
  | eptr sh l i0 off=>
   simp only;cases i with
   | ilit kk j=>exact zk (zV _) trivial
   | int kk j=>exact zk (qk8 _ _ _) trivial
   | _=>trivial
  | _=>trivial
 | _=>trivial
theorem qud (E:Env)(t:TypeId)(x i:AV)(H:Agr h h' x):q05 h' (q0U E h t x i) (q0U E h' t x i):=by
 have hm:=qvZ E t x i H;unfold q0U;split
 ·split
  ·split
   ·split
    ·exact zk (jX (zV _) trivial) trivial
    ·exact hm
   ·exact hm
  ·exact hm
 ·exact hm
theorem qzP(E:Env)(e:TypeId)(cs:List AV)(es:Nat)(i:Int):∀m j,q05 h' (qrX E h e cs es i j m) (qrX E h' e cs es i j m)
 | 0,_=>trivial
 | m+1,j=>jX (qve _ _ _ _) (qzP E e cs es i m (j+1))
theorem qFr (E:Env)(t:TypeId)(x i:AV):q05 h' (qjS E h t x i) (qjS E h' t x i):=by
 unfold qjS;cases (E.ty t).d with
 | array n e es=>
  cases x with
  | agg cs=>
   cases hi:asI i with
   | none=>trivial
   | some y=>
    cases i with
    | ilit kk j=>exact zk (qve _ _ _ _) trivial
    | int kk j=>
     simp only;cases (E.ty e).d with
     | int k2=>
      simp only;refine zk ?_ trivial;cases qoj k2 cs with
      | none=>trivial
      | some l=>exact jX (zV _) trivial
     | slice e2 es2=>
      simp only;refine zk ?_ trivial;split
      ·exact qzP _ _ _ _ _ _ _
      ·trivial
     | _=>trivial
    | _=>cases hi
  | _=>trivial
 | str=>
  cases x with
  | str s=>
   cases asI i with
   | none=>trivial
   | some y=>exact jX (zV _) trivial
  | _=>trivial
 | _=>trivial
theorem qDJ (d:TD)(op:BinOp)(x y:AV)(H:Agr h h' x):q05 h' (qzT d h op x y) (qzT d h' op x y):=by
 unfold qzT;cases hx:asI x with
 | some p=>
  obtain⟨kk,a⟩:=p;cases hy:asI y with
  | some q=>
   obtain⟨kk',b⟩:=q;simp only;refine zk ?_ trivial;cases op<;>simp only<;>first
    | exact qcf _ _ _ _ _
    | exact qHv _ _ _ _
    | trivial
    | skip
   ·cases y<;>simp only<;>first|exact zk trivial (qcf _ _ _ _ _)|exact jX (qcf _ _ _ _ _) trivial
   ·cases y<;>simp only<;>first|exact zk trivial (qcf _ _ _ _ _)|exact jX (qcf _ _ _ _ _) trivial
  | none=>cases x<;>first|cases hx;done|(cases y<;>first|(cases hy;done)|trivial)
 | none=>
  simp only;cases hbx:asB x with
  | some a=>
   cases hby:asB y with
   | some b=>simp only;cases d<;>simp only<;>first|trivial|(cases op<;>first|rfl|trivial)
   | none=>cases x<;>first|(cases hbx;done)|(cases y<;>first|(cases hby;done)|trivial)
  | none=>
   simp only;cases x with
   | str a=>
    cases y with
    | str b=>cases op<;>first|rfl|trivial|exact jX (zV _) trivial
    | _=>trivial
   | nilp=>
    cases y with
    | nilp=>cases d<;>first|trivial|(cases op<;>first|rfl|trivial)
    | _=>trivial
   | ptr b off=>
    cases y with
    | nilp=>
     cases d<;>first|trivial|skip
     simp only;rw[H b (by simp[AV.men])];cases hb:h[b]? with
     | none=>trivial
     | some z=>cases z<;>first|trivial|(cases op<;>first|rfl|trivial)
    | _=>trivial
   | eptr sh l i o=>
    cases y with
    | nilp=>cases d<;>first|trivial|(cases op<;>first|rfl|trivial)
    | _=>trivial
   | imm sh l=>
    cases y with
    | nils=>cases d<;>first|trivial|(cases op<;>first|trivial|exact jX (zV _) trivial)
    | _=>trivial
   | mptr c sh l i o=>
    cases y with
    | nilp=>cases d<;>first|trivial|(cases op<;>first|rfl|trivial)
    | _=>trivial
   | _=>trivial
theorem qER (E:Env)(op:BinOp)(t:TypeId)(x y:AV)(H:Agr h h' x):q05 h' (qo2 E h op t x y) (qo2 E h' op t x y):=by
 unfold qo2;cases x with
 | agg xs=>
  cases y with
  | agg ys=>
   simp only;unfold qvs;cases eqT E 32 t (.agg xs) (.agg ys) with
   | none=>trivial
   | some r=>cases op<;>first|rfl|trivial
  | _=>exact qDJ _ _ _ _ H
 | _=>exact qDJ _ _ _ _ H
theorem qLN (op:UnOp)(x:AV):q05 h' (qLR h op x) (qLR h' op x):=by cases op<;>cases x<;>first|rfl|trivial
theorem qHt (E:Env)(s d:TypeId)(x:AV):q05 h' (qsa E h s d x) (qsa E h' s d x):=by unfold qsa;cases (E.ty s).d<;>cases (E.ty d).d<;>cases x<;>first|rfl|trivial
theorem qEL (E:Env)(s d:TypeId)(x:AV)(H:Agr h h' x):q05 h' (qkS E h s d x) (qkS E h' s d x):=by
 unfold qkS;cases (E.ty s).d with
 | slice e es=>
  simp only;cases (E.ty d).d with
  | str=>
   simp only;unfold qtx;cases (E.ty e).d with
   | int kk=>
    cases kk<;>first|trivial|skip
    simp only;rw[qld H];cases hr:vr h x with
    | none=>trivial
    | some q=>
     obtain⟨sh,l⟩:=q;simp only;split
     ·rfl
     ·trivial
   | _=>trivial
  | _=>trivial
 | _=>exact qHt _ _ _ _
theorem qIW (E:Env)(ts:List TypeId)(azz:List AV)(H:∀x,x∈azz->Agr h h' x):q05 h' (quW E h ts azz) (quW E h' ts azz):=by
 unfold quW;cases ts with
 | nil=>trivial
 | cons t ts=>
  cases azz with
  | nil=>trivial
  | cons x azz=>
   cases azz with
   | cons _ _=>trivial
   | nil=>
    simp only;unfold qGf;cases (E.ty t).d with
    | str=>cases x<;>first|rfl|trivial
    | array n e es=>rfl
    | slice e es=>
     cases x with
     | nils=>rfl
     | vec b=>
      simp only;rw[qld (v:=.vec b) (H _ qP8)];cases hb:vr h (.vec b) with
      | none=>trivial
      | some z=>rfl
     | imm sh l=>rfl
     | _=>trivial
    | _=>cases x<;>trivial
theorem qL9 (f:Int->Int->Int)(azz:List AV):q05 h' (qyg f h azz) (qyg f h' azz):=by
 unfold qyg;cases azz with
 | nil=>trivial
 | cons x l=>
  simp only;cases asI x with
  | none=>trivial
  | some p=>
   obtain⟨kk,n⟩:=p;simp only;cases qCg f kk n l with
   | none=>trivial
   | some m=>exact zk (zV _) (zV _)
theorem qFd (ht:(E.ty t).d=.str)(x:AV)(lo hi mx:Option AV):q05 h' (qfS E h t x lo hi mx) (qfS E h' t x lo hi mx):=by
 unfold qfS;rw[ht];cases mx with
 | some _=>trivial
 | none=>
  cases x<;>first|trivial|skip
  rename_i s;simp only;cases qgV lo 0 with
  | none=>trivial
  | some l=>
   cases qgV hi (qv s) with
   | none=>trivial
   | some r=>exact jX (jX (zV _) trivial) trivial
theorem qD0 (ht:(E.ty t).d=.str)(x:AV)(lo hi mx:Option AV):q05 h' (un E h t x lo hi mx) (un E h' t x lo hi mx):=by unfold un;rw[ht];exact qFd ht _ _ _ _
theorem qC3 {n:Nat}{e:TypeId}{es:Nat}(ht:(E.ty t).d=.array n e es)(x:AV)(lo hi mx:Option AV):q05 h' (un E h t x lo hi mx) (un E h' t x lo hi mx):=by
 unfold un;rw[ht];simp only;cases x<;>first|trivial|skip
 ·cases mx with
  | some _=>trivial
  | none=>
   simp only;refine zk ?_ trivial;unfold qKe;split
   ·exact jX (jX (zV _) trivial) trivial
   ·trivial
 ·refine zk ?_ trivial;split
  ·unfold qBs;split
   ·split
    ·exact jX (jX (zV _) trivial) trivial
    ·trivial
   ·split
    ·exact jX (jX (jX (zV _) trivial) trivial) trivial
    ·trivial
  ·trivial
theorem qCR {e:TypeId}{es:Nat}(ht:(E.ty t).d=.slice e es)(x:AV)(lo hi:Option AV){mx:Option AV}(hm:mx.isSome=true):q05 h' (un E h t x lo hi mx) (un E h' t x lo hi mx):=by
 unfold un;rw[ht];simp only;unfold qfS;cases mx with
 | none=>cases hm
 | some m=>
  simp only;rw[ht];split
  ·split
   ·exact zk (jX (jX (jX (zV _) trivial) trivial) trivial) trivial
   ·trivial
  ·trivial
theorem qH3 {ev:Operand->AV}(hs:qf7 E op=true)(H:qI8 op=true->∀x,x∈op.operands.toList->Agr h h' (ev x)):q05 h' (qtc E h ev op) (qtc E h' ev op):=by
 unfold qtc;cases op<;>simp only[qf7] at hs<;>try (cases hs)
 case move=>exact zV _
 case assign=>exact zV _
 case pick c a b=>simp only;cases ev c<;>first|exact zV _|exact jX (zV _) (zV _)|trivial
 case build=>exact qBX _ _ _
 case load x=>exact qEz _ _ _ (H rfl x (by simp[Op.operands]))
 case nilCheck x=>
  have H:=H rfl x (by simp[Op.operands]);simp only;cases hx:ev x with
  | ptr b o=>
   rw[hx] at H;simp only;rw[H b (by simp[AV.men])];cases hb:h[b]? with
   | none=>trivial
   | some z=>cases z<;>first|rfl|trivial
  | eptr sh l i o=>rfl
  | mptr c sh l i o=>exact jX (zV _) trivial
  | _=>trivial
 case binOp op t x y r=>exact qER _ _ _ _ _ (H rfl x (by simp[Op.operands]))
 case unOp=>exact qLN _ _
 case convert s d x=>exact qEL _ _ _ _ (H rfl x (by simp[Op.operands]))
 case makeFunc fn _ _=>cases fn<;>first|rfl|trivial
 case slice t x lo hi mx=>
  split at hs
  ·rename_i ht;exact qD0 ht _ _ _ _
  ·rename_i ht;exact qC3 ht _ _ _ _
  ·rename_i ht;exact qCR ht _ _ _ (by simpa using hs)
  ·cases hs
 case fieldAddr=>exact qvP _ _ _ _
 case field=>exact qFy _ _ _ _
 case indexAddr t x i=>exact qud _ _ _ _ (H rfl x (by simp[Op.operands]))
 case index=>exact qFr _ _ _ _
 case extract x i=>
  simp only;cases ev x with
  | tuple vs=>simp only;cases vs[i]?<;>first|rfl|trivial
  | _=>trivial
 case call c=>
  obtain⟨callee,args,tys⟩:=c;cases callee with
  | builtin b=>
   cases b<;>first|exact qIW _ _ _ (fun x hx=>by obtain⟨y,hy,rfl⟩:=qPE.1 hx;exact H rfl y (by simpa[Op.operands,Call.operands] using hy))|exact qL9 _ _|(cases hs;done)
  | value x=>simp only at hs;cases hs
  | invoke x n=>simp only at hs;cases hs
end
mutual
theorem qGt{h h':List Blk}:∀(a:AV),Agr h h' a->a.lend h'=a.lend h
 | .vec b,H=>by simp only[AV.lend];rw[H b (by simp[AV.men])]
 | .agg cs,H=>by simp only[AV.lend];rw[q1W cs H]
 | .tuple cs,H=>by simp only[AV.lend];rw[q1W cs H]
 | .undef,_|.yld,_|.skip,_|.blit _,_|.bool _,_|.ilit _ _,_|.int _ _,_|.str _,_|.nilp,_|.ptr _ _,_|.eptr _ _ _ _,_|.mptr _ _ _ _ _,_|.vptr _ _ _,_|.vsub _ _,_|.aptr _ _ _,_|.asub _ _ _ _ _,_|.bagg _ _ _ _,_|.nils,_|.imm _ _,_|.full _ _,_|.nilf,_|.fn _ _ _,_=>rfl
theorem q1W{h h':List Blk}:∀(l:List AV),(∀b,b∈AV.menL l->h'[b]?=h[b]?)->AV.lendL h' l=AV.lendL h l
 | [],_=>rfl
 | a::l,H=>by
  simp only[AV.lendL];rw[qGt a fun b hb=>H b (by simp only[AV.menL];exact qPF _ hb),q1W l fun b hb=>H b (by simp only[AV.menL];exact qPt _ hb)]
end
theorem qxa:∀(a:AV) (b:Nat),b∈zT a->b∈a.men:=by
 intro a b hb;cases a<;>simp only[zT] at hb<;>first|(cases hb;done)|skip
 case vec c=>simpa[AV.men] using hb
 case agg cs=>
  simp only[AV.men];induction cs with
  | nil=>cases hb
  | cons c cs ih=>
   simp only[AV.menL];simp only[List.filterMap_cons] at hb;cases c<;>simp only at hb<;>first|exact qPt _ (ih hb)|skip
   rcases qP5.1 hb with rfl|hb
   ·exact qPF _ (by simp[AV.men])
   ·exact qPt _ (ih hb)
theorem qt8 {l:List AV}{a:AV}{b:Nat}(ha:a∈l)(hb:b∈a.men):b∈AV.menL l:=by
 induction l with
 | nil=>cases ha
 | cons c l ih=>
  simp only[AV.menL];rcases qP5.1 ha with rfl|ha
  ·exact qPF _ hb
  ·exact qPt _ (ih ha)
theorem qtP {h h':List Blk}{f:FuncId}{args:List AV}(H:∀b,b∈AV.menL args->h'[b]?=h[b]?):qbX E h' f args=qbX E h f args:=by
 unfold qbX;cases hf:E.spec.find? fun x=>x.1==f with
 | none=>rfl
 | some G=>
  simp only;have e1:(args.flatMap zT).all (qnD h')=(args.flatMap zT).all (qnD h):=by
   have:∀b,b∈args.flatMap zT->qnD h' b=qnD h b:=by intro b hb;obtain⟨a,ha,hb⟩:=qQR.1 hb;unfold qnD;rw[H b (qt8 ha (qxa a b hb))]
   generalize args.flatMap zT=l at this;induction l with
   | nil=>rfl
   | cons b l ih=>simp only[qQL];rw[this b qP8,ih fun b hb=>this b (qPc _ hb)]
  rw[e1,q1W args H]
theorem q8S (E:Env):q6s E (q9w E):=by
 intro h h' f args hs H;unfold q9w;unfold qjt at hs;cases hf:E.spec.find? fun x=>x.1==f with
 | none=>rw[hf] at hs;cases hs
 | some G=>simp only;exact qtP H
theorem qBu (E:Env):q6s E qzC:=fun _ _ _ _ _ _=>rfl
theorem qAd {callS:List Blk->q8f}(hm:q6s E callS){h h':List Blk}{ev:Operand->AV}{v:AV}{R:List Nat}(hR:qMg E ev op=some R)(H:∀b,b∈R->h'[b]?=h[b]?)(hr:(qeI E (callS h) h ev op).run=some v):(qeI E (callS h') h' ev op).run=some v:=by
 unfold qeI at hr ⊢;split at hr
 ·rename_i x args tys;cases hx:ev x with
  | fn f first caps=>
   rw[hx] at hr;unfold qMg at hR;simp only[qk9,jt,hx] at hR;cases hf:qjt E f with
   | none=>rw[hf] at hR;cases hR
   | some G=>
    rw[hf] at hR;simp only[qOL] at hR;subst hR;simp only;rw[hm h h' f _ (by rw[hf];rfl) H];exact hr
  | _=>rw[hx] at hr;cases hr
 ·rename_i hno;split at hr
  ·rename_i hst;rw[if_pos hst];obtain⟨r,h1,h2⟩:=bind_some hr;cases h2;have hR':qI8 op=true->R=AV.menL (op.operands.toList.map ev):=by
    intro hlk;unfold qMg at hR;have:qk9 op=false:=by
     unfold qk9;split
     ·rename_i x args tys;exact absurd rfl (hno x args tys)
     ·rfl
    rw[this,hlk] at hR;simpa using hR.symm
   rw[Tree.run_bind,q05.run (qH3 (h':=h') hst fun hlk x hx b hb=>H b (by rw[hR' hlk];exact qt8 (List.mem_map_of_mem hx) hb)) h1];rfl
  ·cases hr
section
variable {h:List Blk}
theorem qkT:∀(cs:List AV),cs.all qGr=true->qcR h cs=h
 | [],_=>rfl
 | c::cs,hc=>by
  simp only[qQL,qP0] at hc;cases c<;>first|(simp only[qcR];exact qkT cs hc.2)|(cases hc.1)
theorem qIz {ev:Operand->AV}{v:AV}{z:Blk}(hr:(qmy E h ev op).run=some (v,z)):(qtc E h ev op).run=some (v,h++[z],none):=by
 unfold qmy at hr;cases op<;>simp only at hr<;>first|(cases hr;done)|skip
 case buildSlice t len parts=>
  unfold qtc;simp only;unfold q9i;cases hd:(E.ty t).d<;>rw[hd] at hr<;>simp only at hr ⊢<;>first|(cases hr;done)|skip
  rename_i e es;split at hr
  ·rename_i hc;rw[if_pos hc];cases hf:qgv (fun i=>some (i*es,es)) ((List.replicate len ((E.ty e).zero.map jl)).flatten) (parts.toList.map fun p=>(p.1,ev p.2)) with
   | none=>rw[hf] at hr;cases hr
   | some cs=>
    cases hs:E.shape 16 e with
    | none=>rw[hf,hs] at hr;cases hr
    | some sh=>
     rw[hf,hs] at hr;simp only at hr ⊢;split at hr
     ·rename_i hl;rw[if_pos hl.1];cases hch:qlO h sh len cs with
      | none=>rw[hch] at hr;cases hr
      | some l=>
       rw[hch] at hr;cases hr;simp only[qkT cs hl.2];rfl
     ·cases hr
  ·cases hr
theorem qA4 {f g:Operand->AV}(hfg:∀x∈op.operands.toList,f x=g x):qmy E h f op=qmy E h g op:=by
 unfold qmy;cases op<;>simp only
 case buildSlice t len ps=>
  have:(ps.toList.map fun p=>(p.1,f p.2))=ps.toList.map fun p=>(p.1,g p.2):=qPV fun p hp=>by rw[hfg p.2 (by simp only[Op.operands];exact List.mem_map_of_mem hp)]
  rw[this]
end
end Go.Eng

namespace Go.Eng
variable {B:Base}{E:Env}{X:Ctx}{s:Nat}
mutual
theorem AV.ren_void{s:Nat}:∀av:AV,s∉av.men->av.ren (qfO s)=av
 | .undef,_|.skip,_|.yld,_|.blit _,_|.bool _,_|.ilit _ _,_|.int _ _,_|.str _,_|.nilp,_|.eptr _ _ _ _,_|.mptr _ _ _ _ _,_|.nils,_|.imm _ _,_|.full _ _,_|.nilf,_=>rfl
 | .ptr b _,h=>by simp only[AV.men,qPf] at h;simp[AV.ren,qfO,qPe h]
 | .vptr b _ _,h=>by simp only[AV.men,qPf] at h;simp[AV.ren,qfO,qPe h]
 | .vsub b _,h=>by simp only[AV.men,qPf] at h;simp[AV.ren,qfO,qPe h]
 | .aptr b _ _,h=>by simp only[AV.men,qPf] at h;simp[AV.ren,qfO,qPe h]
 | .asub b _ _ _ _,h=>by simp only[AV.men,qPf] at h;simp[AV.ren,qfO,qPe h]
 | .vec b,h=>by simp only[AV.men,qPf] at h;simp[AV.ren,qfO,qPe h]
 | .fn g first caps,h=>by
  simp only[AV.men,qPa,not_or] at h;simp[AV.ren,AV.renL_void first h.1,AV.renL_void caps h.2]
 | .agg cs,h=>by simp only[AV.men] at h;simp[AV.ren,AV.renL_void cs h]
 | .tuple cs,h=>by simp only[AV.men] at h;simp[AV.ren,AV.renL_void cs h]
 | .bagg cs k n l,h=>by simp only[AV.men] at h;simp[AV.ren,AV.renL_void cs h]
theorem AV.renL_void{s:Nat}:∀l:List AV,s∉AV.menL l->AV.renL (qfO s) l=l
 | [],_=>rfl
 | a::l,h=>by
  simp only[AV.menL,qPa,not_or] at h;simp[AV.renL,AV.ren_void a h.1,AV.renL_void l h.2]
end
theorem Blk.ren_void (k:Blk)(h:s∉k.menB):k.ren (qfO s)=k:=by cases k<;>simp only[Blk.menB,Blk.ren] at h ⊢<;>rw[AV.renL_void _ h]
theorem qqw{s:Nat}:∀l:List (List AV),s∉qpT l->l.map (AV.renL (qfO s))=l
 | [],_=>rfl
 | a::l,h=>by
  simp only[qpT,qPa,not_or] at h;simp only[qPS,AV.renL_void a h.1,qqw l h.2]
theorem qtg {s b:Nat}{k:Blk}:∀{h:List Blk},s∉qf6 h->h[b]?=some k->s∉k.menB:=by
 intro h;induction h generalizing b with
 | nil=>intro _ hb;simp at hb
 | cons a h ih=>
  intro hs hb;simp only[qf6,qPa,not_or] at hs;cases b with
  | zero=>simp only[qQ2,qOL] at hb;subst hb;exact hs.1
  | succ b=>exact ih hs.2 (by simpa using hb)
def Ctx.slot(X:Ctx)(s:Nat)(z:Blk)(o:Obj):Ctx:={ σ:=fun b=>if b=s then some X.w.heap.size else X.σ b,h:=X.h.set s z,w:=X.w.alloc o,M:=X.M,kept:=X.kept,y:=X.y }
theorem qvt (hs:HSim B X){z:Blk}{o:Obj}:Move X (X.slot s z o) (qfO s):=by
 refine Move.of (fun _ h=>h) (fun a ha=>qPP (zW _ _ (hs.ltM _ ha))) (fun b b' hb h=>?_);unfold qfO at h;split at h
 ·cases h
 ·rename_i hne;cases h;refine⟨by simpa[Ctx.slot] using hb,by simp[Ctx.slot,hne],fun sh m ⟨e,l,h1,h2⟩=>⟨e,l,?_,h2⟩,fun _ _ _ n hn c T fr hc=>⟨c,T,fr,?_,rfl⟩⟩
  ·have e1:(X.slot s z o).h[b]?=X.h[b]?:=qOO (fun e=>hne e.symm);rw[e1] at h1;exact h1
  ·exact(zW _ _ (qOR.1 hc).1).trans hc
theorem qAu (hs:HSim B X){z:Blk}{o:Obj}(hd:X.h[s]?=some .dead)(hmen:s∉qf6 X.h)(hz:jm (X.slot s z o) s z):HSim B (X.slot s z o):=by
 have hm:=qvt hs (s:=s) (z:=z) (o:=o);have hsl:=qq hd;have himp:B.imps.length<=s:=by
  rcases qOT s B.imps.length with h|h
  ·obtain⟨k,h1,h2⟩:=hs.impc s h;rw[hd] at h1;cases h1;cases h2
  ·exact h
 have hget:∀b k',(X.slot s z o).h[b]?=some k'->b≠s/\X.h[b]?=some k'\/b=s/\k'=z:=by
  intro b k' h;by_cases hb:b=s
  ·subst hb;have:(X.h.set b z)[b]?=some k':=h;rw[qOZ hsl] at this;exact .inr ⟨rfl,(qPq this).symm⟩
  ·have:(X.h.set s z)[b]?=some k':=h;rw[qOO (fun e=>hb e.symm)] at this;exact .inl ⟨hb,this⟩
 have hσ:∀b,b≠s->(X.slot s z o).σ b=X.σ b:=fun b hb=>by simp[Ctx.slot,hb]
 have hσn:(X.slot s z o).σ s=some X.w.heap.size:=by simp[Ctx.slot]
 have hold:∀n,n<X.w.heap.size->(X.slot s z o).w.heap[n]?=X.w.heap[n]?:=fun n hn=>zW _ _ hn;have hsize:X.w.heap.size<=(X.slot s z o).w.heap.size:=by show _<=(X.w.alloc o).heap.size;simp
 have hown:∀b n,(X.slot s z o).own b n->X.own b n\/b=s/\n=X.w.heap.size:=by
  intro b n ⟨h1,k',h2,h3⟩;rcases hget b k' h2 with⟨hb,h4⟩|⟨rfl,rfl⟩
  ·exact .inl ⟨by rw[<-hσ b hb];exact h1,k',h4,h3⟩
  ·rw[hσn] at h1;exact .inr ⟨rfl,(qPq h1).symm⟩
 constructor
 ·intro b k' h;rcases hget b k' h with⟨hb,h4⟩|⟨rfl,rfl⟩
  ·by_cases hdd:k'=.dead
   ·subst hdd;trivial
   ·have:=jm.move hm.toMove0 (b':=b) (hσ b hb) (fun n hn=>hold n (hs.lt h4 hdd hn)) (hs.blk b k' h4)
    rwa [Blk.ren_void k' (qtg hmen h4)] at this
  ·exact hz
 ·intro b b' n h h';rcases hown b n h with h1|⟨g1,g2⟩
  ·rcases hown b' n h' with h2|⟨g3,g4⟩
   ·exact hs.inj b b' n h1 h2
   ·exact absurd (Ctx.own.lt hs h1) (by omega)
  ·rcases hown b' _ h' with h2|⟨g3,_⟩
   ·exact absurd (Ctx.own.lt hs h2) (by omega)
   ·rw[g1,g3]
 ·intro b n h hM;rcases hown b n h with h1|⟨g1,g2⟩
  ·exact hs.notM b n h1 hM
  ·exact absurd (hs.ltM _ hM) (by omega)
 ·intro n h;have:=hs.ltM n h;omega
 ·exact hs.M0
 ·exact hs.newM
 ·exact hs.os
 ·exact hs.tape
 ·exact hs.output
 ·have:=hs.size;omega
 ·intro n hn hni;have:=hs.size;rw[hold _ (by omega)];exact hs.frame n hn hni
 ·intro b hb;rw[hσ b (by omega)];exact hs.imps b hb
 ·intro b hb;obtain⟨cs,h,hc⟩:=hs.impc b hb;exact⟨cs,by show (X.h.set s z)[b]?=_;rw[qOO (by omega)];exact h,hc⟩
 ·intro b n h hb;rcases hown b n h with h1|⟨g1,g2⟩
  ·exact hs.fresh b n h1 hb
  ·have:=hs.size;omega
 ·intro p hp;obtain⟨q1,q2,q3⟩:=hs.kept p hp;exact⟨(hold _ (qOR.1 q1).1).trans q1,q2,q3⟩
theorem qFi {P:Program}(hE:E.tok P)(hs:HSim B X){t:TypeId}{z:Blk}(hz:qhG E t=some z)(hd:X.h[s]?=some .dead)(hmen:s∉qf6 X.h) :∃o:Obj,((do pure (.value (<-Instr.alloc t true (.tuple #[]))):Sem Next)).run P X.w=.ok (.value (.pointer (some ⟨X.w.heap.size,0,none⟩))) (X.w.alloc o)/\HSim B (X.slot s z o)/\Move X (X.slot s z o) (qfO s) /\Rep (X.slot s z o) (.ptr s 0) (.pointer (some ⟨X.w.heap.size,0,none⟩)):=by
 have hsl:=qq hd;have hptr:∀o,Rep (X.slot s z o) (.ptr s 0) (.pointer (some ⟨X.w.heap.size,0,none⟩)):=fun o=>.ptr _ _ _ (by simpa[Ctx.slot] using hsl) (by simp[Ctx.slot]);unfold qhG at hz;split at hz
 ·rename_i o k n hb;split at hz
  ·cases hz;obtain⟨b1,b2,b3,b4,_⟩:=ql5 hb;obtain⟨v,h1,h2,_⟩:=qhd hE (t:=t) (by omega) X.w;refine⟨.cells v.cells t,by simp[Instr.alloc,h1,qc3],qAu hs hd hmen ?_,qvt hs,hptr _⟩;exact⟨X.w.heap.size,v.cells,t,(E.ty t).zero.take o,by simp[Ctx.slot],zU _ _,jA _ _,by rw[h2];exact qqm hb,qtL _ _⟩
  ·cases hz
 ·split at hz
  ·rename_i hc;cases hz;obtain⟨v,h1,h2,_⟩:=qhd hE (t:=t) (by simpa using hc.2) X.w;refine⟨.cells v.cells t,by simp[Instr.alloc,h1,qc3],qAu hs hd hmen ?_,qvt hs,hptr _⟩;exact⟨X.w.heap.size,v.cells,t,by simp[Ctx.slot],zU _ _,by rw[h2];exact jA _ _⟩
  ·cases hz
theorem qyl {P:Program}(hE:E.tok P){st:St}{a:Act}(hs:Sim E B X st a){o:Oper}{t:TypeId}(hop:o.op=.alloc t){z:Blk}(hz:qhG E t=some z)(hd:st.h[s]?=some .dead)(hmen:s∉qf6 st.h) (ht:s∉AV.menL st.t) (hf:s∉qpT st.fs) {next:Act->World->Prop} {Q:Exit->Act->World->Prop}(hq:∀X' v,Sim E B X' { st with h:=st.h.set s z } a->Rep X' (.ptr s 0) v->next (a.put o.dst v) X'.w):o.wp P a X.w next Q:=by
 rw[<-hs.h] at hd hmen;obtain⟨ob,h1,h2,h3,h4⟩:=qFi hE hs.hs hz hd hmen;unfold Oper.wp;have hrun:(execOp a.eval o).run P X.w=.ok (.value (.pointer (some ⟨X.w.heap.size,0,none⟩))) (X.w.alloc ob):=by rw[<-h1];simp only[execOp,hop]
 rw[hrun];refine hq (X.slot s z ob) _ ⟨h2,?_,?_,?_,fun x hx=>?_,h3.kept▸hs.df,hs.ni,h3.y.trans hs.y,fun p hp=>h3.kept▸hs.pin p hp⟩ h4
 ·show X.h.set s z=st.h.set s z;rw[hs.h]
 ·have:=hs.t.ren h3.toMove0
  rwa [AV.renL_void _ ht] at this
 ·have:=hs.fs.ren h3.toMove0
  rwa [qqw _ hf] at this
 ·obtain⟨⟨sh,l,i,off,he⟩,hr⟩:=hs.glob x hx;refine⟨⟨sh,l,i,off,he⟩,hr.move h3.M h3.w ?_⟩;have:=hr.1.ren h3.toMove0;rw[he] at this ⊢;exact this
theorem Sim.pad {st:St}{a:Act}(hs:Sim E B X st a):∃X',X'.w=X.w/\Sim E B X' { st with h:=st.h++[.dead] } a:=by
 have hw:=PushW.same X;have hs1:=HSim.push hs.hs (k:=.dead) hw trivial;have:=hs.ext (Ctx.push_ext hs.hs .dead hw) hs1;refine⟨X.pushW .dead none X.w,rfl,?_⟩;have e:(X.pushW .dead none X.w).h=st.h++[.dead]:=by rw[<-hs.h];rfl
 rw[e] at this;exact this
theorem Sim.padN{E:Env}{B:Base}{a:Act}:∀(n:Nat) {X:Ctx} {st:St},Sim E B X st a->∃X',X'.w=X.w/\Sim E B X' { st with h:=st.h++List.replicate n .dead } a
 | 0,X,st,hs=>⟨X,rfl,by simpa using hs⟩
 | n+1,X,st,hs=>by
  obtain⟨X1,h1,h2⟩:=hs.pad;obtain⟨X2,h3,h4⟩:=Sim.padN n h2;refine⟨X2,h3.trans h1,?_⟩;have e:st.h++[.dead]++List.replicate n .dead=st.h++List.replicate (n+1) .dead:=by simp[qQa]
  simp only at h4;rw[e] at h4;exact h4
end Go.Eng

namespace Go.Eng
variable {E:Env}{args:List AV}{b:Nat}{h:List Blk}{op:Op}
theorem stL{all:Array Oper}{V:Nat->AV}{T0:List AV}{L L':Nat->Bool}:∀n,(∀j,j<n->L j=L' j)->TLp (yW all) V T0 L n=TLp (yW all) V T0 L' n
 | 0,_=>rfl
 | n+1,h=>by
  simp only[TLp];rw[h n (qQA n),stL n fun j hj=>h j (by omega)]
theorem qBp {all:Array Oper}(hd:DrawOk all){listed:Array Bool}(hsz:listed.size=all.size)(h:Region.ready .any all listed=[]):∀i,i<all.size->listed.getD i false=true:=by
 intro i;induction i using Nat.strongRecOn with
 | _ i ih=>
  intro hi;cases hl:listed.getD i false with
  | true=>rfl
  | false=>
   have ho:all[i]?=some all[i]:=qQt hi;have:i∈Region.ready .any all listed:=by
    rw[mem_ready];refine⟨?_,all[i],ho,fun e he hb=>?_⟩
    ·have hi':i<listed.size:=by omega
     simpa[qQ4,hi'] using hl
    ·have hlt:=hd.edge i _ ho e (by simpa using he) hb;exact ih e.on hlt (by omega)
   rw[h] at this;cases this
theorem qqo {all:Array Oper}{listed:Array Bool}{i:Nat}{o:Oper}(hsz:listed.size=all.size)(ho:all[i]?=some o)(hc:qrK all fun j=>listed.getD j false)(hedge:∀e,e∈o.after.toList->Region.binds .any e=true->listed.getD e.on false=true):qrK all fun j=>(listed.setIfInBounds i true).getD j false:=by
 have hi:i<listed.size:=by rw[hsz];exact(qOR.1 ho).1
 intro j oj hj hL e he hb;show (listed.setIfInBounds i true).getD e.on false=true;rw[q1l hi];split
 ·rfl
 ·by_cases hji:j=i
  ·subst hji;rw[ho] at hj;cases hj;exact hedge e he hb
  ·have hL':(listed.setIfInBounds i true).getD j false=true:=hL;rw[q1l hi,if_neg hji] at hL';exact hc j oj hj hL' e he hb
theorem qbY {b c:Nat}(hb:b≠c):(zF h c)[b]?=h[b]?:=by
 unfold zF;split
 ·rw[qOO (fun e=>hb e.symm)]
 ·rfl
theorem qhJ{b:Nat}:∀(l:List Nat) (h:List Blk),b∉l->(qH h l)[b]?=h[b]?
 | [],_,_=>rfl
 | c::l,h,hb=>by
  simp only[qP5,not_or] at hb;simp only[qH];rw[qhJ l _ hb.2,qbY hb.1]
theorem qrc{b:Nat}:∀(l:List Nat) (h:List Blk),b∉l->(qe2 h l)[b]?=h[b]?
 | [],_,_=>rfl
 | c::l,h,hb=>by
  simp only[qP5,not_or] at hb;simp only[qe2];split
  ·rw[qrc l _ hb.2,qOO (fun e=>hb.1 e.symm)]
  ·exact qrc l _ hb.2
theorem quL{b:Nat}:∀(l:List Nat) (h:List Blk) (ks:List Blk) (h':List Blk),q19 h l ks=some h'->b∉l->h'[b]?=h[b]?
 | [],h,ks,h',hp,_=>by cases ks<;>(simp only[q19,qOL] at hp;rw[hp])
 | c::l,h,[],h',hp,_=>by simp[q19] at hp
 | c::l,h,k::ks,h',hp,hb=>by
  simp only[qP5,not_or] at hb;simp only[q19] at hp;split at hp
  ·cases hq:q19 h l ks with
   | none=>rw[hq] at hp;cases hp
   | some h2=>
    rw[hq] at hp;simp only[qPk,qOL] at hp;rw[<-hp,qOO (fun e=>hb.1 e.symm)];exact quL l h ks h2 hq hb.2
  ·cases hp
theorem ql4{b:Nat}:∀(l:List Nat),b∈qmT l->b∈l
 | [],h=>h
 | a::l,h=>by
  simp only[qmT] at h;split at h
  ·exact qPc _ (ql4 l h)
  ·rcases qP5.1 h with rfl|h
   ·exact qP8
   ·exact qPc _ (ql4 l h)
mutual
theorem qJ6:∀(a:AV) (h h':List Blk),(a.lend h).men=(a.lend h').men
 | .vec b,h,h'=>by
  have:∀h,((AV.vec b).lend h).men=[]:=fun h=>by simp only[AV.lend];split<;>rfl
  rw[this,this]
 | .agg cs,h,h'=>by simp only[AV.lend,AV.men];exact qpI cs h h'
 | .tuple cs,h,h'=>by simp only[AV.lend,AV.men];exact qpI cs h h'
 | .undef,_,_|.yld,_,_|.skip,_,_|.blit _,_,_|.bool _,_,_|.ilit _ _,_,_|.int _ _,_,_|.str _,_,_|.nilp,_,_|.ptr _ _,_,_|.eptr _ _ _ _,_,_|.mptr _ _ _ _ _,_,_|.vptr _ _ _,_,_|.vsub _ _,_,_|.aptr _ _ _,_,_|.asub _ _ _ _ _,_,_|.bagg _ _ _ _,_,_|.nils,_,_|.imm _ _,_,_|.full _ _,_,_|.nilf,_,_|.fn _ _ _,_,_=>rfl
theorem qpI:∀(l:List AV) (h h':List Blk),AV.menL (AV.lendL h l)=AV.menL (AV.lendL h' l)
 | [],_,_=>rfl
 | a::l,h,h'=>by simp only[AV.lendL,AV.menL];rw[qJ6 a h h',qpI l h h']
end
theorem qwz {G:zj}{st:St}{r:AV×St}(h:(q1s G args st).run=some r)(hb:b<st.h.length)(hw:b∉qs8 st.h args):r.2.h[b]?=st.h[b]?:=by
 unfold q1s at h;unfold qs8 at hw;simp only[qPa,not_or] at hw;obtain⟨⟨w1,w2⟩,w3⟩:=hw;have hpre:(vk st.h args)[b]?=st.h[b]?:=by unfold vk;simp only;rw[qrc _ _ w3,qhJ _ _ w2,qhJ _ _ w1]
 simp only at h;split at h
 ·cases h
 ·obtain⟨r0,h1,h2⟩:=bind_some h;split at h2
  ·cases h2
  ·rename_i hput;cases h2;have hfp:b∉qmT (AV.menL (AV.lendL (vk st.h args) args)):=by intro hm;have hm:=ql4 _ hm;rw[qpI args (vk st.h args) (qH st.h (args.flatMap zT))] at hm;exact w3 hm
   have:=quL _ _ _ _ hput hfp;rw[hpre] at this;have hl:st.h[b]?=some st.h[b]:=qOS hb;rw[hl] at this;rw[qOY (qq this),this,hl]
theorem qyo {ev:Operand->AV}{q:FuncId×List AV}(h:jt ev op=some q):qk9 op=true/\∃x args tys first caps,op=.call { callee:=.value x,args:=args,argTypes:=tys }/\ev x=.fn q.1 first caps/\q.2=first++args.toList.map ev++caps:=by
 unfold jt at h;split at h
 ·rename_i x args tys;split at h
  ·rename_i f first caps hx
   cases h;exact⟨rfl,x,args,tys,first,caps,rfl,hx,rfl⟩
  ·cases h
 ·cases h
theorem brR {α:Type}{b:Bool}{t:Tree α}{r:α}(h:(Tree.br b t .fail).run=some r):b=true/\t.run=some r:=by
 cases b
 ·cases h
 ·exact⟨rfl,h⟩
theorem jU:∀(l:List Nat) (h:List Blk),(qH h l).length=h.length
 | [],_=>rfl
 | c::l,h=>by
  simp only[qH];rw[jU l];unfold zF;split<;>simp
theorem qyy (hb:b∈args.flatMap zT):b∈AV.menL args:=by obtain⟨a,ha,hb⟩:=qQR.1 hb;exact qt8 ha (qxa a b hb)
theorem qGU {h h':List Blk}{s:Sh}{a:AV}(hv:qGr a=true):toU h s a=toU h' s a:=by cases a<;>first|(cases hv;done)|(cases s<;>rfl)
theorem qqj{h h':List Blk}:∀(sh:List Sh) (azz:List AV),azz.all qGr=true->qte h sh azz=qte h' sh azz
 | [],[],_=>rfl
 | [],_::_,_=>rfl
 | _::_,[],_=>rfl
 | s::sh,a::azz,hv=>by
  simp only[qQL,qP0] at hv;simp only[qte];rw[qGU (h':=h') hv.1,qqj (h':=h') sh azz hv.2]
theorem qJr {p:AV->Bool}{l:List AV}(h:l.all p=true)(n:Nat):(l.take n).all p=true:=by rw[qPi] at h ⊢;exact fun x hx=>h x (qQT hx)
theorem qJI {p:AV->Bool}{l:List AV}(h:l.all p=true)(n:Nat):(l.drop n).all p=true:=by rw[qPi] at h ⊢;exact fun x hx=>h x (qQU hx)
theorem quh{h h':List Blk}{sh:List Sh}:∀(n:Nat) (cs:List AV),cs.all qGr=true->qlO h sh n cs=qlO h' sh n cs
 | 0,[],_=>rfl
 | 0,_::_,_=>rfl
 | n+1,cs,hv=>by
  simp only[qlO];rw[qqj (h':=h') _ _ (qJr hv _),quh (h':=h') n _ (qJI hv _)]
theorem qB8 {t:TypeId}{p v:AV}{r:Res}(hr:(q0a E h t p v).run=some r) :∃b x,p.men=[b]/\r=(.skip,h.set b x,none)/\∀h',h'[b]?=h[b]?->(q0a E h' t p v).run=some (.skip,h'.set b x,none):=by
 have plain:∀{p:AV} {r:Res},(qhc E h t p v).run=some r->∃b x,p.men=[b]/\r=(.skip,h.set b x,none)/\∀h',h'[b]?=h[b]?->(qhc E h' t p v).run=some (.skip,h'.set b x,none):=by
  intro p r hr;unfold qhc at hr;simp only at hr;split at hr
  case isFalse=>cases hr
  rename_i hc;cases p<;>simp only at hr<;>first|(cases hr;done)|skip
  case ptr b off=>
   split at hr
   case h_2=>cases hr
   split at hr
   case isFalse=>cases hr
   rename_i cs hb hc2;cases hr;refine⟨b,_,rfl,rfl,fun h' e=>?_⟩;unfold qhc;simp only;rw[if_pos hc,e,hb];simp only;rw[if_pos hc2];rfl
  case vptr b i off=>
   split at hr
   case h_2=>cases hr
   split at hr
   case isFalse=>cases hr
   split at hr
   case h_2=>cases hr
   rename_i e0 sh l hb hm _ us hu;cases hr;refine⟨b,_,rfl,rfl,fun h' e=>?_⟩;unfold qhc;simp only;have hu':qte h' ((sh.drop off).take v.cells.length) v.cells=some us:=by
    rw[<-hu];refine qqj _ _ (qPi.2 fun x hx=>?_);cases x<;>first|rfl|skip
    rename_i b';exact absurd (qt8 hx (b:=b') (by simp[AV.men])) (by rw[List.isEmpty_iff.1 hm];simp)
   rw[if_pos hc,e,hb];simp only;rw[if_pos hm,hu'];rfl
 unfold q0a at hr;split at hr
 ·rename_i b off;split at hr
  ·rename_i cs k n l hb;unfold qyD at hr;split at hr
   ·split at hr
    case isFalse=>cases hr
    rename_i hc;cases hr;refine⟨b,_,rfl,rfl,fun h' e=>?_⟩;unfold q0a;simp only[e,hb];unfold qyD;simp only;rw[if_pos hc];rfl
   ·rename_i hno;split at hr
    case isFalse=>cases hr
    rename_i hc;have fin:∀(x:Blk),(qyD E h t b off cs k n l v).run=some (.skip,h.set b x,none)->(∀h':List Blk,(qyD E h' t b off cs k n l v).run=some (.skip,h'.set b x,none))->∃b_1 x_1,(AV.ptr b off).men=[b_1]/\((AV.skip,h.set b x,none):Res)=(.skip,h.set b_1 x_1,none)/\∀h',h'[b_1]?=h[b_1]?->(q0a E h' t (.ptr b off) v).run=some (.skip,h'.set b_1 x_1,none):=by intro x _ h2;refine⟨b,x,rfl,rfl,fun h' e=>?_⟩;unfold q0a;simp only[e,hb];exact h2 h'
    split at hr
    ·rename_i hle;cases hr;refine⟨b,_,rfl,rfl,fun h' e=>?_⟩;unfold q0a;simp only[e,hb];unfold qyD;cases v<;>first|exact absurd rfl (hno _ _ _ _)|(simp only;rw[if_pos hc,hle];rfl)
    ·rename_i hle;split at hr
     case h_2=>cases hr
     split at hr
     case isFalse=>cases hr
     rename_i k' x hx hc2;cases hr;refine⟨b,_,rfl,rfl,fun h' e=>?_⟩;unfold q0a;simp only[e,hb];unfold qyD;cases v<;>first|exact absurd rfl (hno _ _ _ _)|(simp only;rw[if_pos hc,hle];simp only[hx];rw[if_pos hc2];rfl)
  ·rename_i hno;obtain⟨b',x,h1,h2,h3⟩:=plain hr;refine⟨b',x,h1,h2,fun h' e=>?_⟩;simp only[AV.men,qQd,and_true] at h1;subst h1;unfold q0a;simp only;rw[e];split
   ·rename_i cs k n l hb;exact absurd hb (hno _ _ _ _)
   ·exact h3 h' e
 ·rename_i b o i;split at hr
  case h_2=>cases hr
  split at hr
  case h_2=>cases hr
  split at hr
  case isFalse=>cases hr
  rename_i cs k n l hb _ k' x hx hc;obtain⟨g1,g2⟩:=brR hr;cases g2;refine⟨b,_,rfl,rfl,fun h' e=>?_⟩;unfold q0a;simp only[e,hb,hx];rw[if_pos hc];simp only[Tree.run,g1]
 ·rename_i hn1 hn2;obtain⟨b',x,h1,h2,h3⟩:=plain hr;refine⟨b',x,h1,h2,fun h' e=>?_⟩;unfold q0a;split
  ·rename_i b off;exact absurd rfl (hn1 _ _)
  ·rename_i b o i;exact absurd rfl (hn2 _ _ _)
  ·exact h3 h' e
theorem qtQ {h h':List Blk}{ev:Operand->AV}{v:AV}(hr:(qqM E h ev op).run=some (v,h'))(hb:b<h.length)(hw:b∉qCe h ev op):h'[b]?=h[b]?:=by
 unfold qqM at hr;unfold qCe at hw;cases hc:jt ev op with
 | some q=>
  obtain⟨f,args⟩:=q;rw[hc] at hr hw;simp only at hr hw;cases hs:qjt E f with
  | none=>rw[hs] at hr;cases hr
  | some G=>
   rw[hs] at hr;obtain⟨r,h1,h2⟩:=bind_some hr;cases h2;exact qwz (st:={ t:=[],fs:=[],h:=h,pend:=none }) h1 hb hw
 | none=>
  rw[hc] at hr hw;simp only at hr hw;cases hst:qqE op with
  | true=>
   rw[hst] at hr;obtain⟨r,h1,h2⟩:=bind_some hr;cases op<;>first|(cases hst;done)|skip
   rename_i t x y;simp only at hw;obtain⟨b',z,q1,rfl,_⟩:=qB8 (show (q0a E h t (ev x) (ev y)).run=some r from h1);cases h2;rw[q1] at hw;exact qOO (fun e=>hw (by simp[e]))
  | false=>rw[hst] at hr;cases hr
theorem qw9 {f g:Operand->AV}(hfg:∀x∈op.operands.toList,f x=g x):jt f op=jt g op:=by
 unfold jt;split
 ·rename_i x args tys;rw[hfg x (by simp[Op.operands,Call.operands])];have:args.toList.map f=args.toList.map g:=qPV fun y hy=>hfg y (by simp only[Op.operands,Call.operands,qQN];exact qPt _ hy);rw[this]
 ·rfl
theorem qvv {f g:Operand->AV}(hfg:∀x∈op.operands.toList,f x=g x):qp0 E h f op=qp0 E h g op/\qqM E h f op=qqM E h g op:=by
 have hc:=qw9 hfg;constructor
 ·unfold qp0;rw[hc]
 ·unfold qqM;rw[hc];cases jt g op with
  | some q=>rfl
  | none=>
   simp only;cases hs:qqE op with
   | true=>
    cases op<;>first|(cases hs;done)|skip
    rename_i t x y;have e:qtc E h f (.store t x y)=qtc E h g (.store t x y):=by unfold qtc;simp only;rw[hfg x (by simp[Op.operands]),hfg y (by simp[Op.operands])]
    simp only[e]
   | false=>rfl
theorem qCd {P:Program}(hE:E.tok P)(hS:E.specs P){B:Base}{X:Ctx}{st:St}{a:Act}(hs:Sim E B X st a){o:Oper}{av:AV}{h':List Blk}(h:(qqM E st.h (E.opd st.t) o.op).run=some (av,h')) {next:Act->World->Prop} {Q:Exit->Act->World->Prop}(hq:∀X' v,Sim E B X' { st with h:=h' } a->Rep X' av v->next (a.put o.dst v) X'.w):o.wp P a X.w next Q/\∀c,o.op≠.defer c:=by
 unfold qqM at h;cases hcl:jt (E.opd st.t) o.op with
 | some q=>
  obtain⟨f,aargs⟩:=q;rw[hcl] at h;simp only at h;obtain⟨_,x,args,tys,first,caps,hop,hx,ha⟩:=qyo hcl;simp only at hx ha;refine⟨?_,fun c hc=>by rw[hop] at hc;cases hc⟩;cases hsp:qjt E f with
  | none=>rw[hsp] at h;cases h
  | some G=>
   rw[hsp] at h;obtain⟨r,h1,h2⟩:=bind_some h;simp only[Tree.run,qOL,qPl] at h2;obtain⟨rfl,rfl⟩:=h2;unfold qjt at hsp;cases hf:E.spec.find? fun x=>x.1==f with
   | none=>rw[hf] at hsp;cases hsp
   | some G'=>
    rw[hf] at hsp;simp only[qPk,qOL] at hsp;subst hsp;have hG:=hS.sp G' (qPG hf);have hfe:G'.1=f:=by simpa using qQ0 hf
    rw[hfe] at hG;have hv:=qaM hs x;rw[hx] at hv;generalize hev:a.eval x=vx at hv;cases hv with
    | fn _ _ _ vf vc q1 q2=>
     have hargs:=q4j hs args.toList;have hall:RepL X aargs (vf++args.toList.map a.eval++vc):=by rw[ha];exact(q1.append hargs).append q2
     have hcs:(q1s G'.2 aargs st).run=some (r.1,{ st with h:=r.2.h }):=by
      unfold q1s at h1 ⊢;simp only at h1 ⊢;split at h1
      ·cases h1
      ·obtain⟨r0,k1,k2⟩:=bind_some h1;rw[Tree.run_bind,k1];simp only[qPd];split at k2
       ·cases k2
       ·cases k2;rfl
     have g2:=q9d hG hs hall hcs;have g1:=hG.1 (vf++args.toList.map a.eval++vc).toArray;unfold Oper.wp;have hrun:(execOp a.eval o).run P X.w=.ok (.enter f (vf++args.toList.map a.eval++vc).toArray) X.w:=by
      simp only[execOp,hop,resolve,hev,Deferred.ofValue,qOQ,qPh,qOW,invoke];have:vf.toArray++args.map a.eval++vc.toArray=(vf++args.toList.map a.eval++vc).toArray:=by apply qQ1;simp
      rw[this];exact g1 X.w
     rw[hrun];refine g2.mono fun e w' ⟨v,X',e1,e2,e3,e4⟩=>?_;subst e1 e2;exact hq X' _ e4 e3
 | none=>
  rw[hcl] at h;simp only at h;have hop:(qtc E st.h (E.opd st.t) o.op).run=some (av,h',none)/\∀c,o.op≠.defer c:=by
   cases hst:qqE o.op with
   | true=>
    rw[hst] at h;obtain⟨r,h1,h3⟩:=bind_some h;refine⟨?_,fun c hc=>by rw[hc] at hst;cases hst⟩;split at h3
    ·rename_i hn;simp only[Tree.run,qOL,qPl] at h3;rw[h1];obtain⟨r1,r2,r3⟩:=r;simp only at hn h3;rw[hn,h3.1,h3.2]
    ·cases h3
   | false=>rw[hst] at h;cases h
  refine⟨?_,hop.2⟩;obtain⟨nx,v,X',g1,g2,g3,g4,g5⟩:=qpn hE hs hop.1;have hs2:Sim E B X' { st with h:=h' } a:=by have:=hs.ext g5.2 g4;rw[g5.1] at this;exact this
  unfold Oper.wp;rw[g1];rcases g2 with rfl|⟨rfl,rfl⟩
  ·exact hq X' _ hs2 g3
  ·exact hq X' _ hs2 g3
mutual
theorem qJi:∀(a:AV) (h:List Blk) (b:Nat),b∈(a.lend h).men->b∈a.men
 | .vec c,h,b,hb=>by
  simp only[AV.lend] at hb;split at hb<;>cases hb
 | .agg cs,h,b,hb=>by simp only[AV.lend,AV.men] at hb ⊢;exact qgR cs h b hb
 | .tuple cs,h,b,hb=>by simp only[AV.lend,AV.men] at hb ⊢;exact qgR cs h b hb
 | .undef,_,_,hb|.yld,_,_,hb|.skip,_,_,hb|.blit _,_,_,hb|.bool _,_,_,hb|.ilit _ _,_,_,hb|.int _ _,_,_,hb|.str _,_,_,hb|.nilp,_,_,hb|.ptr _ _,_,_,hb|.eptr _ _ _ _,_,_,hb|.mptr _ _ _ _ _,_,_,hb|.vptr _ _ _,_,_,hb|.vsub _ _,_,_,hb|.aptr _ _ _,_,_,hb|.asub _ _ _ _ _,_,_,hb|.bagg _ _ _ _,_,_,hb|.nils,_,_,hb|.imm _ _,_,_,hb|.nilf,_,_,hb|.fn _ _ _,_,_,hb=>hb
theorem qgR:∀(l:List AV) (h:List Blk) (b:Nat),b∈AV.menL (AV.lendL h l)->b∈AV.menL l
 | [],_,_,hb=>hb
 | a::l,h,b,hb=>by
  simp only[AV.lendL,AV.menL,qPa] at hb ⊢;exact hb.imp (qJi a h b) (qgR l h b)
end
theorem qkO {h h':List Blk}{s c:Nat}{k:Blk}(hl:h'.length=h.length)(hc:c≠s->h'[c]?=h[c]?):(h'.set s k)[c]?=(h.set s k)[c]?:=by
 by_cases e:c=s
 ·subst e;simp only[List.getElem?_set,if_true,hl]
 ·rw[qOO (fun e'=>e e'.symm),qOO (fun e'=>e e'.symm)];exact hc e
theorem qFm {h h':List Blk}{b c:Nat}(hl:h'.length=h.length)(hc:h'[c]?=h[c]?):(zF h' b)[c]?=(zF h b)[c]?:=by
 by_cases e:c=b
 ·subst e;unfold zF;rw[hc];split
  ·exact qkO hl fun h=>absurd rfl h
  ·exact hc
 ·rw[qbY e,qbY e,hc]
theorem qlk{c:Nat}:∀(l:List Nat) (h h':List Blk),h'.length=h.length->h'[c]?=h[c]?->(qH h' l)[c]?=(qH h l)[c]?
 | [],_,_,_,hc=>hc
 | b::l,h,h',hl,hc=>qlk l _ _ (by have:=jU [b] h;have:=jU [b] h';simp only[qH] at *;omega) (qFm hl hc)
theorem qBA{p q:Nat->Bool}:∀{l:List Nat},(∀b,b∈l->p b=q b)->l.all p=l.all q
 | [],_=>rfl
 | a::l,h=>by simp only[qQL];rw[h a qP8,qBA fun b hb=>h b (qPc _ hb)]
theorem qoe{b:Nat}{cs:List AV}:∀(l:List Nat) (h:List Blk),(qH h l)[b]?=some (.cells cs)->h[b]?=some (.cells cs)
 | [],_,hc=>hc
 | a::l,h,hc=>by
  have:=qoe l _ hc;by_cases e:b=a
  ·subst e;unfold zF at this;split at this
   ·rename_i hk;rw[qOZ (qq hk)] at this;cases this
   ·exact this
  ·rwa [qbY e] at this
theorem qpR{h:List Blk}{b c:Nat}{k:Blk}(hk:h[b]?=some k)(hc:c∈k.menB):∀(l:List Nat),b∈l->c∈qD9 h l
 | a::l,hb=>by
  simp only[qD9,qPa];rcases qP5.1 hb with rfl|hb
  ·rw[hk];exact .inl hc
  ·exact .inr (qpR hk hc l hb)
theorem qvp{h h':List Blk}:∀(l:List Nat),(∀b,b∈l->h'[b]?=h[b]?)->q93 h' l=q93 h l
 | [],_=>rfl
 | b::l,H=>by
  simp only[q93];rw[H b qP8,qvp l fun c hc=>H c (qPc _ hc)]
theorem quX{h h':List Blk}:∀(l:List Nat),(∀b,b∈l->h'[b]?=h[b]?)->q6i h' l=q6i h l
 | [],_=>rfl
 | b::l,H=>by
  simp only[q6i];rw[H b qP8,quX l fun c hc=>H c (qPc _ hc)]
theorem qxL{h h':List Blk}(hl:h'.length=h.length):∀(l:List Nat) (ks g:List Blk),q19 h l ks=some g->g.length=h.length/\∃g':List Blk,q19 h' l ks=some g'/\g'.length=h.length/\∀c:Nat,h'[c]?=h[c]?->g'[c]?=g[c]?
 | [],_,g,hg=>by cases hg;exact⟨rfl,h',rfl,hl,fun _ h=>h⟩
 | b::l,[],g,hg=>by cases hg
 | b::l,k::ks,g,hg=>by
  simp only[q19] at hg ⊢;split at hg
  case isFalse=>cases hg
  rename_i hk;cases hp:q19 h l ks with
  | none=>rw[hp] at hg;cases hg
  | some g0=>
   rw[hp] at hg;simp only[qPk,qOL] at hg;subst hg;obtain⟨q0,g',q1,q2,q3⟩:=qxL hl l ks g0 hp;refine⟨by simp[q0],g'.set b k,by rw[if_pos hk,q1];rfl,by simp[q2],fun c hc=>qkO (by rw[q0,q2]) fun _=>q3 c hc⟩
theorem qll:∀(l:List Nat) (h:List Blk),(qe2 h l).length=h.length
 | [],_=>rfl
 | b::l,h=>by
  simp only[qe2];split
  ·rw[qll l];simp
  ·rw[qll l]
theorem qoz{R:List Nat}:∀(l:List Nat) (h h':List Blk),h'.length=h.length->(∀b,b∈R->h'[b]?=h[b]?)->(∀b,b∈l->b∈R/\∀cs,h[b]?=some (.cells cs)->∀c,c∈AV.menL cs->c∈R) ->
  ∀b,b∈R->(qe2 h' l)[b]?=(qe2 h l)[b]?
 | [],_,_,_,H,_=>H
 | a::l,h,h',hl,H,hR=>by
  obtain⟨ha,hcs⟩:=hR a qP8;have hR':=fun b hb=>hR b (qPc _ hb);simp only[qe2];rw[H a ha];cases hk:h[a]? with
  | none=>exact qoz l h h' hl H hR'
  | some k=>
   cases k<;>simp only<;>first|exact qoz l h h' hl H hR'|skip
   rename_i cs;have hm:=hcs cs hk;rw[q1W cs fun c hc=>H c (hm c hc)];refine qoz l _ _ (by simp[hl]) (fun b hb=>qkO hl fun _=>H b hb) fun b hb=>⟨(hR' b hb).1,fun cs' hcs' c hc=>?_⟩;by_cases e:b=a
   ·subst e;rw[qOZ (qq hk)] at hcs';cases hcs';exact hm c (qgR cs h c hc)
   ·rw[qOO (fun e'=>e e'.symm)] at hcs';exact(hR' b hb).2 cs' hcs' c hc
theorem qCW {G:zj}{h h':List Blk}{R:List Nat}(hl:h'.length=h.length)(H:∀b,b∈R->h'[b]?=h[b]?)(h1:∀b,b∈AV.menL args->b∈R)(h2:∀b,b∈qD9 (qH h (args.flatMap zT)) (AV.menL (AV.lendL (qH h (args.flatMap zT)) args))->b∈R) {r:AV×St} (hr:(q1s G args { t:=[],fs:=[],h:=h,pend:=none }).run=some r) :qs8 h' args=qs8 h args/\∃g',(q1s G args { t:=[],fs:=[],h:=h',pend:=none }).run=some (r.1,{ t:=[],fs:=[],h:=g',pend:=none })/\g'.length=r.2.h.length/\∀b,b∈R->b<h.length->g'[b]?=r.2.h[b]?:=by
 have l1:(qH h' (args.flatMap zT)).length=(qH h (args.flatMap zT)).length:=by rw[jU,jU,hl]
 have H1:∀b,b∈R->(qH h' (args.flatMap zT))[b]?=(qH h (args.flatMap zT))[b]?:=fun b hb=>qlk _ _ _ hl (H b hb);have e1:AV.lendL (qH h' (args.flatMap zT)) args=AV.lendL (qH h (args.flatMap zT)) args:=q1W args fun b hb=>H1 b (h1 b hb);have hfp:∀b,b∈AV.menL (AV.lendL (qH h (args.flatMap zT)) args)->b∈R:=fun b hb=>h1 b (qgR args _ b hb);have e2:=qvp (h:=qH h (args.flatMap zT)) (h':=qH h' (args.flatMap zT)) _ fun b hb=>H1 b (hfp b hb);have hw:qs8 h' args=qs8 h args:=by unfold qs8;simp only[e1,e2]
 have Hp:∀b,b∈R->(vk h' args)[b]?=(vk h args)[b]?:=by unfold vk;simp only[e1,e2];refine qoz _ _ _ (by simp only[jU,hl]) (fun b hb=>qlk _ _ _ l1 (H1 b hb)) fun b hb=>⟨hfp b hb,fun cs hcs c hc=>?_⟩;refine h2 c (qpR (k:=.cells cs) (b:=b) ?_ hc _ hb);exact qoe _ _ hcs
 have lp:(vk h' args).length=(vk h args).length:=by unfold vk;simp only[qll,jU,hl]
 refine⟨hw,?_⟩;unfold q1s at hr ⊢;simp only at hr ⊢;have e3:AV.lendL (vk h' args) args=AV.lendL (vk h args) args:=q1W args fun b hb=>Hp b (h1 b hb);have hfp2:∀b,b∈qmT (AV.menL (AV.lendL (vk h args) args))->b∈R:=fun b hb=>h1 b (qgR args _ b (ql4 _ hb));rw[e3,quX _ fun b hb=>Hp b (hfp2 b hb),lp];split at hr
 ·cases hr
 ·obtain⟨r0,k1,k2⟩:=bind_some hr;split at k2
  ·cases k2
  ·rename_i g hput;cases k2;obtain⟨q0,g',q1,q2,q3⟩:=qxL lp _ _ _ hput;refine⟨g'++(r0.2.drop (qmT (AV.menL (AV.lendL (vk h args) args))).length).map (Blk.ren (qrB (qmT (AV.menL (AV.lendL (vk h args) args))) (vk h args).length)),?_,?_,fun b hb hbl=>?_⟩
   ·rw[Tree.run_bind,k1];simp only[qPd,q1];rfl
   ·simp[q2,q0]
   ·have hbg:b<g.length:=by rw[q0];unfold vk;simp only[qll,jU];exact hbl
    rw[qOY (by rw[q2,<-q0];exact hbg),qOY hbg];exact q3 b (Hp b hb)
theorem qCb {h h' g:List Blk}{ev:Operand->AV}{v:AV}(hr:(qqM E h ev op).run=some (v,g))(hl:h'.length=h.length)(H:∀b,b∈qGB h ev op++qCe h ev op->h'[b]?=h[b]?)(hg:g.length=h.length) :∃g',(qqM E h' ev op).run=some (v,g')/\g'.length=h'.length/\(∀b,b∈qCe h ev op->g'[b]?=g[b]?)/\∀b,b∉qCe h ev op->g'[b]?=h'[b]?:=by
 have out:∀{h g:List Blk},(qqM E h ev op).run=some (v,g)->g.length=h.length->∀b,b∉qCe h ev op->g[b]?=h[b]?:=by
  intro h g hr hg b hb;rcases qOT b h.length with hlt|hge
  ·exact qtQ hr hlt hb
  ·rw[qP7 hge,qP7 (by omega)]
 suffices hs:qCe h' ev op=qCe h ev op/\∃g',(qqM E h' ev op).run=some (v,g')/\g'.length=g.length/\∀b,b∈qCe h ev op->g'[b]?=g[b]? by obtain⟨e,g',q1,q2,q3⟩:=hs;refine⟨g',q1,by omega,q3,fun b hb=>out q1 (by omega) b (by rw[e];exact hb)⟩
 unfold qqM at hr ⊢;unfold qGB qCe at H;unfold qCe;cases hc:jt ev op with
 | some q=>
  obtain⟨f,args⟩:=q;rw[hc] at hr H;simp only at hr H ⊢;cases hsp:qjt E f with
  | none=>rw[hsp] at hr;cases hr
  | some G=>
   rw[hsp] at hr;simp only at hr ⊢;obtain⟨r,k1,k2⟩:=bind_some hr;simp only[Tree.run,qOL,qPl] at k2;obtain⟨rfl,rfl⟩:=k2;obtain⟨e,g',q1,q2,q3⟩:=qCW hl H (fun b hb=>qPF _ (qPF _ hb)) (fun b hb=>qPF _ (qPt _ hb)) k1;refine⟨e,g',by rw[Tree.run_bind,q1];rfl,q2,fun b hb=>?_⟩;rcases qOT b h.length with hlt|hge
   ·exact q3 b (qPt _ hb) hlt
   ·rw[qP7 (by omega),qP7 (by omega)]
 | none=>
  rw[hc] at hr H;simp only at hr H ⊢;cases hst:qqE op with
  | false=>rw[hst] at hr;cases hr
  | true=>
   rw[hst] at hr;simp only at hr ⊢;obtain⟨r,k1,k2⟩:=bind_some hr;cases op<;>first|(cases hst;done)|skip
   rename_i t x y;obtain⟨b',z,q1,rfl,q3⟩:=qB8 (show (q0a E h t (ev x) (ev y)).run=some r from k1);simp only[Tree.run,qOL,qPl] at k2;obtain⟨rfl,rfl⟩:=k2;refine⟨trivial,h'.set b' z,?_,by simp[hl],fun b hb=>qkO hl fun _=>H b (qPt _ hb)⟩;rw[Tree.run_bind];have:=q3 h' (H b' (qPt _ (by simp only;rw[q1];exact List.mem_singleton_self _)));unfold qtc;simp only;rw[this];rfl
theorem qJE {h h':List Blk}{ev:Operand->AV}(he:qp0 E h ev op=true)(H:∀b,b∈qGB h ev op++qCe h ev op->h'[b]?=h[b]?):qp0 E h' ev op=true:=by
 unfold qp0 at *;unfold qGB at H;cases hv:qk9 op with
 | false=>rw[hv] at he;exact he
 | true=>
  rw[hv] at he;simp only at he ⊢;cases hc:jt ev op with
  | none=>rw[hc] at he;cases he
  | some q=>
   obtain⟨f,args⟩:=q;rw[hc] at he H;simp only at he H ⊢;have hm:∀b,b∈AV.menL args->h'[b]?=h[b]?:=fun b hb=>H b (qPF _ (qPF _ hb));rw[q1W args hm];have:(args.flatMap zT).all (qnD h')=(args.flatMap zT).all (qnD h):=qBA fun b hb=>by unfold qnD;rw[hm b (qyy hb)]
   rw[this];exact he
end Go.Eng

namespace Go.Eng
theorem qAw{s:Nat}:∀(l:List AV) (i:Nat) (v:AV),s∉AV.menL l->s∉v.men->s∉AV.menL (l.set i v)
 | [],_,_,h,_=>by simpa using h
 | a::l,0,v,h,hv=>by
  simp only[AV.menL,qPa,not_or] at h;simp only[qP1,AV.menL,qPa,not_or];exact⟨hv,h.2⟩
 | a::l,i+1,v,h,hv=>by
  simp only[AV.menL,qPa,not_or] at h;simp only[qP3,AV.menL,qPa,not_or];exact⟨h.1,qAw l i v h.2 hv⟩
theorem qIm{dst:Nat->Option Tmp}{V:Nat->AV}{T0:List AV}{L:Nat->Bool}{s:Nat}(h0:s∉AV.menL T0):∀n,(∀j,j<n->L j=true->s∉(V j).men)->s∉AV.menL (TLp dst V T0 L n)
 | 0,_=>h0
 | n+1,h=>by
  have ih:=qIm (dst:=dst) (V:=V) (L:=L) h0 n fun j hj=>h j (by omega);simp only[TLp];split
  ·rename_i hl;cases hd:dst n with
   | none=>exact ih
   | some d=>exact qAw _ _ _ ih (h n (qQA n) hl)
  ·exact ih
theorem qHb{all:Array Oper}{k:Nat}{v:AV}{s:Nat}(h:s∉v.men):s∉(qCv all k v).men:=by
 unfold qCv;split
 ·split
  ·simp[AV.men]
  ·exact h
 ·exact h
theorem qyv{n:Nat}(i:Nat):(Array.replicate n false).getD i false=false:=by rcases qOT i n with h|h<;>simp[h]
theorem qKz(listed:Array Bool):∀n,unl listed n<=n
 | 0=>qON _
 | n+1=>by simp only[unl];have:=qKz listed n;split<;>omega
theorem qJq(all:Array Oper):kL all<=all.size:=by
 unfold kL;simp only;cases hf:(List.range all.toList.length).find? _ with
 | none=>simp
 | some m=>
  have:=qPG hf;simp at this;simp;omega
theorem qqN(all:Array Oper){i j:Nat}(hj:kL all<=j)(hjn:j<all.size)(hij:i<j):((qjd all.toList).getD j 0).testBit i=true:=by
 unfold kL at hj;simp only at hj;cases hf:(List.range all.toList.length).find? (fun m=>(List.range all.toList.length).all fun j=>decide (j<m)||(List.range j).all fun i=>((qjd all.toList).getD j 0).testBit i) with
 | none=>rw[hf] at hj;simp at hj;omega
 | some m=>
  rw[hf] at hj;simp only[qPI] at hj;have h:=qQ0 hf;rw[qPi] at h;have h2:=h j (qPH.2 (by simpa using hjn));simp only[qQc,decide_eq_true_eq,qPi,qPH] at h2;rcases h2 with h2|h2
  ·omega
  ·exact h2 i hij
section
variable {E:Env} {P:Program} {B:Base} {all:Array Oper} {Q:Exit->Act->World->Prop} {callH:qav} {n0:Nat}
theorem qGX(hE:E.tok P)(hcH:CallOK E P callH B)(hd:DrawOk all){st':St}(hq:∀X' a',Sim E B X' st' a'->Q .normal a' X'.w):∀(l:List Oper) (i:Nat),all.toList.drop i=l->kL all<=i ->∀(fuel:Nat) (listed:Array Bool) (X:Ctx) (a:Act) (st:St),listed.size=all.size->(∀j,j<i->j<all.size->listed.getD j false=true)->(∀j,i<=j->listed.getD j false=false)->unl listed all.size<=fuel ->Sim E B X st a->(qnM E callH all i l st).run=some st'->wpAnyIn (q5O B.ro) n0 P .any all Q fuel listed a X.w:=by
 intro l;induction l with
 | nil=>
  intro i hl hm fuel listed X a st hsz hlo hhi hun hs h;simp only[qnM,Tree.run,qOL] at h;subst h;have hi:all.size<=i:=by simpa using List.drop_eq_nil_iff.1 hl
  have hr:Region.ready .any all listed=[]:=by
   apply List.eq_nil_iff_forall_not_mem.2;intro j hj;rw[mem_ready] at hj;obtain⟨q1,o',q2,_⟩:=hj;have hj':=(qOR.1 q2).1;have hjt:=hlo j (by omega) hj';have hj2:j<listed.size:=by omega
   rw[qQ4,qQt hj2] at hjt q1;simp only[qPI] at hjt q1;rw[hjt] at q1;cases q1
  cases fuel with
  | zero=>exact⟨hr,hq X a hs⟩
  | succ fuel=>exact⟨fun _=>hq X a hs,fun j hj=>by rw[hr] at hj;cases hj⟩
 | cons o rest ih=>
  intro i hl hm fuel listed X a st hsz hlo hhi hun hs h;have hin:i<all.size:=by
   rcases qOT i all.size with h1|h1
   ·exact h1
   ·rw[qQs (by simpa using h1)] at hl;cases hl
  have ho:all[i]?=some o:=by have:=qPR (xs:=all.toList) (i:=i) (j:=0);rw[hl] at this;simpa using this.symm
  have hrest:all.toList.drop (i+1)=rest:=by rw[<-List.drop_drop,hl];rfl
  have hil:i<listed.size:=by omega
  have hcl:qrK all fun j=>listed.getD j false:=by
   intro j oj hj hL e he hb;have hj':=(qOR.1 hj).1;have hji:j<i:=by
    rcases qOT j i with h1|h1
    ·exact h1
    ·have hL':listed.getD j false=true:=hL;rw[hhi j h1] at hL';cases hL'
   have:=hd.edge j oj hj e he hb;exact hlo e.on (by omega) (by omega)
  have hpos:0<unl listed all.size:=by
   rcases qPT (unl listed all.size) with h0|h0
   ·have:=qyJ h0 i hin;rw[hhi i (qON _)] at this;cases this
   ·exact h0
  obtain⟨fuel,rfl⟩:∃f,fuel=f+1:=⟨fuel-1,by omega⟩;have hLi:=hhi i (qON _);have hone:∀j,j∈Region.ready .any all listed->j=i:=by
   intro j hj;rw[mem_ready] at hj;obtain⟨q1,oj,q2,gedge⟩:=hj;have hj':=(qOR.1 q2).1;have hj2:j<listed.size:=by omega
   have hLj:listed.getD j false=false:=by simpa[qQ4,hj2] using q1
   rcases Nat.lt_trichotomy j i with h1|h1|h1
   ·rw[hlo j h1 hj'] at hLj;cases hLj
   ·exact h1
   ·have hedge':∀e,e∈oj.after.toList->Region.binds .any e=true->listed.getD e.on false=true:=fun e he hb=>gedge e (by simpa using he) hb;have hcl':=qqo hsz q2 hcl hedge';have hb':=qqN all (by omega) hj' h1;have:=qxM hd hcl' j i (by show (listed.setIfInBounds j true).getD j false=true;rw[q1l hj2,if_pos rfl]) hb';have h':(listed.setIfInBounds j true).getD i false=true:=this;rw[q1l hj2,if_neg (by omega),hLi] at h';cases h'
  refine⟨fun hr=>?_,fun j hj=>?_⟩
  ·
   exfalso;have:=qBp hd hsz hr i hin;rw[hLi] at this;cases this
  ·obtain rfl:=hone j hj;have hgo:∀(X'':Ctx) (a'':Act) (s'':St),Sim E B X'' s'' a''->(qnM E callH all (j+1) rest s'').run=some st'->wpAnyIn (q5O B.ro) n0 P .any all Q fuel (listed.setIfInBounds j true) a'' X''.w:=by
    intro X'' a'' s'' hs'' h'';refine ih (j+1) hrest (by omega) fuel _ X'' a'' s'' (by simp[hsz]) (fun k hk hk2=>?_) (fun k hk=>?_) ?_ hs'' h''
    ·rw[q1l hil];split
     ·rfl
     ·exact hlo k (by omega) hk2
    ·rw[q1l hil,if_neg (by omega)];exact hhi k (by omega)
    ·have:=(qCD hil hLi all.size).2 hin;omega
   simp only[qnM] at h;unfold wpOpIn;rw[ho];simp only;cases hwa:q6Q all o st.t with
   | none=>rw[hwa] at h;cases h
   | some b=>
    rw[hwa] at h;rw[qbl hs.t hwa];cases b with
    | true=>
     simp only[if_true];obtain⟨s1,k1,k2⟩:=bind_some h;obtain⟨s2,k3,k4⟩:=bind_some k2;exact qs1 hE hcH hs k1 fun X'' a'' hs''=>hgo X'' a'' s2 (qvr hs'' k3) k4
    | false=>
     simp only[qPo,if_false];exact⟨fun _ _=>trivial,hgo X _ (qHq o st) (hs.put (av:=.skip) .skip o.dst) h⟩
end
theorem qEf(h h':List Blk):qf6 (h++h')=qf6 h++qf6 h':=by
 induction h with
 | nil=>rfl
 | cons k h ih=>simp[qf6,ih]
theorem qEJ{zs:List Blk}(h:∀z,z∈zs->z.menB=[]){s:Nat}:s∉qf6 zs:=by
 induction zs with
 | nil=>intro h;cases h
 | cons z zs ih=>
  simp only[qf6,qPa,not_or];exact⟨by rw[h z qP8];simp,ih fun z hz=>h z (qPc _ hz)⟩
end Go.Eng

namespace Go.Eng
variable {B:Base}{E:Env}{P:Program}{X:Ctx}{a:Act}{args:List AV}{b:Nat}{e:TypeId}{f:FuncId}{h:List Blk}{k:Nat}{o:Oper}{op:Op}{s:Nat}{sh:List Sh}{st:St}
theorem HSim.renum {X X':Ctx}{f:Nat->Option Nat}(hs:HSim B X)(hm:Move X X' f)(hw:X'.w=X.w)(hM:X'.M=X.M)(g:Nat->Nat)(hget:∀b k,X'.h[b]?=some k->k=.dead\/(X.h[g b]?=some k/\X'.σ b=X.σ (g b)/\k.ren f=k))(hinj:∀b b',g b=g b'->b=b'\/X'.h[b]?=some .dead\/X'.h[b']?=some .dead)(hi:∀b,b<B.imps.length->X'.σ b=X.σ b/\X'.h[b]?=X.h[b]?) (hg:∀b,B.imps.length<=b->B.imps.length<=g b):HSim B X':=by
 have hown:∀b n,X'.own b n->X.own (g b) n:=by
  intro b n ⟨h1,k,h2,h3⟩;rcases hget b k h2 with rfl|⟨q1,q2,_⟩
  ·cases h3
  ·exact⟨q2▸h1,k,q1,h3⟩
 constructor
 ·intro b k h;rcases hget b k h with rfl|⟨q1,q2,q3⟩
  ·trivial
  ·by_cases hd:k=.dead
   ·subst hd;trivial
   ·have:=jm.move hm.toMove0 (b':=b) q2 (fun n _=>by rw[hw]) (hs.blk (g b) k q1)
    rwa [q3] at this
 ·intro b b' n h h';rcases hinj b b' (hs.inj _ _ n (hown b n h) (hown b' n h')) with e|e|e
  ·exact e
  ·obtain⟨_,k,q1,q2⟩:=h;rw[e] at q1;cases q1;cases q2
  ·obtain⟨_,k,q1,q2⟩:=h';rw[e] at q1;cases q1;cases q2
 ·intro b n h;rw[hM];exact hs.notM _ n (hown b n h)
 ·intro n h;rw[hM] at h;rw[hw];exact hs.ltM n h
 ·intro n h;rw[hM];exact hs.M0 n h
 ·intro n h;rw[hM] at h;exact hs.newM n h
 ·rw[hw];exact hs.os
 ·rw[hw];exact hs.tape
 ·rw[hw];exact hs.output
 ·rw[hw];exact hs.size
 ·intro n h1 h2;rw[hw];exact hs.frame n h1 h2
 ·intro b hb;rw[(hi b hb).1];exact hs.imps b hb
 ·intro b hb;rw[(hi b hb).2];exact hs.impc b hb
 ·intro b n h hb;exact hs.fresh _ n (hown b n h) (hg b hb)
 ·intro p hp;rw[hm.kept] at hp;rw[hw];exact hs.kept p hp
theorem not_imp (hs:HSim B X){k:Blk}(h:X.h[b]?=some k)(hk:k.solid=false):B.imps.length<=b:=by
 rcases qOT b B.imps.length with hb|hb
 ·obtain⟨k',h1,h2⟩:=hs.impc b hb;rw[h] at h1;cases h1;rw[hk] at h2;cases h2
 ·exact hb
def Ctx.alias(X:Ctx)(b s:Nat)(k:Blk):Ctx:={ σ:=fun x=>if x=s then X.σ b else X.σ x,h:=(X.h.set b .dead).set s k,w:=X.w,M:=X.M,kept:=X.kept,y:=X.y }
theorem qAp {b s:Nat}{k:Blk}(hb:b<X.h.length)(hsl:s<X.h.length)(x:Nat):(X.alias b s k).h[x]?=if x=s then some k else if x=b then some .dead else X.h[x]?:=by
 show ((X.h.set b .dead).set s k)[x]?=_;by_cases h1:x=s
 ·subst h1;rw[if_pos rfl,qOZ (by simpa using hsl)]
 ·rw[if_neg h1,qOO (fun e=>h1 e.symm)];by_cases h2:x=b
  ·subst h2;rw[if_pos rfl,qOZ hb]
  ·rw[if_neg h2,qOO (fun e=>h2 e.symm)]
theorem qxB (hs:HSim B X){b s:Nat}{l:R}(hb:X.h[b]?=some (.vec e sh l))(hd:X.h[s]?=some .dead)(hmen:s∉qf6 X.h) :HSim B (X.alias b s (.vec e sh l))/\Move X (X.alias b s (.vec e sh l)) (qfO s)/\∀v,Rep X (.vec b) v->Rep (X.alias b s (.vec e sh l)) (.vec s) v:=by
 have hbl:=qq hb;have hsl:=qq hd;have hbs:b≠s:=fun he=>by rw[he,hd] at hb;cases hb
 have hget:=fun x=>qAp (X:=X) (k:=.vec e sh l) hbl hsl x;have hlen:(X.alias b s (.vec e sh l)).h.length=X.h.length:=by simp[Ctx.alias]
 have hm:Move X (X.alias b s (.vec e sh l)) (qfO s):=by
  refine Move.of (fun _ h=>h) (fun _ _=>rfl) (fun b1 b2 hb1 h=>?_);have hne:b1≠s:=by intro e;subst e;simp[qfO] at h
  have:b2=b1:=by simp[qfO,hne] at h;exact h.symm
  subst this;refine⟨by rw[hlen];exact hb1,by simp[Ctx.alias,hne],fun sh1 m ⟨e1,l1,h1,h2⟩=>?_,fun _ _ _ n _ c T fr hc=>⟨c,T,fr,hc,rfl⟩⟩;rw[hget,if_neg hne] at h1;by_cases h3:b2=b
  ·rw[if_pos h3] at h1;rcases h1 with h1|h1<;>cases h1
  ·rw[if_neg h3] at h1;exact⟨e1,l1,h1,h2⟩
 refine⟨hs.renum hm rfl rfl (fun x=>if x=s then b else x) (fun x k h=>?_) (fun x x' h=>?_) (fun x hx=>?_) (fun x hx=>?_),hm,fun v hv=>?_⟩
 ·rw[hget] at h;by_cases h1:x=s
  ·rw[if_pos h1] at h;cases h;right;rw[if_pos h1];exact⟨hb,by simp[Ctx.alias,h1],rfl⟩
  ·rw[if_neg h1] at h;by_cases h2:x=b
   ·rw[if_pos h2] at h;cases h;exact .inl rfl
   ·rw[if_neg h2] at h;right;rw[if_neg h1];exact⟨h,by simp[Ctx.alias,h1],Blk.ren_void k (qtg hmen h)⟩
 ·by_cases h1:x=s
  ·by_cases h2:x'=s
   ·exact .inl (h1.trans h2.symm)
   ·rw[if_pos h1,if_neg h2] at h;right;right;rw[hget,if_neg h2,if_pos h.symm]
  ·by_cases h2:x'=s
   ·rw[if_neg h1,if_pos h2] at h;right;left;rw[hget,if_neg h1,if_pos h]
   ·rw[if_neg h1,if_neg h2] at h;exact .inl h
 ·have h1:=not_imp hs hb rfl;have h2:=not_imp hs hd rfl;exact⟨by simp[Ctx.alias,show x≠s by omega],by rw[hget,if_neg (by omega),if_neg (by omega)]⟩
 ·have h1:=not_imp hs hb rfl;split<;>omega
 ·cases hv with
  | vec _ p n c hlt h=>
   refine .vec s p n c (by rw[hlen];exact hsl) fun sh' m ⟨e',l',q1,q2⟩=>?_;rw[hget,if_pos rfl] at q1;have q3:e'=e/\sh'=sh/\l'=l:=by
    rcases q1 with q1|q1
    ·cases q1;exact⟨rfl,rfl,rfl⟩
    ·cases q1
   obtain⟨rfl,rfl,rfl⟩:=q3;have:=h sh' m ⟨e',l',.inl hb,q2⟩;unfold qzF at this ⊢;have hσ:(X.alias b s (.vec e' sh' l')).σ s=X.σ b:=by simp[Ctx.alias]
   rw[hσ];exact this
theorem qFL (hs:HSim B X){h':List Blk}(hX:X.h=h'++[.dead])(hmen:h'.length∉qf6 h') :HSim B { X with h:=h' }/\Move X { X with h:=h' } (qfO h'.length):=by
 have hget:∀(x:Nat) (k:Blk),h'[x]?=some k->X.h[x]?=some k:=fun x k h=>by rw[hX,qOY (qq h)];exact h
 have hm:Move X { X with h:=h' } (qfO h'.length):=by
  refine Move.of (fun _ h=>h) (fun _ _=>rfl) (fun b1 b2 hb1 h=>?_);have hne:b1≠h'.length:=by intro e;subst e;simp[qfO] at h
  have:b2=b1:=by simp[qfO,hne] at h;exact h.symm
  subst this;rw[hX] at hb1;simp only[qP6,qPg,qPu] at hb1;refine⟨by show b2<h'.length;omega,rfl,fun sh1 m ⟨e1,l1,h1,h2⟩=>⟨e1,l1,?_,h2⟩,fun _ _ _ n _ c T fr hc=>⟨c,T,fr,hc,rfl⟩⟩;exact h1.elim (fun h=>.inl (hget _ _ h)) (fun h=>.inr (hget _ _ h))
 refine⟨hs.renum hm rfl rfl id (fun x k h=>.inr ⟨hget x k h,rfl,Blk.ren_void k (qtg hmen h)⟩) (fun x x' h=>.inl h) (fun x hx=>⟨rfl,?_⟩) (fun x hx=>hx),hm⟩;obtain⟨k,h1,h2⟩:=hs.impc x hx;have hxl:x<h'.length:=by
  rcases qOT x h'.length with h|h
  ·exact h
  ·rw[hX,qP4 h] at h1;rcases qQm h with h|h
   ·rw[<-h] at h1;simp at h1;subst h1;cases h2
   ·rw[qP7 (by simp;omega)] at h1;cases h1
 show h'[x]?=X.h[x]?;rw[hX,qOY hxl]
theorem Sim.moved {X X':Ctx}(hs:Sim E B X st a)(h2:HSim B X')(h3:Move X X' (qfO s))(ht:s∉AV.menL st.t)(hf:s∉qpT st.fs):Sim E B X' { st with h:=X'.h } a:=by
 refine⟨h2,rfl,?_,?_,fun x hx=>?_,h3.kept▸hs.df,hs.ni,h3.y.trans hs.y,fun p hp=>h3.kept▸hs.pin p hp⟩
 ·have:=hs.t.ren h3.toMove0
  rwa [AV.renL_void _ ht] at this
 ·have:=hs.fs.ren h3.toMove0
  rwa [qqw _ hf] at this
 ·obtain⟨⟨sh,l,i,off,he⟩,hr⟩:=hs.glob x hx;refine⟨⟨sh,l,i,off,he⟩,hr.move h3.M h3.w ?_⟩;have:=hr.1.ren h3.toMove0;rw[he] at this ⊢;exact this
theorem Rep.voided {X X':Ctx}{s b:Nat}{v:Value}(h:Move X X' (qfO s))(hr:Rep X (.vec b) v)(hne:b≠s):Rep X' (.vec b) v:=by have:=hr.ren h.toMove0;simpa[AV.ren,qfO,hne] using this
theorem qok {s c:Nat}{k:Blk}(hk:k.menB=[])(hc:c∉qf6 h):c∉qf6 (h.set s k):=by
 induction h generalizing s with
 | nil=>exact hc
 | cons a h ih=>
  simp only[qf6,qPa,not_or] at hc;cases s with
  | zero=>simp only[qP1,qf6,hk,qQ5];exact hc.2
  | succ s=>simp only[qP3,qf6,qPa,not_or];exact⟨hc.1,ih hc.2⟩
theorem qrZ{c:Nat}:∀(l:List Nat) {h:List Blk},h[c]?=some .dead->(qH h l)[c]?=some .dead
 | [],_,hc=>hc
 | a::l,h,hc=>qrZ l (by
  by_cases e:c=a
  ·subst e;unfold zF;rw[hc];exact hc
  ·rw[qbY e,hc])
theorem qkG{c:Nat}:∀(l:List Nat) {h:List Blk},c∉qf6 h->c∉qf6 (qH h l)
 | [],_,hc=>hc
 | a::l,h,hc=>qkG l (by
  unfold zF;split
  ·exact qok rfl hc
  ·exact hc)
theorem qDC {l:R}{v:Value}(hs:Sim E B X { st with h:=h++[.vec e sh l] } a)(hv:Rep X (.vec h.length) v)(hd:h[s]?=some .dead) (h1:s∉qf6 h) (h2:s∉AV.menL st.t) (h3:s∉qpT st.fs) (n1:h.length∉qf6 h) (n2:h.length∉AV.menL st.t) (n3:h.length∉qpT st.fs) :∃X',X'.w=X.w/\Sim E B X' { st with h:=h.set s (.vec e sh l) } a/\Rep X' (.vec s) v:=by
 have hsl:=qq hd;have hX:X.h=h++[.vec e sh l]:=hs.h;have hb:X.h[h.length]?=some (.vec e sh l):=by rw[hX,qP4 (qON _)];simp
 have hd':X.h[s]?=some .dead:=by rw[hX,qOY hsl];exact hd
 have hm':s∉qf6 X.h:=by rw[hX,qEf];simp[qf6,Blk.menB];exact h1
 obtain⟨g1,g2,g3⟩:=qxB hs.hs hb hd' hm';have s1:=hs.moved g1 g2 h2 h3;have hA:(X.alias h.length s (.vec e sh l)).h=h.set s (.vec e sh l)++[.dead]:=by show (X.h.set h.length .dead).set s (.vec e sh l)=_;rw[hX,List.set_append_right (h:=qON _),qPv,List.set_append_left (h:=hsl)];rfl
 obtain⟨k1,k2⟩:=qFL g1 hA (by simp only[qPY];exact qok rfl n1);rw[qPY] at k2;have s2:=s1.moved k1 k2 n2 n3;have hne:s≠h.length:=by omega
 exact⟨{ X.alias h.length s (.vec e sh l) with h:=h.set s (.vec e sh l) },rfl,s2,(g3 v hv).voided k2 hne⟩
theorem zt (h:List Blk)(x:AV):(ye h x).length=h.length:=by cases x<;>simp[ye,qfK]
theorem q3q {x:AV}{c:Nat}(hc:c∉x.men):(ye h x)[c]?=h[c]?:=by
 cases x<;>first|rfl|skip
 rename_i b;exact qbY (fun e=>hc (by simp[AV.men,e]))
theorem qoL {x:AV}{c:Nat}(hc:c∉qf6 h):c∉qf6 (ye h x):=by
 cases x<;>first|exact hc|skip
 rename_i b;show c∉qf6 (zF h b);unfold zF;split
 ·rename_i e sh l _;exact qok (k:=.frz e sh l) rfl hc
 ·exact hc
theorem qlp {r:Res}(h:qL P B X (execOp a.eval o) r){next:Act->World->Prop}{Q:Exit->Act->World->Prop}(hq:∀X' v,HSim B X'->Rep X' r.1 v->(match r.2.2 with|none=>X'.h=r.2.1/\Ext X X'|some b=>X'.h=r.2.1.map (Blk.ren (qfO b))/\Move X X' (qfO b))->next (a.put o.dst v) X'.w):o.wp P a X.w next Q:=by
 obtain⟨nx,v,X',g1,g2,g3,g4,g5⟩:=h;unfold Oper.wp;rw[g1];rcases g2 with rfl|⟨rfl,rfl⟩
 ·exact hq X' _ g4 g3 g5
 ·exact hq X' _ g4 g3 g5
theorem qJX (hs:s∉qf6 h):h.map (Blk.ren (qfO s))=h:=by
 induction h with
 | nil=>rfl
 | cons k h ih=>
  simp only[qf6,qPa,not_or] at hs;simp only[qPS,Blk.ren_void k hs.1,ih hs.2]
theorem qGx {o:Option Blk}(h:qx4 o=true):o=some .dead:=by
 unfold qx4 at h;split at h
 ·rfl
 ·cases h
theorem Sim.ext' {X X':Ctx}{h':List Blk}(hs:Sim E B X st a)(hx:Ext X X')(h4:HSim B X')(hh:X'.h=h'):Sim E B X' { st with h:=h' } a:=by have:=hs.ext hx h4;rw[hh] at this;exact this
theorem qFv {x:AV}{m:R}(hr:vr h x=some (sh,m))(hn:qDT b x=true):b∉x.men:=by
 cases x<;>simp only[vr] at hr<;>first|(cases hr;done)|simp[AV.men]
 rename_i b';intro e;subst e;simp[qDT] at hn
theorem qBb {h h':List Blk}{x:AV}(H:∀b,b∈x.men->h'[b]?=h[b]?):vr h' x=vr h x:=by cases x<;>simp only[vr];rename_i b;rw[H b (by simp[AV.men])]
mutual
theorem Rep.inB{X:Ctx}:∀{a:AV} {v:Value},Rep X a v->∀b,b∈a.men->b<X.h.length
 | _,_,.undef _,b,h=>by simp[AV.men] at h
 | _,_,.skip,b,h=>by simp[AV.men] at h
 | _,_,.yld,b,h=>by simp[AV.men] at h
 | _,_,.blit _,b,h=>by simp[AV.men] at h
 | _,_,.bool _,b,h=>by simp[AV.men] at h
 | _,_,.ilit _ _,b,h=>by simp[AV.men] at h
 | _,_,.int _ _,b,h=>by simp[AV.men] at h
 | _,_,.str _,b,h=>by simp[AV.men] at h
 | _,_,.nilp,b,h=>by simp[AV.men] at h
 | _,_,.ptr _ _ _ hb _,b,h=>by simp only[AV.men,qPf] at h;rw[h];exact hb
 | _,_,.eptr _ _ _ _ _ _ _ _ _,b,h=>by simp[AV.men] at h
 | _,_,.mnil _ _ _ _,b,h=>by simp[AV.men] at h
 | _,_,.mptr _ _ _ _ _ _ _ _ _,b,h=>by simp[AV.men] at h
 | _,_,.vptr _ _ _ _ _ hb _ _,b,h=>by simp only[AV.men,qPf] at h;rw[h];exact hb
 | _,_,.vsub _ _ _ _ _ _ hb _ _,b,h=>by simp only[AV.men,qPf] at h;rw[h];exact hb
 | _,_,.aptr _ _ _ _ hb _ _,b,h=>by simp only[AV.men,qPf] at h;rw[h];exact hb
 | _,_,.asub _ _ _ _ _ _ _ _ hb _ _ _ _ _,b,h=>by simp only[AV.men,qPf] at h;rw[h];exact hb
 | _,_,.nils,b,h=>by simp[AV.men] at h
 | _,_,.imm _ _ _ _,b,h=>by simp[AV.men] at h
 | _,_,.full _ _ _ _ _,b,h=>by simp[AV.men] at h
 | _,_,.vec _ _ _ _ hb _,b,h=>by simp only[AV.men,qPf] at h;rw[h];exact hb
 | _,_,.nilf,b,h=>by simp[AV.men] at h
 | _,_,.fn _ _ _ _ _ h1 h2,b,h=>by
  simp only[AV.men,qPa] at h;exact h.elim (RepL.inB h1 b) (RepL.inB h2 b)
 | _,_,.agg _ _ h1,b,h=>by simp only[AV.men] at h;exact RepL.inB h1 b h
 | _,_,.tuple _ _ h1,b,h=>by simp only[AV.men] at h;exact RepL.inB h1 b h
 | _,_,.bagg _ _ _ _ _ h1 _,b,h=>by simp only[AV.men] at h;exact RepL.inB h1 b h
theorem RepL.inB{X:Ctx}:∀{l:List AV} {vs:List Value},RepL X l vs->∀b,b∈AV.menL l->b<X.h.length
 | _,_,.nil,b,h=>by simp[AV.menL] at h
 | _,_,.cons h1 h2,b,h=>by
  simp only[AV.menL,qPa] at h;exact h.elim (Rep.inB h1 b) (RepL.inB h2 b)
end
theorem RepLL.inB{X:Ctx}:∀{l:List (List AV)} {vs:List (List Value)},RepLL X l vs->∀b,b∈qpT l->b<X.h.length
 | _,_,.nil,b,h=>by simp[qpT] at h
 | _,_,.cons h1 h2,b,h=>by
  simp only[qpT,qPa] at h;exact h.elim (RepL.inB h1 b) (RepLL.inB h2 b)
theorem qG5{b:Nat}:∀{h:List Blk},b∈qf6 h->∃(i:Nat) (k:Blk),h[i]?=some k/\b∈k.menB
 | [],h=>by cases h
 | k::h,hb=>by
  simp only[qf6,qPa] at hb;rcases hb with hb|hb
  ·exact⟨0,k,rfl,hb⟩
  ·obtain⟨i,k',h1,h2⟩:=qG5 hb;exact⟨i+1,k',by simpa using h1,h2⟩
theorem HSim.inB (hs:HSim B X):∀b,b∈qf6 X.h->b<X.h.length:=by
 intro b hb;obtain⟨i,k,h1,h2⟩:=qG5 hb;have:=hs.blk i k h1;cases k with
 | cells cs=>obtain⟨_,_,_,_,_,hr⟩:=this;exact hr.inB b h2
 | big cs _ _ _=>obtain⟨_,_,_,_,_,_,hr,_⟩:=this;exact hr.inB b h2
 | vec _ _ _=>simp[Blk.menB] at h2
 | frz _ _ _=>simp[Blk.menB] at h2
 | dead=>simp[Blk.menB] at h2
theorem qAt (hS:E.specs P)(h:qMf E f=some e):qqP P f e:=by
 unfold qMf at h;cases hf:E.dels.find? fun x=>x.1==f with
 | none=>rw[hf] at h;cases h
 | some x=>
  rw[hf] at h;simp only[qPk,qOL] at h;have h1:x.1=f:=by simpa using qQ0 hf
  have:=hS.dl x (qPG hf);rw[h1,h] at this;exact this
theorem qB1 (_:E.tok P)(_:qqP P f e)(_:HSim B X){vargs:List Value}(_:RepL X args vargs){av:AV}{h':List Blk}(h:(qx0 E X.h e args k).run=some (av,h')) (_:X.h[k]?=some .dead) (_:k∉qf6 X.h) :Calls P f vargs.toArray X.w fun x w'=>∃v X',x=.returned v/\X'.w=w'/\Rep X' av v/\HSim B X'/\X'.h=h'/\Move X X' (qfO k):=by unfold qx0 at h;cases h
theorem qO2 {args:Array Operand}{tys:Array TypeId}(hop:o.op=.call { callee:=.builtin .append,args:=args,argTypes:=tys }) :∃ty cs,execOp a.eval o=builtin .append tys ty cs ((args.toList.map a.eval).toArray):=by
 have hA:args.map a.eval=(args.toList.map a.eval).toArray:=by apply qQ1;simp
 refine⟨o.type,args.map fun|.const _=>true|_=>false,?_⟩;unfold execOp;rw[hop,<-hA];rfl
theorem qrx {xs:List Operand}(h:qql op=some (f,xs)):∃args tys,op=.call { callee:=.value (.func f),args:=args,argTypes:=tys }/\xs=args.toList:=by
 unfold qql at h;split at h
 ·cases h;exact⟨_,_,rfl,rfl⟩
 ·cases h
theorem qHL {args:Array Operand}{tys:Array TypeId}(hop:o.op=.call { callee:=.value (.func f),args:=args,argTypes:=tys })(he:∀args w,(callFunc f args).run P w=.ok (.enter f args) w) {next:Act->World->Prop} {Q:Exit->Act->World->Prop} {K:Value->World->Prop} (hc:Calls P f (args.toList.map a.eval).toArray X.w fun x w'=>∃v,x=.returned v/\K v w')(hq:∀v w',K v w'->next (a.put o.dst v) w'):o.wp P a X.w next Q:=by
 unfold Oper.wp;have hrun:(execOp a.eval o).run P X.w=.ok (.enter f (args.toList.map a.eval).toArray) X.w:=by
  simp only[execOp,hop,resolve,Act.eval,Deferred.ofValue,qOQ,qPh,qOW,invoke];have:(#[]:Array Value)++args.map a.eval++#[]=(args.toList.map a.eval).toArray:=by apply qQ1;simp
  have h2:=he (args.toList.map a.eval).toArray X.w;rw[<-this] at h2;rw[<-this];exact h2
 rw[hrun];refine hc.mono fun x w' ⟨v,e1,e2⟩=>?_;subst e1;exact hq v w' e2
theorem qzj (hE:E.tok P)(hS:E.specs P){callS:List Blk->q8f}(hs:Sim E B X st a){av:AV}{h':List Blk}(h:(q5F E callS st.h (E.opd st.t) o.op s).run=some (av,h')) (hl:qw5 E o.op=true) (h1:s∉qf6 st.h) (h2:s∉AV.menL st.t) (h3:s∉qpT st.fs) (n1:st.h.length∉qf6 st.h) (n2:st.h.length∉AV.menL st.t) (n3:st.h.length∉qpT st.fs){next:Act->World->Prop} {Q:Exit->Act->World->Prop} (hq:∀X' v,Sim E B X' { st with h:=h' } a->Rep X' av v->next (a.put o.dst v) X'.w):o.wp P a X.w next Q:=by
 unfold q5F at h;rw[hl] at h;simp only at h;cases hdd:qx4 st.h[s]? with
 | false=>rw[hdd] at h;cases h
 | true=>
  rw[hdd] at h;have hd:=qGx hdd;simp only at h;split at h
  ·
   rename_i t len parts hop;obtain⟨r,k1,k2⟩:=bind_some h;simp only[Tree.run,qOL,qPl] at k2;obtain⟨rfl,rfl⟩:=k2;obtain⟨v0,z⟩:=r;have hvz:v0=.vec st.h.length/\∃e sh l,z=.vec e sh l:=by
    have k1:=k1;rw[hop] at k1;unfold qmy at k1;simp only at k1;split at k1
    ·split at k1
     ·split at k1
      ·split at k1
       ·split at k1
        ·cases k1;exact⟨rfl,_,_,_,rfl⟩
        ·cases k1
       ·cases k1
      ·cases k1
     ·cases k1
    ·cases k1
   obtain⟨rfl,e,sh,l,rfl⟩:=hvz;refine qlp (qpn hE hs (qIz k1)) fun X' v g4 g3 g5=>?_;have s1:Sim E B X' { st with h:=st.h++[.vec e sh l] } a:=hs.ext' g5.2 g4 g5.1;obtain⟨X2,e2,s2,r2⟩:=qDC s1 g3 hd h1 h2 h3 n1 n2 n3;rw[<-e2];exact hq X2 v s2 r2
  ·
   rename_i t hop;unfold qyK at h;split at h
   case h_2=>cases h
   rename_i z hz;split at h
   case h_2=>cases h
   simp only[Tree.run,qOL,qPl] at h;obtain⟨rfl,rfl⟩:=h;exact qyl hE hs hop hz hd h1 h2 h3 hq
  ·
   rename_i args tys hop;obtain⟨ty,cs,hrun⟩:=qO2 (a:=a) hop;have hargs:=q4j hs args.toList;unfold qCP at h;generalize args.toList.map (E.opd st.t)=als at h hargs;generalize args.toList.map a.eval=avs at hrun hargs;split at h
   case h_2=>cases h
   rename_i t t' sa xa htys;by_cases htt:t=t'
   ·subst htt;rw[if_pos rfl] at h;cases hargs with
    | cons hsa hargs=>cases hargs with
     | cons hxa hargs=>
     cases hargs;rename_i vs vx;have hrun':execOp a.eval o=(do pure (.value (<-Builtin.append_ #[t,t] ty #[vs,vx])):Sem Next):=by rw[hrun];obtain⟨tys⟩:=tys;simp only at htys;subst htys;rfl
     unfold qAJ at h;cases htd:(E.ty t).d<;>rw[htd] at h<;>simp only at h<;>first|(cases h;done)|skip
     rename_i e es;obtain⟨ht,rfl⟩:=q1i hE htd;split at h
     case h_2=>cases h
     rename_i sh sh' m hsh hro;by_cases hc:(sh.length=P.cellsOf e/\0<P.cellsOf e/\(E.ty e).zero.length=P.cellsOf e)/\Sh.beqL sh sh'=true
     ·rw[if_pos hc] at h;obtain⟨⟨hc1,hc2,hc4⟩,hbq⟩:=hc;obtain rfl:=Sh.beqL_eq _ _ hbq;obtain⟨i,z,he⟩:=qHQ hE hc2 hc4;split at h
      ·
       obtain⟨g1,g2⟩:=brR h;simp only[Tree.run,qOL,qPl] at g2;obtain⟨rfl,rfl⟩:=g2;have hh:(qos (qwC (E.ty e).bytes) X.h e sh .nils xa).run=some (.vec X.h.length,ye X.h xa++[.vec e sh m],none):=by unfold qos;rw[hs.h,hro];simp only;rw[if_pos hbq];simp only[Tree.run,g1]
       have hg:=qhh (ty:=ty) hs.hs ht hc2 hc1 he hsa hxa hh;rw[<-hrun'] at hg;refine qlp hg fun X' v g4 g3 g5=>?_;have hfl:(ye st.h xa).length=st.h.length:=zt _ _;have s1:Sim E B X' { st with h:=ye st.h xa++[.vec e sh m] } a:=hs.ext' g5.2 g4 (by rw[g5.1,hs.h]);rw[hs.h,<-hfl] at g3;have hxs:s∉xa.men:=fun hm=>by
        cases xa<;>simp only[vr] at hro<;>first|(cases hro;done)|(simp[AV.men] at hm;done)|skip
        simp only[AV.men,qPf] at hm;subst hm;rw[hd] at hro;cases hro
       obtain⟨X2,e2,s2,r2⟩:=qDC s1 g3 (by rw[q3q hxs];exact hd) (qoL h1) h2 h3 (by rw[hfl];exact qoL n1) (by rw[hfl];exact n2) (by rw[hfl];exact n3);rw[<-e2];exact hq X2 v s2 r2
      ·
       rename_i b;split at h
       case h_2=>cases h
       rename_i e' sh'' l hbk;by_cases hq2:(Sh.beqL sh sh''=true/\e=e')/\qDT b xa=true
       ·rw[if_pos hq2] at h;obtain⟨⟨hbq2,rfl⟩,hnv⟩:=hq2;obtain rfl:=Sh.beqL_eq _ _ hbq2;obtain⟨g1,g2⟩:=brR h;simp only[Tree.run,qOL,qPl] at g2;obtain⟨rfl,rfl⟩:=g2;have hbx:=qFv hro hnv;have hxs:s∉xa.men:=fun hm=>by
         cases xa<;>simp only[vr] at hro<;>first|(cases hro;done)|(simp[AV.men] at hm;done)|skip
         simp only[AV.men,qPf] at hm;subst hm;rw[hd] at hro;cases hro
        have hbs:b≠s:=fun he=>by rw[he,hd] at hbk;cases hbk
        have hb':X.h[b]?=some (.vec e sh l):=by rw[hs.h];exact hbk
        have hd':X.h[s]?=some .dead:=by rw[hs.h];exact hd
        obtain⟨a1,a2,a3⟩:=qxB hs.hs hb' hd' (by rw[hs.h];exact h1);have hbl:=qq hbk;have hsl:=qq hd;have ag:∀x,(X.alias b s (.vec e sh l)).h[x]?=if x=s then some (.vec e sh l) else if x=b then some .dead else st.h[x]?:=fun x=>by rw[qAp (by rw[hs.h];exact hbl) (by rw[hs.h];exact hsl),hs.h]
        have hxr:vr (X.alias b s (.vec e sh l)).h xa=some (sh,m):=by rw[qBb (h:=st.h) fun c hc=>by have z1:c≠s:=fun e=>hxs (e▸hc);have z2:c≠b:=fun e=>hbx (e▸hc);rw[ag,if_neg z1,if_neg z2]];exact hro
        have hxrep:Rep (X.alias b s (.vec e sh l)) xa vx:=by
         have:=hxa.ren a2.toMove0
         rwa [AV.ren_void xa hxs] at this
        have hfin:(ye (X.alias b s (.vec e sh l)).h xa).set s (.vec e sh (zE l m))=((ye st.h xa).set b .dead).set s (.vec e sh (zE l m)):=by
         apply qPC;intro x;by_cases x1:x=s
         ·subst x1;rw[qOZ (by rw[zt];simp[Ctx.alias,hs.h];exact hsl),qOZ (by simp[zt];exact hsl)]
         ·rw[qOO (fun e=>x1 e.symm),qOO (fun e=>x1 e.symm)];by_cases x2:x=b
          ·subst x2;rw[qOZ (by rw[zt];exact hbl),q3q hbx,ag,if_neg x1,if_pos rfl]
          ·rw[qOO (fun e=>x2 e.symm)];cases xa<;>first|(show (X.alias b s (.vec e sh l)).h[x]?=st.h[x]?;rw[ag,if_neg x1,if_neg x2];done)|skip
           rename_i b';have y1:b'≠s:=fun e=>hxs (by simp[AV.men,e]);have y2:b'≠b:=fun e=>hbx (by simp[AV.men,e]);have y3:=ag b';rw[if_neg y1,if_neg y2] at y3;unfold ye zF;simp only[y3];cases hk:st.h[b']? with
           | none=>simp only;rw[ag,if_neg x1,if_neg x2]
           | some k=>
            cases k<;>simp only<;>first|(rw[ag,if_neg x1,if_neg x2];done)|skip
            by_cases x3:x=b'
            ·subst x3;rw[qOZ (by simp[Ctx.alias,hs.h];exact qq hk),qOZ (qq hk)]
            ·rw[qOO (fun e=>x3 e.symm),qOO (fun e=>x3 e.symm),ag,if_neg x1,if_neg x2]
        have hh:(qos (qwC (E.ty e).bytes) (X.alias b s (.vec e sh l)).h e sh (.vec s) xa).run=some (.vec s,(ye (X.alias b s (.vec e sh l)).h xa).set s (.vec e sh (zE l m)),some s):=by
         unfold qos;rw[hxr];simp only;rw[if_pos hbq,ag,if_pos rfl];simp only;rw[if_pos ⟨hbq,trivial⟩];unfold qGO;cases xa<;>simp only[ye]<;>first|(simp only[Tree.run,g1];done)|skip
         rename_i b';rw[if_neg (fun e=>hxs (by simp[AV.men,<-e]))];simp only[Tree.run,g1]
        have hg:=qhh (ty:=ty) a1 ht hc2 hc1 he (a3 _ hsa) hxrep hh;rw[<-hrun'] at hg;have hg':qL P B (X.alias b s (.vec e sh l)) (execOp a.eval o) (.vec s,(ye (X.alias b s (.vec e sh l)).h xa).set s (.vec e sh (zE l m)),some s):=hg;have s0:=hs.moved a1 a2 h2 h3;have hw:(X.alias b s (.vec e sh l)).w=X.w:=rfl;rw[<-hw];refine qlp hg' fun X' v g4 g3 g5=>?_;obtain⟨g5,g6⟩:=g5;simp only at g5 g6;rw[hfin,qJX (qok rfl (qok rfl (qoL h1)))] at g5;have s1:=s0.moved g4 g6 h2 h3;have:({ ({ st with h:=(X.alias b s (.vec e sh l)).h }:St) with h:=X'.h }:St)={ st with h:=((ye st.h xa).set b .dead).set s (.vec e sh (zE l m)) }:=by rw[g5]
        rw[this] at s1;exact hq X' v s1 g3
       ·rw[if_neg hq2] at h;cases h
      ·
       rename_i sh'' l;split at h
       case isFalse=>cases h
       rename_i hbq2;obtain⟨g0,h⟩:=brR h;obtain⟨g1,g2⟩:=brR h;simp only[Tree.run,qOL,qPl] at g2;obtain⟨rfl,rfl⟩:=g2;have hh:(qos (qwC (E.ty e).bytes) X.h e sh (.full sh'' l) xa).run=some (.vec X.h.length,ye X.h xa++[.vec e sh (zE l m)],none):=by unfold qos;rw[hs.h,hro];simp only;rw[if_pos hbq,if_pos hbq2];simp only[Tree.run,g0,g1]
       have hg:=qhh (ty:=ty) hs.hs ht hc2 hc1 he hsa hxa hh;rw[<-hrun'] at hg;refine qlp hg fun X' v g4 g3 g5=>?_;have hfl:(ye st.h xa).length=st.h.length:=zt _ _;have s1:Sim E B X' { st with h:=ye st.h xa++[.vec e sh (zE l m)] } a:=hs.ext' g5.2 g4 (by rw[g5.1,hs.h]);rw[hs.h,<-hfl] at g3;have hxs:s∉xa.men:=fun hm=>by
        cases xa<;>simp only[vr] at hro<;>first|(cases hro;done)|(simp[AV.men] at hm;done)|skip
        simp only[AV.men,qPf] at hm;subst hm;rw[hd] at hro;cases hro
       obtain⟨X2,e2,s2,r2⟩:=qDC s1 g3 (by rw[q3q hxs];exact hd) (qoL h1) h2 h3 (by rw[hfl];exact qoL n1) (by rw[hfl];exact n2) (by rw[hfl];exact n3);rw[<-e2];exact hq X2 v s2 r2
      ·cases h
     ·rw[if_neg hc] at h;cases h
   ·rw[if_neg htt] at h;cases h
  ·
   rename_i _ _ hno;clear hno;unfold qzz at h;split at h
   case h_2=>cases h
   rename_i f xs hcf;obtain⟨args,tys,hop,rfl⟩:=qrx hcf;have hargs:=q4j hs args.toList;split at h
   ·rename_i e hdf;have hD:=qAt hS hdf;rw[<-hs.h] at h hd h1;refine qHL hop hD.1 (K:=fun v w'=>∃X',X'.w=w'/\Rep X' av v/\HSim B X'/\X'.h=h'/\Move X X' (qfO s)) ((qB1 hE hD hs.hs hargs h hd h1).mono fun x w' ⟨v,X',e0,e1,e2,e3,e4,e5⟩=>⟨v,e0,X',e1,e2,e3,e4,e5⟩) fun v w' ⟨X',e1,e2,e3,e4,e5⟩=>?_;subst e1;have:=hs.moved e3 e5 h2 h3;rw[e4] at this;exact hq X' v this e2
   ·unfold qIA at h;split at h
    case h_2=>cases h
    rename_i G hf;split at h
    case h_2=>cases h
    rename_i hme;obtain⟨r,k1,k2⟩:=bind_some h;split at k2
    case h_2=>cases k2
    rename_i e sh l;simp only[Tree.run,qOL,qPl] at k2;obtain⟨rfl,rfl⟩:=k2;have hG:=hS.sp G (qPG hf);have hfe:G.1=f:=by simpa using qQ0 hf
    rw[hfe] at hG;generalize args.toList.map (E.opd st.t)=azz at *;have hmen:AV.menL (AV.lendL (qH st.h (azz.flatMap zT)) azz)=[]:=by simpa using hme
    have hcs:(q1s G.2 azz st).run=some (.vec (qH st.h (azz.flatMap zT)).length,{ st with h:=qH st.h (azz.flatMap zT)++[.vec e sh l] }):=by
     unfold q1s;have hpr:vk st.h azz=qH st.h (azz.flatMap zT):=by unfold vk;simp only[hmen,q93,qH,qe2]
     simp only[hpr,hmen,qmT,q6i];rw[AV.renL_of_men _ _ hmen,Tree.run_bind,k1];simp only[qPd,q19,qPu,List.drop_zero,qPS,List.map_nil];rfl
    have hfl:=jU (azz.flatMap zT) st.h;refine qHL hop hG.1 (K:=fun v w'=>∃X',X'.w=w'/\Rep X' (.vec (qH st.h (azz.flatMap zT)).length) v/\Sim E B X' { st with h:=qH st.h (azz.flatMap zT)++[.vec e sh l] } a) ((q9d hG hs hargs hcs).mono fun x w' ⟨v,X',e1,e2,e3,e4⟩=>⟨v,e1,X',e2,e3,e4⟩) fun v w' ⟨X',e1,e2,e3⟩=>?_;subst e1;obtain⟨X2,e4,s2,r2⟩:=qDC e3 e2 (qrZ _ hd) (qkG _ h1) h2 h3 (by rw[hfl];exact qkG _ n1) (by rw[hfl];exact n2) (by rw[hfl];exact n3);rw[<-e4];exact hq X2 v s2 r2
def qgd(w:List Nat)(k h:List Blk):List Blk:=h.mapIdx fun b x=>if b∈w then k.getD b .dead else x
theorem qFH (w:List Nat)(k h:List Blk):(qgd w k h).length=h.length:=by simp[qgd]
theorem qli {w:List Nat}{k h:List Blk}(hb:b∉w):(qgd w k h)[b]?=h[b]?:=by
 unfold qgd;rw[List.getElem?_mapIdx];cases h[b]? with
 | none=>rfl
 | some x=>simp[hb]
theorem qkd {w:List Nat}{k h:List Blk}(hb:b∈w)(hk:k.length=h.length):(qgd w k h)[b]?=k[b]?:=by
 unfold qgd;rw[List.getElem?_mapIdx];rcases qOT b h.length with hl|hl
 ·rw[qOS hl,qOS (hk▸hl)];simp[hb,qOS (hk▸hl)]
 ·rw[qP7 hl,qP7 (by omega)];rfl
theorem q2K {w:List Nat}{k h k':List Blk}(hk:k.length=h.length)(h1:∀b,b∈w->k'[b]?=k[b]?)(h2:∀b,b∉w->k'[b]?=h[b]?):k'=qgd w k h:=by
 apply qPC;intro b;by_cases hb:b∈w
 ·rw[h1 b hb,qkd hb hk]
 ·rw[h2 b hb,qli hb]
theorem qy6 {callS:List Blk->q8f}{f g:Operand->AV}(hfg:∀x∈op.operands.toList,f x=g x):q5F E callS h f op k=q5F E callS h g op k:=by
 unfold q5F;cases hl:qw5 E op with
 | false=>simp only;rw[qyw hfg,(qvv hfg).1,(qvv hfg).2]
 | true=>
  simp only;cases qx4 h[k]? with
  | false=>rfl
  | true=>
   simp only;split
   ·rw[qA4 hfg]
   ·rfl
   ·rename_i args tys;have:args.toList.map f=args.toList.map g:=qPV fun y hy=>hfg y (by simpa[Op.operands,Call.operands] using hy);rw[this]
   ·unfold qzz;cases hc:qql op with
    | none=>rfl
    | some q=>
     obtain⟨fn,xs⟩:=q;obtain⟨args,tys,rfl,rfl⟩:=qrx hc;have:args.toList.map f=args.toList.map g:=qPV fun y hy=>hfg y (by simp[Op.operands,Call.operands];exact .inr (by simpa using hy));simp only[this]
theorem qBE {h h':List Blk}{ev:Operand->AV}{t:TypeId}{len:Nat}{ps:Array (Nat×Operand)}(hl:h'.length=h.length):qmy E h' ev (.buildSlice t len ps)=qmy E h ev (.buildSlice t len ps):=by
 unfold qmy;simp only;split
 ·split
  ·split
   ·split
    ·rename_i hc;rw[quh (h':=h) _ _ hc.2,hl]
    ·rfl
   ·rfl
  ·rfl
 ·rfl
theorem qG7 {h h':List Blk}{x:AV}{c:Nat}(H:∀b,b∈x.men->h'[b]?=h[b]?)(hc:h'[c]?=h[c]?)(hl:h'.length=h.length):(ye h' x)[c]?=(ye h x)[c]?:=by
 cases x<;>first|exact hc|skip
 rename_i b;have hb:=H b (by simp[AV.men]);show (zF h' b)[c]?=(zF h b)[c]?;unfold zF;rw[hb];split
 ·rename_i e sh l hv;by_cases hcb:c=b
  ·subst hcb;rw[qOZ (by rw[hl];exact qq hv),qOZ (qq hv)]
  ·rw[qOO (fun e=>hcb e.symm),qOO (fun e=>hcb e.symm)];exact hc
 ·exact hc
theorem qAz {h h':List Blk}{t:TypeId}{s x u:AV}{r:List Blk}{R:List Nat}(hR:∀b,(b=k\/b∈s.men\/b∈x.men)->b∈R)(H:∀b,b∈R->h'[b]?=h[b]?)(hl:h'.length=h.length)(hr:(qAJ E h t s x k).run=some (u,r)):r.length=h.length/\(∀b,b∉R->r[b]?=h[b]?)/\∃r',(qAJ E h' t s x k).run=some (u,r')/\r'.length=h.length/\(∀b,b∉R->r'[b]?=h'[b]?)/\(∀b,b∈R->r'[b]?=r[b]?):=by
 have hk:∀b,b∉R->b≠k:=fun b hb e=>hb (hR b (.inl e));have hx:∀b,b∉R->b∉x.men:=fun b hb e=>hb (hR b (.inr (.inr e)));have hro:vr h' x=vr h x:=qBb fun b hb=>H b (hR b (.inr (.inr hb)));have hfa:∀c,c∈R->(ye h' x)[c]?=(ye h x)[c]?:=fun c hc=>qG7 (fun b hb=>H b (hR b (.inr (.inr hb)))) (H c hc) hl;unfold qAJ at hr ⊢;cases htd:(E.ty t).d<;>rw[htd] at hr<;>simp only at hr ⊢<;>first|(cases hr;done)|skip
 rename_i e es;rw[hro];split at hr
 case h_2=>cases hr
 rename_i sh sh' m hsh hrw;split at hr
 case isFalse=>cases hr
 rename_i hc;split at hr
 ·
  obtain⟨g1,g2⟩:=brR hr;simp only[Tree.run,qOL,qPl] at g2;obtain⟨rfl,rfl⟩:=g2;refine⟨by simp[zt],fun b hb=>?_,(ye h' x).set k (.vec e sh m),?_,by simp[zt,hl],fun b hb=>?_,fun b hb=>?_⟩
  ·rw[qOO (fun e=>hk b hb e.symm),q3q (hx b hb)]
  ·simp only[if_pos hc,Tree.run,g1]
  ·rw[qOO (fun e=>hk b hb e.symm),q3q (hx b hb)]
  ·exact qkO (by simp[zt,hl]) fun _=>hfa b hb
 ·rename_i b0;split at hr
  case h_2=>cases hr
  rename_i e' sh'' l hbk;split at hr
  case isFalse=>cases hr
  rename_i hq;obtain⟨g1,g2⟩:=brR hr;simp only[Tree.run,qOL,qPl] at g2;obtain⟨rfl,rfl⟩:=g2;have hb0:b0∈R:=hR b0 (.inr (.inl (by simp[AV.men])));have hs:∀b,b∉R->b≠b0:=fun b hb e=>hb (e▸hb0);refine⟨by simp[zt],fun b hb=>?_,((ye h' x).set b0 .dead).set k (.vec e sh (zE l m)),?_,by simp[zt,hl],fun b hb=>?_,fun b hb=>?_⟩
  ·rw[qOO (fun e=>hk b hb e.symm),qOO (fun e=>hs b hb e.symm),q3q (hx b hb)]
  ·simp only[if_pos hc,H b0 hb0,hbk,if_pos hq,Tree.run,g1]
  ·rw[qOO (fun e=>hk b hb e.symm),qOO (fun e=>hs b hb e.symm),q3q (hx b hb)]
  ·exact qkO (by simp[zt,hl]) fun _=>qkO (by simp[zt,hl]) fun _=>hfa b hb
 ·
  rename_i sh'' l;split at hr
  case isFalse=>cases hr
  rename_i hq;obtain⟨g0,hr⟩:=brR hr;obtain⟨g1,g2⟩:=brR hr;simp only[Tree.run,qOL,qPl] at g2;obtain⟨rfl,rfl⟩:=g2;refine⟨by simp[zt],fun b hb=>?_,(ye h' x).set k (.vec e sh (zE l m)),?_,by simp[zt,hl],fun b hb=>?_,fun b hb=>?_⟩
  ·rw[qOO (fun e=>hk b hb e.symm),q3q (hx b hb)]
  ·simp only[if_pos hc,if_pos hq,Tree.run,g0,g1]
  ·rw[qOO (fun e=>hk b hb e.symm),q3q (hx b hb)]
  ·exact qkO (by simp[zt,hl]) fun _=>hfa b hb
 ·cases hr
theorem qtM (l m:List AV):AV.menL (l++m)=AV.menL l++AV.menL m:=by
 induction l with
 | nil=>rfl
 | cons a l ih=>simp only[qQb,AV.menL,ih,qPj]
theorem qAe {h h':List Blk}{u:AV}{r:List Blk}{R:List Nat}(_:∀b,(b=k\/b∈AV.menL args)->b∈R)(_:∀b,b∈R->h'[b]?=h[b]?)(_:h'.length=h.length)(hr:(qx0 E h e args k).run=some (u,r)):r.length=h.length/\(∀b,b∉R->r[b]?=h[b]?)/\∃r',(qx0 E h' e args k).run=some (u,r')/\(∀b,b∉R->r'[b]?=h'[b]?)/\(∀b,b∈R->r'[b]?=r[b]?):=by unfold qx0 at hr;cases hr
theorem qJd {h h':List Blk}{ev:Operand->AV}{R:List Nat}(hR:qMg E ev op=some R)(H:∀b,b∈R->h'[b]?=h[b]?):qp0 E h' ev op=qp0 E h ev op:=by
 unfold qp0;unfold qMg at hR;cases hv:qk9 op with
 | false=>rfl
 | true=>
  rw[hv] at hR;simp only at hR ⊢;cases hc:jt ev op with
  | none=>rfl
  | some q=>
   obtain⟨f,args⟩:=q;rw[hc] at hR;simp only at hR ⊢;cases hs:qjt E f with
   | none=>rfl
   | some G=>
    rw[hs] at hR;simp only[qOL] at hR ⊢;subst hR;rw[q1W args H];have:(args.flatMap zT).all (qnD h')=(args.flatMap zT).all (qnD h):=qBA fun b hb=>by unfold qnD;rw[H b (qyy hb)]
    rw[this]
theorem qyR {callS:List Blk->q8f}(hmo:q6s E callS){h h':List Blk}{ev:Operand->AV}{u:AV}{r:List Blk}{R:List Nat}(hR:(vM E h ev op k u r).r=some R)(H:∀b,b∈R->h'[b]?=h[b]?) (hl:h'.length=h.length) (hr:(q5F E callS h ev op k).run=some (u,r)) :r.length=h.length/\(∀b,b∉(vM E h ev op k u r).w->r[b]?=h[b]?)/\(q5F E callS h' ev op k).run=some (u,qgd (vM E h ev op k u r).w r h'):=by
 unfold q5F vM at *;cases hloc:qw5 E op with
 | false=>
  rw[hloc] at hr hR;simp only at hr hR ⊢;cases heff:qp0 E h ev op with
  | true=>
   rw[heff] at hr hR;simp only[qOL] at hr hR ⊢;subst hR;obtain⟨q,k1,k2⟩:=bind_some hr;split at k2
   case h_2=>cases k2
   rename_i hbq;cases k2;have hg:=qPM hbq;obtain⟨g',q1,q2,q3,q4⟩:=qCb k1 hl H hg;have heff':qp0 E h' ev op=true:=qJE heff H;refine⟨hg,fun b hb=>?_,?_⟩
   ·rcases qOT b h.length with hlt|hge
    ·exact qtQ k1 hlt hb
    ·rw[qP7 hge,qP7 (by simp only at hg;omega)]
   ·rw[heff'];simp only;rw[Tree.run_bind,q1];simp only[qPd];rw[show Nat.beq g'.length h'.length=true from by rw[q2];exact Nat.beq_refl _];simp only[Tree.run];rw[<-q2K (k':=g') (by simp only at hg;omega) q3 q4]
  | false=>
   rw[heff] at hr hR;simp only at hr hR ⊢;obtain⟨v,k1,k2⟩:=bind_some hr;simp only[Tree.run,qOL,qPl] at k2;obtain⟨rfl,rfl⟩:=k2;refine⟨rfl,fun _ _=>rfl,?_⟩;rw[qJd hR H,heff];simp only;rw[Tree.run_bind,qAd hmo hR H k1];simp only[qPd,Tree.run];rw[<-q2K (k':=h') hl.symm (fun b hb=>by cases hb) (fun _ _=>rfl)]
 | true=>
  rw[hloc] at hr hR;simp only[qOL] at hr hR ⊢;subst hR;have hk:=H k qP8;cases hdd:qx4 h[k]? with
  | false=>rw[hdd] at hr;cases hr
  | true=>
   rw[hdd] at hr;rw[hk,hdd];simp only at hr ⊢;split at hr
   ·rename_i t len parts;obtain⟨q,k1,k2⟩:=bind_some hr;simp only[Tree.run,qOL,qPl] at k2;obtain⟨rfl,rfl⟩:=k2;refine⟨by simp,fun b hb=>?_,?_⟩
    ·simp only[qP5,not_or] at hb;rw[qOO (fun e=>hb.1 e.symm)]
    ·rw[qBE hl,Tree.run_bind,k1];simp only[qPd,Tree.run];rw[<-q2K (k':=h'.set k q.2) (by simp[hl]) (fun b hb=>qkO hl fun _=>H b hb) (fun b hb=>by simp only[qP5,not_or] at hb;rw[qOO (fun e=>hb.1 e.symm)])]
   ·rename_i t;unfold qyK at hr ⊢;split at hr
    case h_2=>cases hr
    split at hr
    case h_2=>cases hr
    simp only[Tree.run,qOL,qPl] at hr;obtain⟨rfl,rfl⟩:=hr;rename_i _ z hz _ hzm;refine⟨by simp,fun b hb=>?_,?_⟩
    ·simp only[qP5,not_or] at hb;rw[qOO (fun e=>hb.1 e.symm)]
    ·simp only[Tree.run];rw[<-q2K (k':=h'.set k z) (by simp[hl]) (fun b hb=>qkO hl fun _=>H b hb) (fun b hb=>by simp only[qP5,not_or] at hb;rw[qOO (fun e=>hb.1 e.symm)])]
   ·rename_i args tys;have hmen:qwq ev (.call { callee:=.builtin .append,args:=args,argTypes:=tys })=AV.menL (args.toList.map ev):=by unfold qwq jt;simp[Op.operands,Call.operands]
    rw[hmen] at H ⊢;unfold qCP at hr ⊢;generalize args.toList.map ev=als at *;split at hr
    case h_2=>cases hr
    rename_i t t' sa xa htys;split at hr
    case isFalse=>cases hr
    rename_i htt;have hR':∀b,(b=k\/b∈sa.men\/b∈xa.men)->b∈k::AV.menL [sa,xa]:=by intro b hb;simp only[AV.menL,qPL,qP5,qPa];exact hb
    obtain⟨q1,q2,r',q3,q4,q5,q6⟩:=qAz hR' H hl hr;refine⟨q1,q2,?_⟩;simp only[if_pos htt];rw[q3,<-q2K (k':=r') (by rw[q1,hl]) q6 q5]
   ·unfold qzz at hr ⊢;cases hc:qql op with
    | none=>rw[hc] at hr;cases hr
    | some q=>
    obtain⟨fn,xs⟩:=q;rw[hc] at hr;obtain⟨args,tys,rfl,rfl⟩:=qrx hc;have hmen:qwq ev (.call { callee:=.value (.func fn),args:=args,argTypes:=tys })=AV.menL (args.toList.map ev)\/AV.menL (args.toList.map ev) ⊆ qwq ev (.call { callee:=.value (.func fn),args:=args,argTypes:=tys }):=by
     right;unfold qwq;cases hco:jt ev (.call { callee:=.value (.func fn),args:=args,argTypes:=tys }) with
     | none=>
      simp only[Op.operands,Call.operands,qQN,qP9];intro b hb;rw[qtM];exact qPt _ hb
     | some q=>
      obtain⟨g,azz⟩:=q;unfold jt at hco;simp only at hco;split at hco
      ·cases hco;intro b hb;simp only[qtM];exact qPF _ (qPt _ hb)
      ·cases hco
    have hsub:∀b,b∈AV.menL (args.toList.map ev)->b∈k::qwq ev (.call { callee:=.value (.func fn),args:=args,argTypes:=tys }):=by
     intro b hb;rcases hmen with e|e
     ·rw[e];exact qPc _ hb
     ·exact qPc _ (e hb)
    generalize qwq ev (.call { callee:=.value (.func fn),args:=args,argTypes:=tys })=M at *;simp only at hr ⊢;split at hr
    ·rename_i e hde;obtain⟨q1,q2,r',q3,q4,q5⟩:=qAe (R:=k::M) (fun b hb=>hb.elim (fun e=>e▸qP8) (hsub b)) H hl hr;refine⟨q1,q2,?_⟩;rw[q3,<-q2K (k':=r') (by rw[q1,hl]) q5 q4]
    ·unfold qIA at hr ⊢;split at hr
     case h_2=>cases hr
     split at hr
     case h_2=>cases hr
     rename_i hme;obtain⟨q,k1,k2⟩:=bind_some hr;split at k2
     case h_2=>cases k2
     rename_i e sh l;simp only[Tree.run,qOL,qPl] at k2;obtain⟨rfl,rfl⟩:=k2;have hfr:∀c,c∈k::M->(qH h' ((args.toList.map ev).flatMap zT))[c]?=(qH h ((args.toList.map ev).flatMap zT))[c]?:=fun c hc=>qlk _ _ _ hl (H c hc);have hle:=q1W (args.toList.map ev) fun b hb=>hfr b (hsub b hb);have out:∀(g:List Blk) (c:Nat),c∉k::M->((qH g ((args.toList.map ev).flatMap zT)).set k (.vec e sh l))[c]?=g[c]?:=fun g c hc'=>by rw[qOO (fun e'=>hc' (by rw[<-e'];exact qP8)),qhJ _ _ fun hm=>hc' (hsub c (qyy hm))]
     refine⟨by simp[jU],out h,?_⟩;rw[hle,hme];simp only;rw[Tree.run_bind,k1];simp only[qPd,Tree.run];rw[<-q2K (k':=(qH h' ((args.toList.map ev).flatMap zT)).set k (.vec e sh l)) (by simp[jU,hl]) (fun c hc'=>qkO (by simp[jU,hl]) fun _=>hfr c hc') (out h')]
def inR(r:Option (List Nat))(b:Nat):Prop:=∀R,r=some R->b∈R
theorem qAf {callS:List Blk->q8f}{h g:List Blk}{ev:Operand->AV}{u:AV}(hR:(vM E h ev op k u g).r=none)(hr:(q5F E callS h ev op k).run=some (u,g)):(vM E h ev op k u g).w=[]/\g=h:=by
 unfold vM at *;unfold q5F at hr;cases hl:qw5 E op with
 | true=>rw[hl] at hR;cases hR
 | false=>
  rw[hl] at hR hr;simp only at hR hr ⊢;cases he:qp0 E h ev op with
  | true=>rw[he] at hR;cases hR
  | false=>
   rw[he] at hr;obtain⟨v,k1,k2⟩:=bind_some hr;cases k2;exact⟨rfl,rfl⟩
theorem qmv {callS:List Blk->q8f}(hmo:q6s E callS){h h':List Blk}{ev:Operand->AV}{u:AV}{r:List Blk}(H:∀b,inR (vM E h ev op k u r).r b->h'[b]?=h[b]?) (hl:h'.length=h.length) (hr:(q5F E callS h ev op k).run=some (u,r)) :r.length=h.length/\(∀b,b∉(vM E h ev op k u r).w->r[b]?=h[b]?)/\(q5F E callS h' ev op k).run=some (u,qgd (vM E h ev op k u r).w r h'):=by
 cases hR:(vM E h ev op k u r).r with
 | some R=>exact qyR hmo hR (fun b hb=>H b fun R' e=>by rw[hR] at e;cases e;exact hb) hl hr
 | none=>
  have e:h'=h:=qPC fun b=>H b fun R e=>by rw[hR] at e;cases e
  subst e;obtain⟨hw,hg⟩:=qAf hR hr;rw[hw];have:qgd [] r h'=r:=by rw[hg];exact(q2K (k':=h') rfl (fun _ hb=>by cases hb) fun _ _=>rfl).symm
  rw[this];exact⟨by rw[hg],fun b _=>by rw[hg],hr⟩
theorem qAg (_:E.tok P)(_:qqP P f e)(_:Sim E B X st a){vargs:List Value}(_:RepL X args vargs){r:AV×St}(h:(qGH E e args st).run=some r):Calls P f vargs.toArray X.w fun x w'=>∃v X',x=.returned v/\X'.w=w'/\Rep X' r.1 v/\Sim E B X' r.2 a:=by unfold qGH at h;cases h
end Go.Eng

namespace Go.Eng
variable {E:Env}{k:Nat}{op:Op}
inductive LocOK (E:Env) (callS:List Blk->q8f) (all:Array Oper) (c:Nat) (i:Nat) (o:Oper) (T:List AV) (v:AV) (h h':List Blk) (d:Option LDesc):Prop
 | out (h1:q6Q all o T=some false) (h2:v=.skip) (h3:h'=h) (h4:d=none)
 | op (u:AV) (h1:q6Q all o T=some true) (h2:(q5F E callS h (E.opd T) o.op c).run=some (u,h')) (h3:v=qCv all i u) (h4:d=some (vM E h (E.opd T) o.op c u h'))
   (h5:∀b,b∈(vM E h (E.opd T) o.op c u h').v->b<h.length)
theorem qFT {h g:List Blk}{ev:Operand->AV}{u:AV}{b:Nat}(hb:b∈u.men):b∈(vM E h ev op k u g).v:=by
 unfold vM;split
 ·exact qPF _ hb
 ·split
  ·exact qPF _ hb
  ·exact hb
theorem qI0 {h g:List Blk}{ev:Operand->AV}{u:AV}{b c:Nat}{z:Blk}(hb:b∈(vM E h ev op k u g).w)(hz:g[b]?=some z)(hc:c∈z.menB):c∈(vM E h ev op k u g).v:=by
 unfold vM at *;split at hb
 ·exact qPt _ (qpR hz hc _ hb)
 ·split at hb
  ·exact qPt _ (qpR hz hc _ hb)
  ·cases hb
theorem qzH {h g:List Blk}{ev:Operand->AV}{u:AV}(hl:qw5 E op=true):(vM E h ev op k u g).s=some k:=by unfold vM;rw[hl]
theorem qxS{E:Env}{callS:List Blk->q8f}{all:Array Oper}{anc:List Nat}:∀(l:List Oper) (k c:Nat) (ds:List (Nat×LDesc)) (st st':St),
  (qCl E callS all anc k l c ds st).run=some st' ->
  ∃(V:Nat->AV) (H:Nat->List Blk) (D:Nat->Option LDesc) (S:Nat->Nat),(∀j,c<=S (k+j))/\H k=st.h/\st'={ st with t:=qgg V k l st.t,h:=H (k+l.length) } /\
   (∀j o,l[j]?=some o->LocOK E callS all (S (k+j)) (k+j) o (qgg V k (l.take j) st.t) (V (k+j)) (H (k+j)) (H (k+j+1)) (D (k+j))) /\
   (∀j d,j<l.length->D (k+j)=some d->∀x,x∈ds->qkI anc x (k+j) d=true) /\
   (∀j j' d d',j<j'->j'<l.length->D (k+j)=some d->D (k+j')=some d'->qkI anc (k+j,d) (k+j') d'=true)
 | [],k,c,ds,st,st',h=>by
  simp only[qCl,Tree.run,qOL] at h;subst h;exact⟨fun _=>.undef,fun _=>st.h,fun _=>none,fun _=>c,fun _=>qON _,rfl,rfl,fun j o hj=>by simp at hj,fun j d hj=>by simp at hj,fun j j' _ _ _ hj=>by simp at hj⟩
 | o::rest,k,c,ds,st,st',h=>by
  have fin:∀(v:AV) (h':List Blk) (d:Option LDesc) (c':Nat) (ds':List (Nat×LDesc)),c<=c'->LocOK E callS all c k o st.t v st.h h' d->(∀d0,d=some d0->∀x,x∈ds->qkI anc x k d0=true)->(∀x,x∈ds->x∈ds')->(∀d0,d=some d0->(k,d0)∈ds') ->
    (qCl E callS all anc (k+1) rest c' ds' { st with t:=qmF st.t o.dst v,h:=h' }).run=some st' ->
    ∃(V:Nat->AV) (H:Nat->List Blk) (D:Nat->Option LDesc) (S:Nat->Nat),(∀j,c<=S (k+j))/\H k=st.h/\st'={ st with t:=qgg V k (o::rest) st.t,h:=H (k+(o::rest).length) } /\
   (∀j o',(o::rest)[j]?=some o'->LocOK E callS all (S (k+j)) (k+j) o' (qgg V k ((o::rest).take j) st.t) (V (k+j)) (H (k+j)) (H (k+j+1)) (D (k+j))) /\
   (∀j d,j<(o::rest).length->D (k+j)=some d->∀x,x∈ds->qkI anc x (k+j) d=true) /\
   (∀j j' d d',j<j'->j'<(o::rest).length->D (k+j)=some d->D (k+j')=some d'->qkI anc (k+j,d) (k+j') d'=true):=by
   intro v h' d c' ds' hcc hmx hcr hds hd hr;obtain⟨V,H,D,S,e0,e1,e2,e3,e4,e5⟩:=qxS rest (k+1) c' ds' _ st' hr;have hfold:∀(l:List Oper) (t:List AV),qgg (fun j=>if j=k then v else V j) (k+1) l t=qgg V (k+1) l t:=fun l t=>qtT l (k+1) t fun j hj=>if_neg (by omega);refine⟨fun j=>if j=k then v else V j,fun j=>if j=k then st.h else H j,fun j=>if j=k then d else D j,fun j=>if j=k then c else S j,fun j=>?_,by simp,?_,?_,?_,?_⟩
   ·cases j with
    | zero=>simp
    | succ j=>
     have:=e0 j;simp only[show k+(j+1)=k+1+j by omega,show ¬k+1+j=k by omega,if_false];omega
   ·rw[e2];simp only[qgg,if_true,qPg];rw[hfold,if_neg (by omega),show k+(rest.length+1)=k+1+rest.length by omega]
   ·intro j o' hj;cases j with
    | zero=>
     simp only[qQ2,qOL] at hj;subst hj;simp only[qPB,if_true,List.take_zero,qgg];rw[if_neg (by omega),e1];exact hmx
    | succ j=>
     have:=e3 j o' (by simpa using hj);simp only[List.take_succ_cons,qgg,if_true];rw[hfold,show k+(j+1)=k+1+j by omega,if_neg (by omega),if_neg (by omega),if_neg (by omega),if_neg (by omega),if_neg (by omega)];exact this
   ·intro j d0 hj hdj x hx;cases j with
    | zero=>simp only[qPB,if_true] at hdj ⊢;exact hcr d0 hdj x hx
    | succ j=>
     simp only at hdj;rw[show k+(j+1)=k+1+j by omega,if_neg (by omega)] at hdj;have:=e4 j d0 (by simpa using hj) hdj x (hds x hx);rw[show k+(j+1)=k+1+j by omega];exact this
   ·intro j j' d0 d0' hjj hj' hdj hdj';obtain⟨j'',rfl⟩:∃x,j'=x+1:=⟨j'-1,by omega⟩;have hl:j''<rest.length:=by simpa using hj'
    simp only at hdj hdj';rw[show k+(j''+1)=k+1+j'' by omega,if_neg (by omega)] at hdj';rw[show k+(j''+1)=k+1+j'' by omega];cases j with
    | zero=>
     simp only[qPB,if_true] at hdj ⊢;exact e4 j'' d0' hl hdj' _ (hd d0 hdj)
    | succ j=>
     rw[show k+(j+1)=k+1+j by omega,if_neg (by omega)] at hdj;rw[show k+(j+1)=k+1+j by omega];exact e5 j j'' d0 d0' (by omega) hl hdj hdj'
  simp only[qCl] at h;cases hw:q6Q all o st.t with
  | none=>rw[hw] at h;cases h
  | some b=>
   rw[hw] at h;cases b with
   | true=>
    simp only at h;obtain⟨r,h1,h2⟩:=bind_some h;split at h2
    ·rename_i hall;simp only[qP0,qPi] at hall;obtain⟨c2,c3⟩:=hall;obtain⟨s,h3,h4⟩:=bind_some h2;obtain⟨u,h'⟩:=r;obtain rfl:=qI4 (st:={ st with h:=h' }) h3;exact fin _ h' (some (vM E st.h (E.opd st.t) o.op c u h')) _ _ (by split<;>omega) (.op u hw h1 rfl rfl fun b hb=>Nat.blt_eq.mp (c2 b hb)) (fun d0 he x hx=>by cases he;exact c3 x hx) (fun x hx=>qPF _ hx) (fun d0 he=>by cases he;exact qPt _ qP8) h4
    ·cases h2
   | false=>
    simp only at h;exact fin .skip st.h none c ds (qON _) (.out hw rfl rfl rfl) (fun d0 he=>by cases he) (fun x hx=>hx) (fun d0 he=>by cases he) h
section
variable (W:Nat->List Nat) (H:Nat->List Blk) (h0:List Blk)
def hLp(L:Nat->Bool):Nat->List Blk
 | 0=>h0
 | m+1=>if L m=true then qgd (W m) (H (m+1)) (hLp L m) else hLp L m
variable {W H h0}
theorem qd3(L:Nat->Bool):∀m,(hLp W H h0 L m).length=h0.length
 | 0=>rfl
 | m+1=>by simp only[hLp];split<;>simp[qFH,qd3 L m]
theorem qBQ{L:Nat->Bool}{b lo:Nat}:∀m,lo<=m->(∀j,lo<=j->j<m->L j=true->b∉W j)->(hLp W H h0 L m)[b]?=(hLp W H h0 L lo)[b]?
  | 0, h, _ => by have : lo = 0 := by omega
                  rw[this]
  | m+1,h,hj=>by
    rcases qQm h with rfl|h
    · rfl
    · rw[<-qBQ m (by omega) fun j h1 h2=>hj j h1 (by omega)]
      simp only[hLp];split
      · rename_i hl
        exact qli (hj m (by omega) (by omega) hl)
      · rfl
theorem qyq{L L':Nat->Bool}{b:Nat}(hH:∀m,(H m).length=h0.length):∀m,(∀j,j<m->b∈W j->L j=L' j)->(hLp W H h0 L m)[b]?=(hLp W H h0 L' m)[b]?
 | 0,_=>rfl
 | m+1,hj=>by
  have ih:=qyq (L:=L) (L':=L') hH m fun j h1=>hj j (by omega);by_cases hb:b∈W m
  ·have:=hj m (by omega) hb;simp only[hLp];rw[this];split
   ·rw[qkd hb (by rw[qd3,hH]),qkd hb (by rw[qd3,hH])]
   ·exact ih
  ·have out:∀L:Nat->Bool,(hLp W H h0 L (m+1))[b]?=(hLp W H h0 L m)[b]?:=fun L=>by
    simp only[hLp];split
    ·exact qli hb
    ·rfl
   rw[out,out,ih]
theorem que{L L':Nat->Bool}:∀m,(∀j,j<m->L j=L' j)->hLp W H h0 L m=hLp W H h0 L' m
 | 0,_=>rfl
 | m+1,h=>by
  simp only[hLp];rw[h m (qQA m),que m fun j hj=>h j (by omega)]
theorem qIt(hk:∀i,(H (i+1)).length=(H i).length/\∀b,b∉W i->(H (i+1))[b]?=(H i)[b]?)(h1:H 0=h0):∀m,hLp W H h0 (fun _=>true) m=H m
 | 0=>h1.symm
 | m+1=>by
  simp only[hLp,if_true];rw[qIt hk h1 m];exact(q2K (hk m).1 (fun _ _=>rfl) (hk m).2).symm
theorem qIu {L:Nat->Bool}{i m:Nat}(hi:i<m)(hL:L i=false)(hH:∀m,(H m).length=h0.length)(hu:∀j,i<j->j<m->L j=true->∀b,b∈W i->b∉W j) :hLp W H h0 (fun j=>if j=i then true else L j) m=qgd (W i) (H (i+1)) (hLp W H h0 L m):=by
 refine q2K (by rw[hH,qd3]) (fun b hb=>?_) (fun b hb=>?_)
 ·rw[qBQ (lo:=i+1) m (by omega) fun j h1 h2 h3=>hu j (by omega) h2 (by rwa [if_neg (by omega)] at h3) b hb];simp only[hLp,if_true];exact qkd hb (by rw[qd3,hH])
 ·refine qyq hH m fun j _ hbj=>if_neg fun e=>?_;subst e;exact hb hbj
theorem qLF {h:List Blk}{c:Nat}(hb:∀(b:Nat) (k:Blk),h[b]?=some k->c∉k.menB):c∉qf6 h:=by
 induction h with
 | nil=>intro h;cases h
 | cons k h ih=>
  simp only[qf6,qPa,not_or];exact⟨hb 0 k rfl,ih fun b k' hk=>hb (b+1) k' (by simpa using hk)⟩
theorem qGF{L:Nat->Bool}{c:Nat}(hH:∀m,(H m).length=h0.length)(h1:c∉qf6 h0):∀m,(∀j,j<m->L j=true->∀b z,b∈W j->(H (j+1))[b]?=some z->c∉z.menB)->c∉qf6 (hLp W H h0 L m)
 | 0,_=>h1
 | m+1,h2=>by
  have ih:=qGF (L:=L) hH h1 m fun j hj=>h2 j (by omega);simp only[hLp];split
  ·rename_i hL;refine qLF fun b k hk=>?_;by_cases hb:b∈W m
   ·rw[qkd hb (by rw[qd3,hH])] at hk;exact h2 m (qQA m) hL b k hb hk
   ·rw[qli hb] at hk;exact qtg ih hk
  ·exact ih
end
theorem qxm {w:List Nat}{r:Option (List Nat)}(h:qJf w r=true):∀b,b∈w->¬inR r b:=by
 intro b hb hi;cases w with
 | nil=>cases hb
 | cons a w=>
  cases r with
  | none=>cases h
  | some R=>
   simp only[qJf,qPi,qQn,List.contains_eq_mem,decide_eq_false_iff_not] at h;exact h b hb (hi R rfl)
def wOf(D:Nat->Option LDesc)(j:Nat):List Nat:=match D j with
 | some d=>d.w
 | none=>[]
theorem qDH {v:List Nat}(h:qNS (some k) v=false):k∉v:=by simpa[qNS] using h
theorem qMH {h g:List Blk}{ev:Operand->AV}{u:AV}{R:List Nat}(hR:(vM E h ev op k u g).r=some R):∀b,b∈(vM E h ev op k u g).w->b∈R:=by
 unfold vM at *;split at hR
 ·simp only[qOL] at hR;subst hR;exact fun b hb=>hb
 ·split at hR
  ·simp only[qOL] at hR;subst hR;exact fun b hb=>qPt _ hb
  ·intro b hb;cases hb
section
variable {E:Env} {P:Program} {callS:List Blk->q8f} {B:Base} {all:Array Oper} {V:Nat->AV} {T0:List AV} {H:Nat->List Blk} {D:Nat->Option LDesc} {fs:List (List AV)} {pd:Option Ex} {Q:Exit->Act->World->Prop} {n0 m base:Nat} {S:Nat->Nat}
theorem qHo (hE:E.tok P)(hS:E.specs P)(hc:qnJ E P callS)(hmo:q6s E callS)(hd:DrawOk all)(hms:m<=all.size)(hV:∀i o,all[i]?=some o->i<m->LocOK E callS all (S i) i o (TLp (yW all) V T0 (fun _=>true) i) (V i) (H i) (H (i+1)) (D i))(hX:∀i j d d',i<j->j<m->D i=some d->D j=some d'->qkI (qjd all.toList) (i,d) j d'=true)(hcon:∀i,m<=i->H i=H m) (_:∀i,m<=i->D i=none)(hlen:base<=(H 0).length) (hSb:∀i,base<=S i) (hT0:∀c,base<=c->c∉AV.menL T0) (hfs:∀c,base<=c->c∉qpT fs) (hH0:∀c,base<=c->c∉qf6 (H 0))(hq:all.size<=m->∀X a,Sim E B X { t:=TLp (yW all) V T0 (fun _=>true) all.size,fs:=fs,pend:=pd,h:=H m } a->Q .normal a X.w)(hlast:∀i fuel listed X a,i<all.size->m<=i->listed.size=all.size->i∈Region.ready .any all listed->qrK all (fun j=>listed.getD j false)->(∀j,m<=j->j<all.size->listed.getD j false=false)->(∀j,j<m->listed.getD j false=true) ->Sim E B X { t:=TLp (yW all) V T0 (fun j=>listed.getD j false) all.size,fs:=fs,pend:=pd,h:=H m } a ->unl listed all.size<=fuel+1->wpOpIn (q5O B.ro) n0 P all Q i (wpAnyIn (q5O B.ro) n0 P .any all Q fuel (listed.setIfInBounds i true)) a X.w)(hsuf:∀i j,m<=i->i<all.size->j<i->((qjd all.toList).getD i 0).testBit j=true) :∀(fuel:Nat) (listed:Array Bool) (X:Ctx) (a:Act),listed.size=all.size->qrK all (fun j=>listed.getD j false)->(∀i,m<=i->i<all.size->listed.getD i false=false) ->unl listed all.size<=fuel->Sim E B X { t:=TLp (yW all) V T0 (fun j=>listed.getD j false) all.size,fs:=fs,pend:=pd,h:=hLp (wOf D) H (H 0) (fun j=>listed.getD j false) m } a->wpAnyIn (q5O B.ro) n0 P .any all Q fuel listed a X.w:=by
 intro fuel;have step:∀i,(H (i+1)).length=(H i).length/\∀b,b∉wOf D i->(H (i+1))[b]?=(H i)[b]?:=by
  intro i;rcases qOT i m with him|him
  ·have hi:i<all.size:=by omega
   cases hV i _ (qQt hi) him with
   | out h1 h2 h3 h4=>rw[h3];exact⟨rfl,fun _ _=>rfl⟩
   | op u h1 h2 h3 h4 h5=>
    obtain⟨q1,q2,_⟩:=qmv (h':=H i) hmo (fun _ _=>rfl) rfl h2;refine⟨q1,?_⟩;unfold wOf;rw[h4];exact q2
  ·rw[hcon i him,hcon (i+1) (by omega)];exact⟨rfl,fun _ _=>rfl⟩
 have hlenA:∀i,(H i).length=(H 0).length:=by
  intro i;induction i with
  | zero=>rfl
  | succ i ih=>rw[(step i).1,ih]
 have hall:∀i,hLp (wOf D) H (H 0) (fun _=>true) i=H i:=qIt step rfl;have toEnd:∀(listed:Array Bool),(∀j,j<m->listed.getD j false=true)->hLp (wOf D) H (H 0) (fun j=>listed.getD j false) m=H m:=by intro listed h;rw[<-hall m];exact que m h
 have fin:∀(listed:Array Bool) (X:Ctx) (a:Act),listed.size=all.size->(∀i,m<=i->i<all.size->listed.getD i false=false)->Region.ready .any all listed=[] ->
   Sim E B X { t:=TLp (yW all) V T0 (fun j=>listed.getD j false) all.size,fs:=fs,pend:=pd,h:=hLp (wOf D) H (H 0) (fun j=>listed.getD j false) m } a->Q .normal a X.w:=by
  intro listed X a hsz hm hr hs;have hal:=qBp hd hsz hr;rcases qOT m all.size with hlt|hge
  ·have:=hm m (qON _) hlt;rw[hal m hlt] at this;cases this
  ·rw[toEnd listed fun j hj=>hal j (by omega)] at hs;rw[stL (L':=fun _=>true) all.size fun j hj=>hal j hj] at hs;exact hq hge X a hs
 induction fuel with
 | zero=>
  intro listed X a hsz hcl hm hu hs;have hr:Region.ready .any all listed=[]:=by
   apply List.eq_nil_iff_forall_not_mem.2;intro j hj;rw[mem_ready] at hj;obtain⟨h1,o,h2,_⟩:=hj;have hj':=(qOR.1 h2).1;have:=qyJ (listed:=listed) (Nat.le_zero.1 hu) j hj';have hj2:j<listed.size:=by omega
   simp[hj2] at this h1;rw[this] at h1;cases h1
  exact⟨hr,fin listed X a hsz hm hr hs⟩
 | succ fuel ih=>
  intro listed X a hsz hcl hm hu hs;refine⟨fun hr=>fin listed X a hsz hm hr hs,fun i hi=>?_⟩;have hri:=hi;rw[mem_ready] at hi;obtain⟨h1,o,ho,hedge⟩:=hi;have hin:=(qOR.1 ho).1;have hil:i<listed.size:=by omega
  have hLi:listed.getD i false=false:=by simpa[qQ4,hil] using h1
  have hedge':∀e,e∈o.after.toList->Region.binds .any e=true->listed.getD e.on false=true:=fun e he hb=>hedge e (by simpa using he) hb;have hcl':=qqo hsz ho hcl hedge';have before:∀k,k≠i->qMZ (qjd all.toList) i k=true->listed.getD k false=true:=by
   intro k hki hk;have:=qxM hd hcl' i k (by show (listed.setIfInBounds i true).getD i false=true;rw[q1l hil,if_pos rfl]) hk;have h':(listed.setIfInBounds i true).getD k false=true:=this
   rwa [q1l hil,if_neg hki] at h'
  have behind:∀k,qMZ (qjd all.toList) k i=true->listed.getD k false=false:=by
   intro k hk;cases hl:listed.getD k false with
   | false=>rfl
   | true=>
    have:=qxM hd hcl k i hl hk;have h':listed.getD i false=true:=this;rw[hLi] at h';cases h'
  rcases qOT i m with him|him
  ·have hv:=hV i o ho him;have hsame:∀t,t∈qFK all o->(TLp (yW all) V T0 (fun j=>listed.getD j false) all.size)[t]?=(TLp (yW all) V T0 (fun _=>true) i)[t]?:=fun t ht=>
    qLg hd hcl ho (Nat.le_of_lt hin) hLi hedge' ht
   have hopd:∀x,x∈o.op.operands.toList->E.opd (TLp (yW all) V T0 (fun j=>listed.getD j false) all.size) x=E.opd (TLp (yW all) V T0 (fun _=>true) i) x:=fun x hx=>by
    cases x with
    | tmp t=>
     have:=hsame t (qPF _ (List.mem_filterMap.2 ⟨.tmp t,hx,rfl⟩));simp only[Env.opd,qOM];rw[this]
    | const v=>rfl
    | global g=>rfl
    | func f=>rfl
   have hwant:q6Q all o (TLp (yW all) V T0 (fun j=>listed.getD j false) all.size)=q6Q all o (TLp (yW all) V T0 (fun _=>true) i):=by
    unfold q6Q;cases hg:o.guard with
    | none=>rfl
    | some p=>
     obtain⟨j,want⟩:=p;simp only;cases hj:(all[j]?).bind (·.dst) with
     | none=>rfl
     | some d=>
      simp only;rw[hsame d (by simp[qFK,hg,hj])]
   have hun:unl (listed.setIfInBounds i true) all.size<=fuel:=by have:=(qCD hil hLi all.size).2 hin;omega
   have hdi:yW all i=o.dst:=by simp[yW,ho]
   have hnext:∀(X':Ctx) (u:Value),Sim E B X' { t:=TLp (yW all) V T0 (fun j=>listed.getD j false) all.size,fs:=fs,pend:=pd,h:=hLp (wOf D) H (H 0) (fun j=>(listed.setIfInBounds i true).getD j false) m } a->Rep X' (V i) u ->
     wpAnyIn (q5O B.ro) n0 P .any all Q fuel (listed.setIfInBounds i true) (a.put o.dst u) X'.w:=by
    intro X' u hs' hu';refine ih _ X' _ (by simp[hsz]) hcl' ?_ hun ?_
    ·intro k hk1 hk2;rw[q1l hil,if_neg (by omega)];exact hm k hk1 hk2
    ·have hput:=hs'.put hu' o.dst;have hT:TLp (yW all) V T0 (fun j=>(listed.setIfInBounds i true).getD j false) all.size=qmF (TLp (yW all) V T0 (fun j=>listed.getD j false) all.size) o.dst (V i):=by
      rw[<-hdi,<-qLS hin hLi]
      ·exact stL all.size fun j _=>q1l hil
      ·intro k hk hki t ht he;cases hk':all[k]? with
       | none=>simp[yW,hk'] at he
       | some ok=>
        simp only[yW,hk',qPd] at he;rw[hdi] at ht;exact(hd.dst i k o ok ho hk' hki t he).1 ht
     rw[hT];exact hput
   have hLset:hLp (wOf D) H (H 0) (fun j=>(listed.setIfInBounds i true).getD j false) m=hLp (wOf D) H (H 0) (fun j=>if j=i then true else listed.getD j false) m:=que m fun j _=>q1l hil;unfold wpOpIn;rw[ho];simp only;cases hv with
   | out w1 w2 w3 w4=>
    rw[qbl hs.t (hwant.trans w1)];simp only[qPo,if_false];refine⟨fun _ _=>trivial,hnext X _ ?_ (by rw[w2];exact .skip)⟩;rw[hLset,qIu him hLi hlenA (fun j _ _ _ b hb=>by unfold wOf at hb;rw[w4] at hb;cases hb)];have:wOf D i=[]:=by unfold wOf;rw[w4]
    rw[this,<-q2K (k':=hLp (wOf D) H (H 0) (fun j=>listed.getD j false) m) (by rw[hlenA,qd3]) (fun b hb=>by cases hb) (fun _ _=>rfl)];exact hs
   | op u w1 w2 w3 w4 w5=>
    rw[qbl hs.t (hwant.trans w1)];simp only[if_true];have hwi:wOf D i=(vM E (H i) (E.opd (TLp (yW all) V T0 (fun _=>true) i)) o.op (S i) u (H (i+1))).w:=by unfold wOf;rw[w4]
    obtain⟨d0,hd0⟩:∃d0,d0=(vM E (H i) (E.opd (TLp (yW all) V T0 (fun _=>true) i)) o.op (S i) u (H (i+1))):=⟨_,rfl⟩;have wr:∀j b,inR d0.r b->b∈wOf D j->j<m->j≠i->(j<i->qMZ (qjd all.toList) i j=true)/\(i<j->qMZ (qjd all.toList) j i=true):=by
     intro j b hb hbj hjm hji;cases hDj:D j with
     | none=>unfold wOf at hbj;rw[hDj] at hbj;cases hbj
     | some dj=>
      have hbj':b∈dj.w:=by unfold wOf at hbj;rw[hDj] at hbj;exact hbj
      refine⟨fun hlt=>?_,fun hlt=>?_⟩
      ·have:=hX j i dj _ hlt him hDj w4;unfold qkI at this;simp only[qP0,qQc] at this;rcases this.2 with h3|h3
       ·exact h3
       ·rw[<-hd0] at h3;exact absurd hb (qxm h3.2.1 b hbj')
      ·have:=hX i j _ dj hlt hjm w4 hDj;unfold qkI at this;simp only[qP0,qQc] at this;rcases this.2 with h3|h3
       ·exact h3
       ·rw[<-hd0] at h3;exact absurd hb (qxm h3.2.2 b hbj')
    have hat:∀b,inR d0.r b->(hLp (wOf D) H (H 0) (fun j=>listed.getD j false) m)[b]?=(H i)[b]?:=by
     intro b hb;rw[<-hall i,qBQ (lo:=i) m (by omega) fun j h3 h4 h5 h6=>?_]
     ·refine qyq hlenA i fun j h3 h4=>?_;exact before j (by omega) ((wr j b hb h4 (by omega) (by omega)).1 h3)
     ·have hji:j≠i:=fun e=>by rw[e,hLi] at h5;cases h5
      have:=behind j ((wr j b hb h6 h4 hji).2 (by omega));rw[this] at h5;cases h5
    have hln:(hLp (wOf D) H (H 0) (fun j=>listed.getD j false) m).length=(H i).length:=by rw[qd3];exact(hlenA i).symm
    obtain⟨_,_,hrun⟩:=qmv hmo (hd0▸hat) hln w2;have hnew:hLp (wOf D) H (H 0) (fun j=>(listed.setIfInBounds i true).getD j false) m=qgd (wOf D i) (H (i+1)) (hLp (wOf D) H (H 0) (fun j=>listed.getD j false) m):=by rw[hLset,qIu him hLi hlenA fun j h3 h4 h5 b hb hbj=>?_];have:=behind j ((wr j b (fun R hR=>qMH (hd0▸hR) b (hwi▸hb)) hbj h4 (by omega)).2 h3);rw[this] at h5;cases h5
    rw[<-hwi,<-hnew,<-qy6 hopd] at hrun;have ups:∀j,j<all.size->listed.getD j false=true->j<m/\j≠i:=fun j hj hLj=>by
     refine⟨?_,fun e=>by rw[e,hLi] at hLj;cases hLj⟩;rcases qOT j m with h|h
     ·exact h
     ·rw[hm j h hj] at hLj;cases hLj
    have free:∀c,base<=c->(∀j d,j<m->listed.getD j false=true->D j=some d->c∉d.v)->c∉AV.menL (TLp (yW all) V T0 (fun j=>listed.getD j false) all.size)/\c∉qf6 (hLp (wOf D) H (H 0) (fun j=>listed.getD j false) m):=by
     intro c hbc hno;refine⟨qIm (hT0 _ hbc) _ fun j hj hLj=>?_,qGF hlenA (hH0 _ hbc) m fun j hj hLj b z hb hz=>?_⟩
     ·have hjm:=(ups j hj hLj).1;cases hV j _ (qQt hj) hjm with
      | out _ q2 _ _=>rw[q2];simp[AV.men]
      | op uj _ _ q3 q4 _=>
       rw[q3];exact qHb fun hmm=>hno j _ hjm hLj q4 (qFT hmm)
     ·cases hV j _ (qQt (by omega)) hj with
      | out _ _ _ q4=>unfold wOf at hb;rw[q4] at hb;cases hb
      | op uj _ _ _ q4 _=>
       unfold wOf at hb;rw[q4] at hb;exact fun hmm=>hno j _ hj hLj q4 (qI0 hb hz hmm)
    cases hloc:qw5 E o.op with
    | true=>
     obtain⟨f1,f2⟩:=free (S i) (hSb i) fun j d hj hLj q4 hmm=>by
      obtain⟨_,hji⟩:=ups j (by omega) hLj;rcases qOT j i with h3|h3
      ·have:=hX j i _ _ h3 him q4 w4;unfold qkI at this;rw[qzH hloc] at this;simp only[qP0,qQn] at this;exact qDH this.1 hmm
      ·have:=hX i j _ _ (by omega) hj w4 q4;unfold qkI at this;simp only[qzH hloc] at this;simp only[qP0,qQc,qQn] at this;rcases this.2 with h4|h4
       ·rw[behind j h4] at hLj;cases hLj
       ·exact qDH h4.1 hmm
     obtain⟨g1,g2⟩:=free (H 0).length hlen fun j d hj hLj q4 hmm=>by
      cases hV j _ (qQt (show j<all.size by omega)) hj with
      | out _ _ _ q5=>rw[q5] at q4;cases q4
      | op uj _ _ _ q5 q6=>
       rw[q5] at q4;cases q4;have:=q6 _ hmm;rw[hlenA j] at this;omega
     refine qvc B.ro n0 (qzj hE hS hs hrun hloc f2 f1 (hfs _ (hSb i)) ?_ ?_ ?_ fun X' v hs' hv'=>hnext X' v hs' (by rw[w3];exact qvg hv')) (fun c hcc=>by rw[hcc] at hloc;cases hloc)
     ·rw[qd3];exact g2
     ·rw[qd3];exact g1
     ·rw[qd3];exact hfs _ hlen
    | false=>
     unfold q5F at hrun;rw[hloc] at hrun;simp only at hrun;split at hrun
     ·obtain⟨q,k1,k2⟩:=bind_some hrun;split at k2
      case h_2=>cases k2
      cases k2;obtain⟨p1,p2⟩:=qCd hE hS hs k1 fun X' v hs' hv'=>hnext X' v hs' (by rw[w3];exact qvg hv');exact qvc B.ro n0 p1 p2
     obtain⟨av,k1,k2⟩:=bind_some hrun;simp only[Tree.run,qOL,qPl] at k2;obtain⟨rfl,k2⟩:=k2;refine qvc B.ro n0 (qys hE hc hs k1 fun X' v hs' hv'=>hnext X' v (by rw[<-k2];exact hs') (by rw[w3];exact qvg hv')) (fun c hcc=>by rw[hcc] at k1;simp[qeI,qf7,Tree.run] at k1)
  ·have hallb:∀j,j<m->listed.getD j false=true:=fun j hj=>before j (by omega) (hsuf i j him hin (by omega));rw[toEnd listed hallb] at hs;exact hlast i fuel listed X a hin him hsz hri hcl hm hallb hs hu
end
theorem qBc {P:Program}(hm:P.follows .mixedOrders=true)(hE:E.tok P)(hS:E.specs P){callH:qav}{B:Base}(hcH:CallOK E P callH B){callS:List Blk->q8f}(hc:qnJ E P callS)(hmo:q6s E callS){id:Nat}{all:Array Oper}{X:Ctx}{st st':St}{a:Act}(hs:Sim E B X st a) (h:(qGp E callH callS all st).run=some st') {Q:Exit->Act->World->Prop} {n0:Nat} (hq:∀X' a',Sim E B X' st' a'->Q .normal a' X'.w):(Code.region id all true).wpIn (q5O B.ro) n0 P Q a X.w:=by
 apply wpIn_region_any hm;have hs1:=hs.drawn (X.w.drawn+1);generalize hX1:({ X with w:={ X.w with drawn:=X.w.drawn+1 } }:Ctx)=X1 at hs1;have hw:({ X.w with drawn:=X.w.drawn+1 }:World)=X1.w:=by rw[<-hX1]
 rw[hw];obtain⟨T0,fs,hb,pd⟩:=st;unfold qGp at h;by_cases hdb:qFS all=false
 ·rw[if_pos hdb] at h;cases h
 ·rw[if_neg hdb] at h;have hd:=qJD (by simpa using hdb:qFS all=true);have hcl0:qrK all fun j=>(Array.replicate all.size false).getD j false:=by intro i o _ hL;have hL':(Array.replicate all.size false).getD i false=true:=hL;rw[qyv] at hL';cases hL'
  have hdst:yW all=fun i=>(all.toList[i]?).bind (·.dst):=by funext i;simp[yW]
  have hsl:=qJq all;have lt:∀b,(b∈AV.menL T0\/b∈qpT fs)\/b∈qf6 hb->b<hb.length:=fun b hb'=>by
   have hh:X.h=hb:=hs.h;rw[<-hh];rcases hb' with (h'|h')|h'
   ·exact hs.t.inB _ h'
   ·exact hs.fs.inB _ h'
   ·exact hs.hs.inB _ (by rw[hh];exact h')
  obtain⟨r,h1,h2⟩:=bind_some h;obtain⟨V,H0,D0,S,eS,e0,e1,e2,_,e5⟩:=qxS _ 0 _ [] _ r h1;simp only[qPD] at eS e1 e2 e5;have htlen:(all.toList.take (kL all)).length=kL all:=by simp;omega
  obtain⟨H,hH1,hH2⟩:∃H:Nat->List Blk,(∀i,i<=kL all->H i=H0 i)/\∀i,kL all<=i->H i=H (kL all):=
   ⟨fun i=>if i<=kL all then H0 i else H0 (kL all),fun i hi=>if_pos hi,fun i hi=>by
    simp only[qON,if_true];split
    ·rw[show i=kL all by omega]
    ·rfl⟩
  obtain⟨D,hD1,hD2⟩:∃D:Nat->Option LDesc,(∀i,i<kL all->D i=D0 i)/\∀i,kL all<=i->D i=none:=
   ⟨fun i=>if i<kL all then D0 i else none,fun i hi=>if_pos hi,fun i hi=>if_neg (by omega)⟩
  have htk:∀i,i<kL all->(all.toList.take (kL all))[i]?=all[i]?:=by intro i hi;rw[qPQ,if_pos hi];simp
  have hTm:∀i,i<=kL all->TLp (yW all) V T0 (fun _=>true) i=qgg V 0 ((all.toList.take (kL all)).take i) T0:=by intro i hi;rw[hdst,qK9 i (by simp;omega),List.take_take,qPK hi]
  have hVA:∀i o,all[i]?=some o->i<kL all->LocOK E callS all (S i) i o (TLp (yW all) V T0 (fun _=>true) i) (V i) (H i) (H (i+1)) (D i):=by intro i o ho hi;rw[hTm i (by omega),hH1 i (by omega),hH1 (i+1) (by omega),hD1 i hi];exact e2 i o (by rw[htk i hi];exact ho)
  have hs0:∀(X':Ctx) (a':Act),Sim E B X' { t:=TLp (yW all) V T0 (fun _=>true) (kL all),fs:=fs,pend:=pd,h:=H (kL all) } a'->Sim E B X' r a':=by
   intro X' a' hs';have:r={ t:=TLp (yW all) V T0 (fun _=>true) (kL all),fs:=fs,pend:=pd,h:=H (kL all) }:=by rw[hTm _ (qON _),e1,List.take_of_length_le (i:=kL all) (l:=all.toList.take (kL all)) (by simp;omega),htlen,hH1 _ (qON _)]
   rw[this];exact hs'
  have hH00:H 0=hb++List.replicate (qOk E (all.toList.take (kL all))) .dead:=by rw[hH1 0 (qQ8 _)];exact e0
  obtain⟨X2,hX2,hs2⟩:=Sim.padN (qOk E (all.toList.take (kL all))) hs1;rw[<-hX2];have start:Sim E B X2 { t:=TLp (yW all) V T0 (fun j=>(Array.replicate all.size false).getD j false) all.size,fs:=fs,pend:=pd,h:=hLp (wOf D) H (H 0) (fun j=>(Array.replicate all.size false).getD j false) (kL all) } a:=by
   have q1:TLp (yW all) V T0 (fun j=>(Array.replicate all.size false).getD j false) all.size=T0:=by
    have:∀n,TLp (yW all) V T0 (fun j=>(Array.replicate all.size false).getD j false) n=T0:=by
     intro n;induction n with
     | zero=>rfl
     | succ n ih=>simp only[TLp];rw[if_neg (by rw[qyv];simp),ih]
    exact this _
   have q2:∀n,hLp (wOf D) H (H 0) (fun j=>(Array.replicate all.size false).getD j false) n=H 0:=by
    intro n;induction n with
    | zero=>rfl
    | succ n ih=>simp only[hLp];rw[if_neg (by rw[qyv];simp),ih]
   rw[q1,q2,hH00];exact hs2
  refine qHo (m:=kL all) (V:=V) (T0:=T0) (H:=H) (D:=D) (fs:=fs) (base:=hb.length) hE hS hc hmo hd hsl hVA (fun i j d d' hij hj q1 q2=>?_) hH2 hD2 (by rw[hH00];simp) eS (fun c hc hm'=>?_) (fun c hc hm'=>?_) (fun c hc hm'=>?_) ?_ ?_ (fun i j h1 h2 h3=>qqN all h1 h2 h3) all.size _ X2 a (by simp) hcl0 (fun i _ _=>qyv i) (qKz _ _) start
  ·rw[hD1 i (by omega)] at q1;rw[hD1 j hj] at q2;exact e5 i j d d' hij (by rw[htlen];exact hj) q1 q2
  ·have:=lt c (.inl (.inl hm'));omega
  ·have:=lt c (.inl (.inr hm'));omega
  ·rw[hH00,qEf] at hm';rcases qPa.1 hm' with hm'|hm'
   ·have:=lt c (.inr hm');omega
   ·exact qEJ (fun z hz=>by rw[qQW] at hz;rw[hz.2];rfl) hm'
  ·intro hge X' a' hs';have hsz:kL all=all.size:=by omega
   rw[show TLp (yW all) V T0 (fun _=>true) all.size=TLp (yW all) V T0 (fun _=>true) (kL all) by rw[hsz]] at hs';have h3:=hs0 X' a' hs';rw[qQs (by simp;omega)] at h2;simp only[qnM,Tree.run,qOL] at h2;rw[h2] at h3;exact hq X' a' h3
  ·intro i fuel listed X' a' hin him hsz hri hcl hlm hallm hs' hun;have hri':=hri;rw[mem_ready] at hri';obtain⟨g1,o,ho,gedge⟩:=hri';have hil:i<listed.size:=by omega
   have hLi:listed.getD i false=false:=by simpa[qQ4,hil] using g1
   have hedge':∀e,e∈o.after.toList->Region.binds .any e=true->listed.getD e.on false=true:=fun e he hb=>gedge e (by simpa using he) hb;have hcl':=qqo hsz ho hcl hedge';have hallb:∀j,j<i->listed.getD j false=true:=by intro j hj;have hb':=qqN all him hin hj;have:=qxM hd hcl' i j (by show (listed.setIfInBounds i true).getD i false=true;rw[q1l hil,if_pos rfl]) hb';have h':(listed.setIfInBounds i true).getD j false=true:=this;rw[q1l hil,if_neg (by omega)] at h';exact h'
   have him2:i=kL all:=by
    rcases qQm him with h3|h3
    ·exact h3.symm
    ·have h4:=hallb _ h3;rw[hlm _ (qON _) (by omega)] at h4;cases h4
   have hcut:∀n,kL all<=n->n<=all.size->TLp (yW all) V T0 (fun j=>listed.getD j false) n=TLp (yW all) V T0 (fun _=>true) (kL all):=by
    intro n;induction n with
    | zero=>
     intro h3 _;have h0:kL all=0:=by omega
     rw[h0];rfl
    | succ n ihn=>
     intro h3 h4;rcases qQm h3 with h5|h5
     ·rw[<-h5];exact stL (kL all) fun j hj=>hallb j (by omega)
     ·simp only[TLp];rw[if_neg (by rw[hlm n (by omega) (by omega)];simp)];exact ihn (by omega) (by omega)
   rw[hcut _ hsl (qON _)] at hs';have h3:=hs0 X' a' hs';subst him2;exact(qGX hE hcH hd hq _ (kL all) rfl (qON _) (fuel+1) listed X' a' _ hsz (fun j hj _=>hallb j hj) (fun j hj=>by
    rcases qOT j all.size with h5|h5
    ·exact hlm j hj h5
    ·simp[show listed.size<=j by omega]) hun h3 h2).2 _ hri
end Go.Eng

namespace Go.Eng
variable {B:Base}{X:Ctx}{n:Nat}
theorem HSim.base {B B':Base}(h:HSim B X)(h0:B'.w0=B.w0)(h1:B'.imps=B.imps)(h2:B'.M0=B.M0):HSim B' X:=by obtain⟨w0,imps,M0,fs,ro,y,pin⟩:=B;obtain⟨w0',imps',M0',fs',ro',y',pin'⟩:=B';simp only at h0 h1 h2;subst h0 h1 h2;exact⟨h.blk,h.inj,h.notM,h.ltM,h.M0,h.newM,h.os,h.tape,h.output,h.size,h.frame,h.imps,h.impc,h.fresh,h.kept⟩
def qoT(o:Obj):Prop:=∀c T fr,o≠.cells c T fr
def qfi(n:Nat)(o:Obj)(l:List (Nat×Obj)):List (Nat×Obj):=l.map fun p=>if p.1=n then (n,o) else p
theorem q1t {p:Nat×Obj}{o:Obj}{l:List (Nat×Obj)}(h:p∈l)(hne:p.1≠n):p∈qfi n o l:=qPE.2 ⟨p,h,if_neg hne⟩
theorem qkA {o o':Obj}{l:List (Nat×Obj)}(h:(n,o)∈l):(n,o')∈qfi n o' l:=qPE.2 ⟨(n,o),h,if_pos rfl⟩
theorem qnX {p:Nat×Obj}{o:Obj}{l:List (Nat×Obj)}(h:p∈qfi n o l):p=(n,o)\/(p∈l/\p.1≠n):=by
 obtain⟨q,h1,h2⟩:=qPE.1 h;by_cases hq:q.1=n
 ·rw[if_pos hq] at h2;exact .inl h2.symm
 ·rw[if_neg hq] at h2;subst h2;exact .inr ⟨h1,hq⟩
structure SameCells (w w':World):Prop where
 cells:∀(n:Nat) c T fr,w.heap[n]?=some (.cells c T fr)->w'.heap[n]?=some (.cells c T fr)
 cell:∀a:Addr,a.block<w.heap.size->w'.cell? a=w.cell? a
theorem SameCells.blk {X X':Ctx}(hw:SameCells X.w X'.w)(hm:Move0 X X' some){b:Nat}{k:Blk}(hσ:X'.σ b=X.σ b)(h:jm X b k):jm X' b k:=by
 cases k with
 | cells cs=>
  obtain⟨n,c,T,e1,e2,e3⟩:=h;exact⟨n,c,T,by rw[hσ];exact e1,hw.cells _ _ _ _ e2,e3.ext0 hm⟩
 | big cs k N l=>
  obtain⟨n,c,T,vs,e1,e2,e3,e4,e5⟩:=h;exact⟨n,c,T,vs,by rw[hσ];exact e1,hw.cells _ _ _ _ e2,e3.ext0 hm,e4,e5⟩
 | vec e sh l=>
  rcases h with⟨e1,e2⟩|⟨n,c,e1,e2,e3⟩
  ·exact .inl ⟨by rw[hσ];exact e1,e2⟩
  ·exact .inr ⟨n,c,by rw[hσ];exact e1,hw.cells _ _ _ _ e2,e3.mono hm.M hm.w⟩
 | frz e sh l=>
  rcases h with⟨e1,e2⟩|⟨n,c,e1,e2,e3,e4⟩
  ·exact .inl ⟨by rw[hσ];exact e1,e2⟩
  ·exact .inr ⟨n,c,by rw[hσ];exact e1,hw.cells _ _ _ _ e2,e3.mono hm.M hm.w,hm.M n e4⟩
 | dead=>trivial
theorem qBt (hs:HSim B X){w':World}{kept':List (Nat×Obj)}(hw:SameCells X.w w')(hsz:X.w.heap.size<=w'.heap.size)(ho:w'.os=X.w.os)(ht:w'.tape=X.w.tape)(hp:w'.output=X.w.output)(hf:∀n,n<B.w0.heap.size->w'.heap[n]?=X.w.heap[n]?) (hk:∀p,p∈kept'->w'.heap[p.1]?=some p.2/\qoT p.2/\B.w0.heap.size<=p.1) :HSim B { X with w:=w',kept:=kept' }/\Move0 X { X with w:=w',kept:=kept' } some:=by
 have hm:Move0 X { X with w:=w',kept:=kept' } some:=
  ⟨fun _ h=>h,fun a ha=>hw.cell a (hs.ltM _ ha),fun b b' hb h=>by cases h;exact⟨hb,rfl,fun _ _ h=>h,fun _ _ _ n _ c T fr h=>⟨c,T,fr,hw.cells n c T fr h,rfl⟩⟩,rfl⟩
 refine⟨⟨fun b k hb=>SameCells.blk hw hm rfl (hs.blk b k hb),hs.inj,hs.notM,fun n hn=>qPs (hs.ltM n hn) hsz,hs.M0,hs.newM,ho.trans hs.os,ht.trans hs.tape,hp.trans hs.output,
  qOP hs.size hsz,fun n hn hi=>(hf n hn).trans (hs.frame n hn hi),hs.imps,hs.impc,hs.fresh,hk⟩,hm⟩
theorem qy7 {w:World}{o o':Obj}(h:w.heap[n]?=some o)(ho:qoT o)(ho':qoT o'):SameCells w (w.putObj n o'):=by
 have hn:=(qOR.1 h).1;refine⟨fun m c T fr hm=>?_,fun a _=>?_⟩
 ·by_cases e:m=n
  ·subst e;rw[h] at hm;exact absurd (qPq hm) (ho _ _ _)
  ·rw[World.putObj_heap_other e];exact hm
 ·by_cases e:a.block=n
  ·unfold World.cell?;rw[e,h,World.putObj_heap_same hn];cases o'<;>cases o<;>first|rfl|exact absurd rfl (ho _ _ _)|exact absurd rfl (ho' _ _ _)
  ·exact qPP (World.putObj_heap_other e)
theorem qdZ (hs:HSim B X){o o':Obj}(hk:(n,o)∈X.kept)(ho':qoT o') :HSim B { X with w:=X.w.putObj n o',kept:=qfi n o' X.kept }/\Move0 X { X with w:=X.w.putObj n o',kept:=qfi n o' X.kept } some:=by
 obtain⟨h1,h2,h3⟩:=hs.kept _ hk;simp only at h1 h2 h3;have hn:=(qOR.1 h1).1;refine qBt hs (qy7 h1 h2 ho') (by simp) rfl rfl rfl (fun m hm=>World.putObj_heap_other (by omega)) fun p hp=>?_;rcases qnX hp with rfl|⟨hp,hne⟩
 ·exact⟨World.putObj_heap_same hn,ho',h3⟩
 ·obtain⟨g1,g2,g3⟩:=hs.kept p hp;exact⟨by rw[World.putObj_heap_other hne];exact g1,g2,g3⟩
theorem qpD (hs:HSim B X){o:Obj}(ho:qoT o) :HSim B { X with w:=X.w.alloc o,kept:=(X.w.heap.size,o)::X.kept }/\Move0 X { X with w:=X.w.alloc o,kept:=(X.w.heap.size,o)::X.kept } some:=by
 refine qBt hs ⟨fun m c T fr hm=>?_,fun a ha=>qPP (zW _ _ ha)⟩ (by simp) rfl rfl rfl (fun m hm=>zW _ _ (qPs hm hs.size)) fun p hp=>?_
 ·rw[zW _ _ (qOR.1 hm).1];exact hm
 ·rcases qP5.1 hp with rfl|hp
  ·exact⟨zU _ _,ho,hs.size⟩
  ·obtain⟨g1,g2,g3⟩:=hs.kept p hp;exact⟨by rw[zW _ _ (qOR.1 g1).1];exact g1,g2,g3⟩
theorem qCa (hs:HSim B X){p:Nat×Obj}(h:p∈X.kept):p.1<X.w.heap.size:=(qOR.1 (hs.kept p h).1).1
mutual
theorem Rep.setY'{X:Ctx}(l:Nat):∀{av:AV} {v:Value},Rep X av v->av.noY=true->Rep { X with y:=l } av v
 | _,_,.undef v,_=>.undef v
 | _,_,.skip,_=>.skip
 | _,_,.yld,h=>by cases h
 | _,_,.blit b,_=>.blit b
 | _,_,.bool b,_=>.bool b
 | _,_,.ilit k n,_=>.ilit k n
 | _,_,.int k n,_=>.int k n
 | _,_,.str s,_=>.str s
 | _,_,.nilp,_=>.nilp
 | _,_,.ptr b off n hb hσ,_=>.ptr b off n hb hσ
 | _,_,.eptr sh l i off a hsp h0 h1 hr,_=>.eptr sh l i off a hsp h0 h1 hr
 | _,_,.mnil sh l i off,_=>.mnil sh l i off
 | _,_,.mptr sh l i off a hsp h0 h1 hr,_=>.mptr sh l i off a hsp h0 h1 hr
 | _,_,.vptr b i off n k hb hσ h,_=>.vptr b i off n k hb hσ h
 | _,_,.vsub b i n k m c hb hσ h,_=>.vsub b i n k m c hb hσ h
 | _,_,.aptr b o i n hb hσ h0,_=>.aptr b o i n hb hσ h0
 | _,_,.asub b o N i m n k c hb hσ h0 h1 h2 h3,_=>.asub b o N i m n k c hb hσ h0 h1 h2 h3
 | _,_,.nils,_=>.nils
 | _,_,.imm sh l v h,_=>.imm sh l v h
 | _,_,.full sh l p n h,_=>.full sh l p n h
 | _,_,.vec b p nn cc hb h,_=>.vec b p nn cc hb h
 | _,_,.nilf,_=>.nilf
 | _,_,.fn g first caps vf vc h1 h2,h=>by
  simp only[AV.noY,qP0] at h;exact .fn g _ _ vf vc (RepL.setY' l h1 h.1) (RepL.setY' l h2 h.2)
 | _,_,.agg cs vs h1,h=>.agg _ vs (RepL.setY' l h1 (by simpa only [AV.noY] using h))
 | _,_,.tuple cs vs h1,h=>.tuple _ vs (RepL.setY' l h1 (by simpa only [AV.noY] using h))
 | _,_,.bagg cs k n r vs h1 hl,h=>.bagg _ k n r vs (RepL.setY' l h1 (by simpa only [AV.noY] using h)) hl
theorem RepL.setY'{X:Ctx}(l:Nat):∀{av:List AV} {v:List Value},RepL X av v->AV.noYL av=true->RepL { X with y:=l } av v
 | _,_,.nil,_=>.nil
 | _,_,.cons h1 t,h=>by
  simp only[AV.noYL,qP0] at h;exact .cons (Rep.setY' l h1 h.1) (RepL.setY' l t h.2)
end
theorem Rep.setY (l:Nat){av:AV}{v:Value}(h:av.noY=true)(hr:Rep X av v):Rep { X with y:=l } av v:=hr.setY' l h
theorem RepL.setY (l:Nat){av:List AV}{v:List Value}(h:AV.noYL av=true)(hr:RepL X av v):RepL { X with y:=l } av v:=hr.setY' l h
theorem HSim.setY (h:HSim B X)(l:Nat)(hy:X.h.all Blk.noY=true):HSim B { X with y:=l }:=by
 refine⟨fun b k hb=>?_,h.inj,h.notM,h.ltM,h.M0,h.newM,h.os,h.tape,h.output,h.size,h.frame,h.imps,h.impc,h.fresh,h.kept⟩;have h1:=h.blk b k hb;cases k with
 | cells cs=>
  obtain⟨n,c,T,e1,e2,e3⟩:=h1;have:(Blk.cells cs).noY=true:=qPi.1 hy _ (qPA hb);exact⟨n,c,T,e1,e2,e3.setY l this⟩
 | big cs k N r=>
  obtain⟨n,c,T,vs,e1,e2,e3,e4,e5⟩:=h1;have:(Blk.big cs k N r).noY=true:=qPi.1 hy _ (qPA hb);exact⟨n,c,T,vs,e1,e2,e3.setY l this,e4,e5⟩
 | vec e sh l=>exact h1
 | frz e sh l=>exact h1
 | dead=>trivial
theorem qBk {gl:List (Nat×AV)}(h:q4x gl X)(l:Nat):q4x gl { X with y:=l }:=by intro x hx;obtain⟨⟨sh,r,i,off,he⟩,hr⟩:=h x hx;refine⟨⟨sh,r,i,off,he⟩,hr.move (fun _ h=>h) (fun _ _=>rfl) (Rep.setY l (by rw[he];rfl) hr.1)⟩
theorem qjO {gl:List (Nat×AV)}{X X':Ctx}(hm:Move0 X X' some)(h:q4x gl X):q4x gl X':=fun x hx=>⟨(h x hx).1,(h x hx).2.move hm.M hm.w ((h x hx).2.1.ext0 hm)⟩
theorem Sim.moveB {E:Env}{B B':Base}{X X':Ctx}{st:St}{a:Act}(hs:Sim E B X st a)(h1:HSim B' X')(h2:Move0 X X' some)(h3:X'.h=X.h)(hfs:B'.fs=B.fs)(hy:B'.y=B.y)(hi:B'.imps=B.imps){ds:List Deferred} (h4:qBY X'.kept (B'.pin st.pend) ds) (h5:∀p,p∈B'.pin st.pend->p∈X'.kept):Sim E B' X' st { a with defers:=ds }:=⟨h1,h3.trans hs.h,hs.t.ext0 h2,hfs▸hs.fs.ext0 h2,qjO h2 hs.glob,h4,hi▸hs.ni,(h2.y.trans hs.y).trans hy.symm,h5⟩
def Ex.out:Ex->Exit
 | .normal=>.normal
 | .exit i=>.exit i
 | .ret=>.ret
def qCs(E:Env)(B:Base)(r:Ex×St):Exit->Act->World->Prop:=fun e a w=>e=r.1.out/\∃X',X'.w=w/\Sim E B X' r.2 a
def Ex.code:Ex->Code
 | .normal=>.skip
 | .exit i=>.exit i
 | .ret=>.ret
def q8q(fid:FuncId)(ct:Array Value)(ps:Array Tmp)(a b:Code)(D:Nat)(e:Option Ex):Loop:={ state:=if e.isNone then .ready else .done,pending:=e.map Ex.code,fn:=fid,tmps:=ct,params:=ps,assign:=a,body:=b,defers:=D }
def z6:Code->List Code
 | .seq a b=>.seq a b::(z6 a++z6 b)
 | .cond _ a b=>z6 a++z6 b
 | .block _ c=>z6 c
 | .scope c=>z6 c
 | .loop c=>.loop c::z6 c
 | .rangeFunc x ps a b=>.rangeFunc x ps a b::(z6 a++z6 b)
 | _=>[]
def qD4(P:Program)(yc:FuncId×Nat)(B:Base):Prop:=
 ∃(fn:Func) (c:Code) (x:Operand) (ps:Array Tmp) (a b:Code),P.funcs[yc.1]?=some fn/\fn.body=some c/\(z6 c)[yc.2]?=some (.rangeFunc x ps a b) /\
  ∃(ct:Array Value) (rest:List (List Value)) (D fid:Nat) (more:List (Nat×Obj)),B.fs=ct.toList::rest/\(∀e,B.pin e=(B.y,.loop (q8q fid ct ps a b D e))::more)/\(∀p,p∈more->p.1≠B.y)/\B.ro=none
def qp(P:Program)(it:List (FuncId×FuncId×Nat))(f:FuncId)(B:Base):Prop:=
 (B.ro.isSome=true->2<=B.fs.length)/\match qlh it f with
  | none=>True
  | some yc=>qD4 P yc B
structure SimF (E:Env) (B:Base) (X:Ctx) (st:St):Prop where
 hs:HSim B X
 h:X.h=st.h
 fs:RepLL X (st.t::st.fs) B.fs
 glob:q4x E.glob X
 ni:B.imps.length<=E.nimp
 y:X.y=B.y
 pin:∀p,p∈B.pin st.pend->p∈X.kept
def YOK(E:Env)(P:Program)(y:qF4)(B:Base):Prop:=
 ∀(args:List AV) (st:St) (r:AV×St) (X:Ctx) (a:Act) (vargs:List Value),Sim E B X st a->RepL X args vargs->(y args st).run=some r ->
  ∃(l:Nat) (f:FuncId) (tmps:Array Value) (assign body:Code),(Instr.yield X.y vargs.toArray).run P X.w=.ok (.round l f tmps assign body) X.w /\
  ∀n,RoundIn (q5O B.ro) n P l f tmps assign body X.w fun e w'=>∃v X',e=.returned v/\X'.w=w'/\Rep X' r.1 v/\Sim E B X' r.2 a
def qnz(E:Env)(P:Program)(rangeH:qgs):Prop:=
 ∀(g:FuncId) (y:qF4) (args:List AV) (st:St) (r:AV×St) (B:Base) (X:Ctx) (vargs:List Value),SimF E B X st->qp P E.iter g B->(∀B',qp P E.iter g B'->YOK E P y B')->B.ro=none ->
  RepL X args vargs->(rangeH g y args st).run=some r ->
  (∀w,(callFunc g vargs.toArray).run P w=.ok (.enter g vargs.toArray) w) /\
  Calls P g vargs.toArray X.w fun e w'=>∃v X',e=.returned v/\X'.w=w'/\Rep X' r.1 v/\SimF E B X' r.2
theorem qxz{X:Ctx}:∀(ps:List Tmp) {ct:List AV} {tmps:Array Value} {args:List AV} {vargs:List Value},RepL X ct tmps.toList->RepL X args vargs ->
  RepL X (qu5 ct ps args) ((ps.zip vargs).foldl (fun (tmps:Array Value) (p:Tmp×Value)=>tmps.setIfInBounds p.1 p.2) tmps).toList
 | [],_,_,args,_,h,_=>by cases args<;>simpa[qu5] using h
 | p::ps,ct,tmps,_,_,h,.nil=>by simpa[qu5] using h
 | p::ps,ct,tmps,_,_,h,.cons h1 h2=>by
  simp only[qu5,List.zip_cons_cons,qQB];exact qxz ps (by rw[Array.toList_setIfInBounds];exact RepL.set h1 h p) h2
theorem qDU {E:Env}{P:Program}{f:FuncId}{k:Nat}{fn:Func}{cb:Code}(hf:P.funcs[f]?=some fn)(hb:fn.body=some cb){x:Operand}{ps:Array Tmp}{a b:Code}(hk:(z6 cb)[k]?=some (.rangeFunc x ps a b)){evA evB:St->Tree (Ex×St)} (hni:q9B E.iter f=true)(hA:∀(B:Base) (X:Ctx) (st:St) (act:Act) (r:Ex×St),qp P E.iter f B->Sim E B X st act->(evA st).run=some r->∀n,a.wpIn (q5O B.ro) n P (qCs E B r) act X.w)(hB:∀(B:Base) (X:Ctx) (st:St) (act:Act) (r:Ex×St),qp P E.iter f B->Sim E B X st act->(evB st).run=some r->∀n,b.wpIn (q5O B.ro) n P (qCs E B r) act X.w){B:Base} (hI:qD4 P (f,k) B):YOK E P (qAT evA evB ps.toList) B:=by
 intro args st r X act vargs hs hargs hr;obtain⟨fn',c',x',ps',a',b',q1,q2,q3,ct,rest,D,fid,more,q4,q5,q6,q7⟩:=hI;simp only at q1 q3;rw[hf] at q1;cases q1;rw[hb] at q2;cases q2;rw[hk] at q3;cases q3;unfold qAT at hr;cases hp:st.pend with
 | some e=>rw[hp] at hr;cases hr
 | none=>
 rw[hp] at hr;cases hfs:st.fs with
 | nil=>rw[hfs] at hr;cases hr
 | cons ctA fsA=>
 rw[hfs] at hr;simp only at hr;cases hlen:Nat.beq args.length ps.toList.length with
 | false=>rw[hlen] at hr;cases hr
 | true=>
 rw[hlen] at hr;simp only at hr;have hlen':=qPM hlen;obtain⟨rA,h1,h2⟩:=bind_some hr;obtain⟨xA,sA⟩:=rA;cases xA with
 | exit i=>cases h2
 | ret=>cases h2
 | normal=>
 simp only at h2;obtain⟨rB,h3,h4⟩:=bind_some h2;have hpin:=hs.pin;have hdf:=hs.df;rw[hp,q5] at hpin hdf;have hrec:(B.y,.loop (q8q fid ct ps a b D none))∈X.kept:=hpin _ qP8;have hheap:=(hs.hs.kept _ hrec).1;simp only at hheap;have hfsR:=hs.fs;rw[hfs,q4] at hfsR;have hct:RepL X ctA ct.toList:=by cases hfsR with|cons g1 g2=>exact g1
 refine⟨B.y,fid,((ps.zip vargs.toArray).foldl (fun (tmps:Array Value) (p:Tmp×Value)=>tmps.setIfInBounds p.1 p.2) ct),a,b,?_,fun n=>?_⟩
 ·rw[hs.y];exact run_yield (r:=q8q fid ct ps a b D none) hheap (by simp only[q8q,List.size_toArray];rw[<-hargs.length,hlen',Array.length_toList])
 rw[q7];apply roundIn_of_wpIn (F:=q5O none) trivial
 let BR:Base:={ B with ro:=some B.y,fs:=act.tmps.toList::B.fs,pin:=fun _=>X.kept }
 have hbR:∀pin,qp P E.iter f { BR with pin:=pin }:=by
  intro pin;refine⟨fun _=>?_,?_⟩
  ·show 2<=(act.tmps.toList::B.fs).length;rw[q4];simp
  ·unfold q9B at hni;split at hni
   ·cases hni
   ·rename_i hn;rw[hn];trivial
 have hsR:Sim E BR X { t:=qu5 ctA ps.toList args,fs:=st.t::ctA::fsA,h:=st.h,pend:=none } { tmps:=((ps.zip vargs.toArray).foldl (fun (tmps:Array Value) (p:Tmp×Value)=>tmps.setIfInBounds p.1 p.2) ct),defers:=[] }:=by
  refine⟨hs.hs.base rfl rfl rfl,hs.h,?_,?_,hs.glob,qBY.nil,hs.ni,hs.y,fun p hp=>hp⟩
  ·have:=qxz ps.toList hct hargs;rw[<-Array.foldl_toList,Array.toList_zip];exact this
  ·show RepLL X _ (act.tmps.toList::B.fs);rw[<-hfs];exact .cons hs.t hs.fs
 refine wpIn_mono (hA BR X _ _ _ (hbR _) hsR h1 n) fun e a1 w1 ⟨he,X1,hw1,hs1⟩=>?_;subst he hw1;have hrec1:(B.y,.loop (q8q fid ct ps a b D none))∈X1.kept:=hs1.pin _ hrec;obtain⟨g1,g2⟩:=qdZ hs1.hs (o':=.loop { q8q fid ct ps a b D none with state:=.busy }) hrec1 (fun _ _ _ h=>by cases h);refine⟨_,run_beginRound (r:=q8q fid ct ps a b D none) (hs1.hs.kept _ hrec1).1 rfl,?_⟩
 let pinB:List (Nat×Obj):=qfi B.y (.loop { q8q fid ct ps a b D none with state:=.busy }) X.kept
 obtain⟨Ds1,d1,d2,d3⟩:=hs1.df;have hsB:Sim E { BR with pin:=fun _=>pinB } { X1 with w:=X1.w.putObj B.y (.loop { q8q fid ct ps a b D none with state:=.busy }),kept:=qfi B.y (.loop { q8q fid ct ps a b D none with state:=.busy }) X1.kept } sA a1:=by
  refine hs1.moveB (B':={ BR with pin:=fun _=>pinB }) (ds:=a1.defers) (g1.base rfl rfl rfl) g2 rfl rfl rfl rfl ⟨Ds1,d1,d2,fun D' hD'=>⟨q1t (d3 D' hD').1 (fun e=>(d3 D' hD').2 _ hrec e.symm),fun p hp=>?_⟩⟩ fun p hp=>?_
  ·rcases qnX hp with hp|⟨hp,_⟩
   ·rw[hp];exact fun e=>(d3 D' hD').2 _ hrec e
   ·exact(d3 D' hD').2 _ hp
  ·rcases qnX hp with rfl|⟨hp,hne⟩
   ·exact qkA hrec1
   ·exact q1t (hs1.pin _ hp) hne
 refine wpIn_mono (hB _ _ _ _ _ (hbR _) hsB h3 n) fun e2 a2 w2 ⟨he2,X2,hw2,hs2⟩=>?_;subst he2 hw2;obtain⟨xB,sB⟩:=rB;have hrec2:(B.y,.loop { q8q fid ct ps a b D none with state:=.busy })∈X2.kept:=hs2.pin _ (qkA hrec);have hlie2:=(hs2.hs.kept _ hrec2).1;simp only at hlie2;simp only at h4;cases hfs2:sB.fs with
 | nil=>rw[hfs2] at h4;cases h4
 | cons itA fs'=>
 rw[hfs2] at h4;simp only at h4;have fin:∀(e:Option Ex) (_:r=(.blit e.isNone,{ t:=itA,fs:=fs',h:=sB.h,pend:=e })) (_:e=none\/∃x,e=some x),
   ∃v w',(Instr.endRound B.y (e.map Ex.code)).run P X2.w=.ok v w'/\∃v' X',Ending.returned v=.returned v'/\X'.w=w'/\Rep X' r.1 v'/\Sim E B X' r.2 act:=by
  intro e hre _;have hend:=run_endRound (P:=P) (r:={ q8q fid ct ps a b D none with state:=.busy }) (e.map Ex.code) hlie2;have hobj:({ ({ q8q fid ct ps a b D none with state:=.busy }:Loop) with state:=if (e.map Ex.code).isNone then .ready else .done,pending:=e.map Ex.code }:Loop)=q8q fid ct ps a b D e:=by cases e<;>rfl
  rw[hobj] at hend;obtain⟨k1,k2⟩:=qdZ hs2.hs (o':=.loop (q8q fid ct ps a b D e)) hrec2 (fun _ _ _ h=>by cases h);refine⟨_,_,hend,_,{ X2 with w:=X2.w.putObj B.y (.loop (q8q fid ct ps a b D e)),kept:=qfi B.y (.loop (q8q fid ct ps a b D e)) X2.kept },rfl,rfl,?_,?_⟩
  ·rw[hre];have:(e.map Ex.code).isNone=e.isNone:=by cases e<;>rfl
   rw[this];exact .blit _
  ·have hfs3:=hs2.fs;rw[hfs2] at hfs3;have hfs4:=hfs3.ext0 k2;have hold:∀p,p∈X.kept->p.1≠B.y->p∈qfi B.y (.loop (q8q fid ct ps a b D e)) X2.kept:=fun p hp hne=>
    q1t (hs2.pin p (q1t hp hne)) hne
   rw[hre];refine⟨k1.base rfl rfl rfl,hs2.h,?_,?_,qjO k2 hs2.glob,?_,hs.ni,hs2.y,?_⟩
   ·cases hfs4 with|cons z1 z2=>exact z1
   ·cases hfs4 with|cons z1 z2=>exact z2
   ·obtain⟨Ds,m1,m2,m3⟩:=hdf;refine⟨Ds,m1,m2,fun D' hD'=>⟨hold _ (m3 D' hD').1 (fun e'=>(m3 D' hD').2 _ qP8 e'.symm),fun p hp=>?_⟩⟩;rw[q5] at hp;rcases qP5.1 hp with rfl|hp
    ·exact(m3 D' hD').2 (B.y,.loop (q8q fid ct ps a b D none)) qP8
    ·exact(m3 D' hD').2 p (qPc _ hp)
   ·intro p hp;rw[q5] at hp;rcases qP5.1 hp with rfl|hp
    ·exact qkA hrec2
    ·exact hold p (hpin p (qPc _ hp)) (q6 p hp)
 cases xB with
 | normal=>
  simp only[Tree.run,qOL] at h4;exact fin none h4.symm (.inl rfl)
 | ret=>
  simp only[Tree.run,qOL] at h4;exact fin (some .ret) h4.symm (.inr ⟨_,rfl⟩)
 | exit i=>
  simp only[Tree.run,qOL] at h4;exact fin (some (.exit i)) h4.symm (.inr ⟨_,rfl⟩)
theorem qBj{E:Env}{P:Program}{B:Base}{fn:Func}{st:St}{R:Ending->World->Prop}{n:Nat}:∀(Ds:List Nat) {X:Ctx} {a:Act},Sim E B X st a->a.defers=Ds.map qmu ->
  (∀X',Sim E B X' st { a with defers:=[] }->∃v,(results fn a.tmps).run P X'.w=.ok v X'.w/\R (.returned v) X'.w)->LeavesInM (q5O none) n P fn a.tmps R (Ds.map qmu) .returning X.w
 | [],X,a,hs,hd,h=>by
  have:({ a with defers:=[] }:Act)=a:=by obtain⟨t,d⟩:=a;simp only[List.map_nil] at hd;rw[hd]
  rw[this] at h;exact h X hs
 | D::Ds,X,a,hs,hd,h=>by
  obtain⟨Ds',d1,d2,d3⟩:=hs.df;have hDs:Ds'=D::Ds:=by
   rw[hd] at d1;have inj:∀(l m:List Nat),l.map qmu=m.map qmu->m=l:=by
    intro l;induction l with
    | nil=>intro m hm;cases m with
     | nil=>rfl
     | cons _ _=>cases hm
    | cons x l ih=>intro m hm;cases m with
     | nil=>cases hm
     | cons y m=>
      simp only[qPS,qQd,qmu,Deferred.mk.injEq,Target.collected.injEq,and_true] at hm;rw[ih m hm.2,hm.1]
   exact inj _ _ d1
  subst hDs;obtain⟨m1,m2⟩:=d3 D qP8;have hlie:=(hs.hs.kept _ m1).1;simp only at hlie;obtain⟨g1,g2⟩:=qdZ hs.hs (o':=.deferred none) m1 (fun _ _ _ h=>by cases h);have hnd:=List.nodup_cons.1 d2;have hs':=hs.moveB (B':=B) (ds:=Ds.map qmu) g1 g2 rfl rfl rfl rfl ⟨Ds,rfl,hnd.2,fun D' hD'=>⟨q1t (d3 D' (qPc _ hD')).1 (fun e=>hnd.1 (e▸hD')),(d3 D' (qPc _ hD')).2⟩⟩
   (fun p hp=>q1t (hs.pin p hp) (m2 p hp))
  refine⟨by simp,.inl ⟨D,_,rfl,run_takeDeferred hlie,?_⟩⟩;exact qBj Ds (a:={ a with defers:=Ds.map qmu }) hs' rfl h
end Go.Eng

