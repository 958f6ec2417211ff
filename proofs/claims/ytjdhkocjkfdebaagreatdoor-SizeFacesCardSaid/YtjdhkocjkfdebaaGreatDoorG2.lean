/- Texts of the proof, merged: what the code computes, and plain laws. No statement stands here. -/
import Derived.Calls
import Derived.Orders
import Derived.OrdersIn
import Derived.TacticsIn
import Derived.Tactics
import Derived.RangeFuncIn
import Derived.RangeFuncLeaves
import Derived.RangeFuncRecord
import Derived.Test.YtjdhkocjkfdebaaGreatDoorG1
namespace Go.Eng
variable {B:Base}{E:Env}{P:Program}{X:Ctx}{l:R}{n:Nat}{r:Res}{t:TypeId}{v:Value}{vs:List Value}{w:World}
theorem qMM {k:IntKind}(h:isZ k v=true):v=.int k 0:=by
 unfold isZ at h;split at h
 ·simp only[qOd,decide_eq_true_eq] at h;rw[h.1,h.2]
 ·cases h
theorem qjs {o n:Nat}{k:IntKind}(h:qEy E t=some (o,k,n)) :(E.ty t).zero.length=o+n/\(E.ty t).size=o+n/\32<=n/\(E.ty t).zero.drop o=List.replicate n (.int k 0)/\∃fs,(E.ty t).d=.struct fs:=by
 unfold qEy at h;split at h
 ·rename_i fs hd;split at h
  ·rename_i o' ty sz hl;split at h
   ·rename_i n' e es ha;split at h
    ·rename_i k' hk;split at h
     ·rename_i hc;cases h;simp only[qOd,Nat.ble_eq,Nat.beq_eq,qOy] at hc;obtain⟨⟨⟨c1,c2⟩,c3⟩,c4⟩:=hc;refine⟨c2,c3,c1,?_,fs,hd⟩;apply List.eq_replicate_iff.2;exact⟨by simp[c2],fun v hv=>qMM (c4 v hv)⟩
     ·cases h
    ·cases h
   ·cases h
  ·cases h
 ·cases h
theorem qEn (k:IntKind)(n:Nat):q0P k (q3f n [.i 0])=List.replicate n (.int k 0):=by simp[q0P,q3f,U.toI]
theorem qrR (n:Nat)(r:List U):(q3f n r).length=n:=by simp[q3f]
theorem qov {o n:Nat}{k:IntKind}(h:qEy E t=some (o,k,n)):(E.ty t).zero=(E.ty t).zero.take o++q0P k (q3f n [.i 0]):=by obtain⟨h1,h2,h3,h4,_⟩:=qjs h;rw[qEn,<-h4,qQa]
theorem qJs (hs:HSim B X){cs:List AV}{k:IntKind}{c:Array Value}{T:TypeId}(hr:RepL X cs vs)(hc:c.toList=vs++q0P k l)(hl:l.length=n) :HSim B (X.pushW (.big cs k n l) (some X.w.heap.size) (X.w.alloc (.cells c T))):=by have hw:=PushW.alloc X (.cells c T);exact hs.push hw ⟨X.w.heap.size,c,T,vs,by simp[Ctx.pushW],zS _ _,hr.ext (Ctx.push_ext hs _ hw),hc,hl⟩
theorem qsb (hs:HSim B X){cs:List AV}{k:IntKind}(hr:RepL X cs vs)(hc:v.cells.toList=vs++q0P k l)(hl:l.length=n){m:Sem Value}(hm:m.run P X.w=.ok (.pointer (some ⟨X.w.heap.size,0,none⟩)) (X.w.alloc (.cells v.cells t))) :qJ P B X (do pure (.value (<-m))) (.ptr X.h.length 0,X.h++[.big cs k n l],none):=
 ⟨.value (.pointer (some ⟨X.w.heap.size,0,none⟩)),_,X.pushW (.big cs k n l) (some X.w.heap.size) (X.w.alloc (.cells v.cells t)),by simp[hm];rfl,.inl rfl,qDc,qJs hs hr hc hl,rfl,
  Ctx.push_ext hs _ (PushW.alloc X _)⟩
theorem qvL {h:List Blk}{k:Option Blk}(hr:(qF5 h k).run=some r):∃z,k=some z/\r=(.ptr h.length 0,h++[z],none):=by
 cases k with
 | none=>cases hr
 | some z=>cases hr;exact⟨z,rfl,rfl⟩
theorem qFW (hs:HSim B X){a:AV}(hv:Rep X a v){z:Blk}(hz:qFK a=some z) :qJ P B X (do pure (.value (<-Instr.box t v))) (.ptr X.h.length 0,X.h++[z],none):=by
 unfold qFK at hz;split at hz
 ·rename_i cs k n l;split at hz
  ·cases hz;cases hv with
   | bagg _ _ _ _ vs h hl=>exact qsb (t:=t) (v:=.agg (vs++q0P k l).toArray) hs h (by simp[Value.cells]) hl (by simp[Instr.box,qa9])
  ·cases hz
 ·split at hz
  ·rename_i hc;cases hz;exact qIF hs hv hc
  ·cases hz
theorem qC5 (hE:E.tok P)(hs:HSim B X){z:Blk}(hz:qfL E t=some z) :qJ P B X (do pure (.value (<-Instr.alloc t true (.tuple #[])))) (.ptr X.h.length 0,X.h++[z],none):=by
 unfold qfL at hz;split at hz
 ·rename_i o k n hb;split at hz
  ·cases hz;obtain⟨b1,b2,b3,b4,_⟩:=qjs hb;obtain⟨v,h1,h2,_⟩:=qfq hE (t:=t) (by omega) X.w;refine qsb (t:=t) (v:=v) (vs:=(E.ty t).zero.take o) hs (jw X _) ?_ (qrR _ _) ?_
   ·rw[h2];exact qov hb
   ·simp[Instr.alloc,h1,qa9]
  ·cases hz
 ·split at hz
  ·rename_i hc;cases hz;exact qEi hE hs hc.2
  ·cases hz
theorem qxj {k:IntKind}{c:Array Value}(hc:c.toList=vs++q0P k l){j:Nat}(hj:j<l.length):c[vs.length+j]?=some (.int k (cI l j 0)):=by
 have:c.toList[vs.length+j]?=some (.int k (cI l j 0)):=by rw[hc,qOi (by omega),Nat.add_sub_cancel_left,qjd hj]
 simpa using this
theorem qJx (l:R){i:Int}(h:0<=i)(j:Nat):cI l ((i.toNat:Nat):Int) j=cI l i j:=by rw[qPP h]
theorem qBU (hE:E.tok P)(hs:HSim B X){b off n0:Nat}(hσ:X.σ b=some n0){cs:List AV}{k:IntKind}(hh:X.h[b]?=some (.big cs k n l))(h:(qH5 E X.h t off cs k n l).run=some r):∃av u,r=(av,X.h,none)/\(Instr.loadAt t (.pointer (some ⟨n0,off,none⟩))).run P X.w=.ok u X.w/\Rep X av u:=by
 obtain⟨n1,c,T,vs,e1,e2,e3,e4,e5⟩:=hs.blk b _ hh;rw[hσ] at e1;cases e1;have hlen:=e3.length;have hcl:c.size=vs.length+n:=by
  have:c.toList.length=(vs++q0P k l).length:=by rw[e4]
  simpa[yH,e5] using this
 unfold qH5 at h;by_cases hk:(E.ty t).d.known=false
 ·rw[if_pos hk] at h;cases h
 rw[if_neg hk] at h;have hk':(E.ty t).d.known=true:=by simpa using hk
 simp only[Instr.loadAt,Instr.sureAddr,qO3,qOw,qOa];unfold loadVar;rw[qO3,qdU hE hk',qOa];cases ha:(E.ty t).d.isAgg with
 | true=>
  rw[ha] at h;simp only[if_true] at h ⊢;split at h
  ·rename_i hc;obtain⟨rfl,hc2⟩:=hc;cases h;refine⟨_,.agg (vs++q0P k l).toArray,rfl,?_,.bagg _ _ _ _ vs e3 e5⟩;have:=run_loadCells_list (P:=P) X.w ⟨n0,0,none⟩ (vs++q0P k l) (fun j v hj=>by rw[qOL,zN e2,qOS];rw[<-e4] at hj;simpa using hj);have hl:(vs++q0P k l).length=(E.ty t).size:=by simp[yH];omega
   rw[hl] at this;simp[qjF hE hk',this]
  ·cases h
 | false=>
  rw[ha] at h;simp only[qOC,if_false] at h ⊢;split at h
  ·rename_i v hv;cases h;obtain⟨u,g1,g2⟩:=e3.get off v hv;have h2:X.w.cell? ⟨n0,off,none⟩=some u:=by
    rw[zN e2];have:c.toList[off]?=some u:=by rw[e4,qOb (qo g1)];exact g1
    simpa using this
   exact⟨_,u,rfl,by simp[h2],g2⟩
  ·rename_i hv;have hge:cs.length<=off:=by
    rcases qO6 off cs.length with hlt|hge
    ·rw[qO5 hlt] at hv;cases hv
    ·exact hge
   split at h
   ·rename_i hlt;cases h;have h2:X.w.cell? ⟨n0,off,none⟩=some (.int k (cI l ((off-cs.length:Nat):Int) 0)):=by
     rw[zN e2];have:=qxj e4 (j:=off-cs.length) (by omega)
     rwa [show vs.length+(off-cs.length)=off by omega] at this
    exact⟨_,_,rfl,by simp[h2],.int _ _⟩
   ·cases h
theorem qwy (hE:E.tok P)(hs:HSim B X){p:AV}(hv:Rep X p v)(h:(qdb E X.h t p).run=some r):∃av u,r=(av,X.h,none)/\(Instr.loadAt t v).run P X.w=.ok u X.w/\Rep X av u:=by
 unfold qdb at h;split at h
 ·rename_i b off;split at h
  ·rename_i cs k n l hh;cases hv with
   | ptr _ _ n0 hb hσ=>exact qBU hE hs hσ hh h
  ·exact qhA hE hs hv h
 ·rename_i b o i;split at h
  ·rename_i cs k n l hh;split at h
   ·rename_i hc;obtain⟨hc1,hc2,hc3⟩:=hc;obtain⟨g1,g2⟩:=j5 h;cases g2;obtain⟨g3,g4⟩:=ql2 g1;cases hv with
    | aptr _ _ _ n0 hb hσ h0=>
     obtain⟨n1,c,T,vs,e1,e2,e3,e4,e5⟩:=hs.blk b _ hh;rw[hσ] at e1;cases e1;have hlen:=e3.length;have h2:X.w.cell? ⟨n0,o+i.toNat,none⟩=some (.int k (cI l i 0)):=by
      rw[zN e2];have:=qxj e4 (j:=i.toNat) (by omega);rw[qJx l g3] at this
      rwa [show vs.length+i.toNat=o+i.toNat by omega] at this
     refine⟨_,_,rfl,?_,.int _ _⟩;simp only[Instr.loadAt,Instr.sureAddr,qO3,qOw,qOa];unfold loadVar;rw[qO3,qdU hE hc1,qOa,hc2];simp[h2]
   ·cases h
  ·cases h
 ·exact qhA hE hs hv h
theorem qGg (k:IntKind)(l:R)(j:Nat)(x:Int):q0P k (qaz l (j:Int) 0 [.i x])=(q0P k l).set j (.int k x):=by
 apply qOR;intro i;have hl:(qaz l (j:Int) 0 [.i x]).length=l.length:=by simp[qaz]
 by_cases hi:i<l.length
 ·rw[qjd (by omega)];by_cases hij:i=j
  ·subst hij;rw[qOc (by rw[yH];exact hi)];have:=qhy (l:=l) (i:=(i:Int)) (off:=0) (us:=[.i x]) (by simpa using hi) (j:=0);simp only[cI,this];rfl
  ·rw[qO1 (qOr hij),qjd hi];have:=qgB (l:=l) (i:=(j:Int)) (off:=0) (us:=[.i x]) (r:=i) (by simpa using hij) (j:=0);simp only[cI,this]
 ·rw[qOl (by rw[yH];omega),qOl (by simp[yH];omega)]
theorem qCM (hE:E.tok P)(hs:HSim B X){b n0 j:Nat}(hσ:X.σ b=some n0){cs:List AV}{k:IntKind}(hh:X.h[b]?=some (.big cs k n l))(hj:j<n) (hsz:(E.ty t).size=1) (x:Int):qJ P B X (do Instr.storeAt t (.pointer (some ⟨n0,cs.length+j,none⟩)) (.int k x);pure .skip) (.skip,X.h.set b (.big cs k n (qaz l (j:Int) 0 [.i x])),none):=by
 obtain⟨n1,c,T,vs,e1,e2,e3,e4,e5⟩:=hs.blk b _ hh;rw[hσ] at e1;cases e1;have hlen:=e3.length;have hcl:c.size=vs.length+n:=by
  have:c.toList.length=(vs++q0P k l).length:=by rw[e4]
  simpa[yH,e5] using this
 have hsz':(sizeOf t).run P X.w=.ok (Value.int k x).cells.size X.w:=q9w hE (by rw[hsz];rfl) (by show 1≠0;omega) X.w;have hrun:=q2t (P:=P) (t:=t) (o:=cs.length+j) (v:=.int k x) e2 hsz' (by show cs.length+j+1<=_;omega) (fun u hu=>by
  have:u=.int k x:=by simpa[Value.cells] using hu
  rw[this];rfl)
 have hc':c.toList.take (cs.length+j)++(Value.int k x).cells.toList++c.toList.drop (cs.length+j+(Value.int k x).cells.size)=vs++q0P k (qaz l (j:Int) 0 [.i x]):=by
  rw[qGg,e4];have h1:(Value.int k x).cells.toList=[.int k x]:=rfl;have h2:(Value.int k x).cells.size=1:=rfl;rw[h1,h2];apply qOR;intro i;have hsp:=qel (c:=vs++q0P k l) (vs:=[Value.int k x]) (o:=cs.length+j) (k:=i) (by simp[yH];omega);simp only[qOt,qOJ,qOS] at hsp;rw[hsp];by_cases hi:i=cs.length+j
  ·subst hi;rw[if_pos (by omega),qOi (by omega),show cs.length+j-vs.length=j by omega,qOc (by rw[yH];omega)];simp
  ·rw[if_neg (by omega)];rcases qO6 i vs.length with hlt|hge
   ·rw[qOb hlt,qOb hlt]
   ·rw[qOi hge,qOi hge,qO1 (by omega)]
 have hup:=UpdW.setRow (X:=X) (c':=(c.toList.take (cs.length+j)++(Value.int k x).cells.toList++c.toList.drop (cs.length+j+(Value.int k x).cells.size)).toArray) e2 (by have h1:(Value.int k x).cells.toList=[.int k x]:=rfl;have h2:(Value.int k x).cells.size=1:=rfl;rw[h1,h2];simp;omega);have hown:X.own b n0:=⟨hσ,_,hh,rfl⟩;have hkk:qgf (.big cs k n l) (.big cs k n (qaz l (j:Int) 0 [.i x])):=trivial;have hx:=Ctx.upd_ext hs hh hown hup hkk;refine⟨.skip,Go.undef,X.upd b (.big cs k n (qaz l (j:Int) 0 [.i x])) (X.w.setRow n0 _),?_,.inr ⟨rfl,rfl⟩,.skip,hs.upd hh hown hup hkk ?_,rfl,hx⟩
 ·simp[Instr.storeAt,Instr.sureAddr,hrun];rfl
 ·exact⟨n0,_,T,vs,hσ,hup.new,e3.ext hx,by rw[<-hc'],by simp[qaz,e5]⟩
theorem qEE (hE:E.tok P)(hs:HSim B X){b off n0:Nat}(hσ:X.σ b=some n0){cs:List AV}{k:IntKind}(hh:X.h[b]?=some (.big cs k n l)){a:AV} {v:Value} (hv:Rep X a v) {r:Res} (h:(qyD E X.h t b off cs k n l a).run=some r):qJ P B X (do Instr.storeAt t (.pointer (some ⟨n0,off,none⟩)) v;pure .skip) r:=by
 obtain⟨n1,c,T,vs,e1,e2,e3,e4,e5⟩:=hs.blk b _ hh;rw[hσ] at e1;cases e1;have hlen:=e3.length;have hcl:c.size=vs.length+n:=by
  have:c.toList.length=(vs++q0P k l).length:=by rw[e4]
  simpa[yH,e5] using this
 have hown:X.own b n0:=⟨hσ,_,hh,rfl⟩;unfold qyD at h;split at h
 ·rename_i cs' k' n' l';split at h
  ·rename_i hc;obtain⟨rfl,rfl,rfl,c1,c2,c3,c4⟩:=hc;cases h;cases hv with
   | bagg _ _ _ _ vs' h' hl'=>
    have hlen':=h'.length;have hcs:(Value.agg (vs'++q0P k l').toArray).cells.toList=vs'++q0P k l':=by simp[Value.cells]
    have hcz:(Value.agg (vs'++q0P k l').toArray).cells.size=c.size:=by simp[Value.cells,yH];omega
    have hsz':(sizeOf t).run P X.w=.ok (Value.agg (vs'++q0P k l').toArray).cells.size X.w:=q9w hE (by rw[hcz];omega) (by rw[hcz];omega) X.w;have hrun:=q2t (P:=P) (t:=t) (o:=0) (v:=.agg (vs'++q0P k l').toArray) e2 hsz' (by omega) (fun u hu=>by
     rw[hcs] at hu;rcases qOn.1 hu with hu|hu
     ·exact qc4 h' c4 u hu
     ·unfold q0P at hu;obtain⟨row,_,hr⟩:=qOP.1 hu;rw[<-hr];rfl)
    have hup:=UpdW.setRow (X:=X) (c':=(c.toList.take 0++(Value.agg (vs'++q0P k l').toArray).cells.toList++c.toList.drop (0+(Value.agg (vs'++q0P k l').toArray).cells.size)).toArray) e2 (by rw[hcs];simp[hcz,yH];omega);have hkk:qgf (.big cs k n l) (.big cs' k n l'):=trivial;have hx:=Ctx.upd_ext hs hh hown hup hkk;refine⟨.skip,Go.undef,X.upd b (.big cs' k n l') (X.w.setRow n0 _),?_,.inr ⟨rfl,rfl⟩,.skip,hs.upd hh hown hup hkk ?_,rfl,hx⟩
    ·simp only[Instr.storeAt,Instr.sureAddr,qO3,qOw,qOa,hrun];rfl
    ·refine⟨n0,_,T,vs',hσ,hup.new,h'.ext hx,?_,hl'⟩;rw[hcs];simp[hcz]
  ·cases h
 ·rename_i hnb;split at h
  ·rename_i hc;obtain⟨c1,c2,c3⟩:=hc;split at h
   ·rename_i hle;have hle':off+a.cells.length<=cs.length:=Nat.le_of_ble_eq_true hle;cases h;have hrl:=qiy hv c2;have hlenv:v.cells.size=a.cells.length:=by have:=hrl.length;simpa using this.symm
    have hone:=qc4 hrl c2;have hsz:(sizeOf t).run P X.w=.ok v.cells.size X.w:=by rw[hlenv];exact q9w hE c1 c3 X.w
    have hrun:=q2t (P:=P) (t:=t) (o:=off) (v:=v) e2 hsz (by omega) hone;have hup:=UpdW.setRow (X:=X) (c':=(c.toList.take off++v.cells.toList++c.toList.drop (off+v.cells.size)).toArray) e2 (by simp;omega);have hkk:qgf (.big cs k n l) (.big (qpK cs off a.cells) k n l):=trivial;have hx:=Ctx.upd_ext hs hh hown hup hkk;refine⟨.skip,Go.undef,X.upd b (.big (qpK cs off a.cells) k n l) (X.w.setRow n0 _),?_,.inr ⟨rfl,rfl⟩,.skip,hs.upd hh hown hup hkk ?_,rfl,hx⟩
    ·simp[Instr.storeAt,Instr.sureAddr,hrun];rfl
    ·refine⟨n0,_,T,vs.take off++v.cells.toList++vs.drop (off+a.cells.length),hσ,hup.new,(qfk e3 hrl off).ext hx,?_,e5⟩;show c.toList.take off++v.cells.toList++c.toList.drop (off+v.cells.size)=_;rw[e4,hlenv,List.take_append_of_le_length (by omega),List.drop_append_of_le_length (by omega)];simp
   ·split at h
    ·rename_i k' x hx;split at h
     ·rename_i hc2;obtain⟨rfl,d1,d2⟩:=hc2;cases h;obtain rfl:=q3d hv hx;have hone:a.cells.length=1:=by cases a<;>simp[asI] at hx<;>rfl
      have:=qCM (P:=P) hE hs hσ hh (j:=off-cs.length) (by omega) (t:=t) (by omega) x
      rwa [show cs.length+(off-cs.length)=off by omega] at this
     ·cases h
    ·cases h
  ·cases h
theorem qy5 (hE:E.tok P)(hs:HSim B X){p a:AV}{vp v:Value}(hp:Rep X p vp)(hv:Rep X a v)(h:(kz E X.h t p a).run=some r):qJ P B X (do Instr.storeAt t vp v;pure .skip) r:=by
 unfold kz at h;split at h
 ·rename_i b off;split at h
  ·rename_i cs k n l hh;cases hp with
   | ptr _ _ n0 hb hσ=>exact qEE hE hs hσ hh hv h
  ·exact qpD hE hs hp hv h
 ·rename_i b o i;split at h
  ·rename_i cs k n l hh;split at h
   ·rename_i k' x hx;split at h
    ·rename_i hc;obtain⟨rfl,rfl,hc3⟩:=hc;obtain⟨g1,g2⟩:=j5 h;cases g2;obtain⟨g3,g4⟩:=ql2 g1;obtain rfl:=q3d hv hx;cases hp with
     | aptr _ _ _ n0 hb hσ h0=>
      have:=qCM (P:=P) hE hs hσ hh (j:=i.toNat) (by omega) (t:=t) hc3 x
      rwa [qPP h0] at this
    ·cases h
   ·cases h
  ·cases h
 ·exact qpD hE hs hp hv h
theorem qmN (hE:E.tok P)(hs:HSim B X){a ai:AV}{v vi:Value}(hv:Rep X a v)(hi:Rep X ai vi)(h:(q0o E X.h t a ai).run=some r):∃av u,r=(av,X.h,none)/\(Instr.indexAt t v vi).run P X.w=.ok u X.w/\Rep X av u:=by
 unfold q0o at h;split at h
 ·rename_i n e es hd;split at h
  ·split at h
   ·rename_i b off;split at h
    ·rename_i k i;split at h
     ·rename_i hes;obtain⟨ht,hce⟩:=q7C hE hd;obtain⟨g1,g2⟩:=j5 h;cases g2;obtain⟨g3,g4⟩:=ql2 g1;obtain rfl:=q3d hi rfl;cases hv with
      | ptr _ _ n0 hb hσ=>
       refine⟨_,_,rfl,kT ht (by omega) g3 g4,?_⟩;rw[qOL,<-hce,hes,qPC];exact .aptr b off i n0 hb hσ g3
     ·cases h
    ·exact q31 hE hs hv hi h
   ·exact q31 hE hs hv hi h
  ·exact q31 hE hs hv hi h
 ·exact q31 hE hs hv hi h
theorem qkA{X:Ctx}{place:Nat->Option (Nat×Nat)}(tl:List Value):∀{parts:List (Nat×AV)} {vparts:List (Nat×Value)} {cells cs:List AV} {vc:Array Value} {vs:List Value},
  qdP place cells parts=some cs->RepP X parts vparts->RepL X cells vs->vc.toList=vs++tl->∃vc' vs',Instr.fill place vc vparts=some vc'/\RepL X cs vs'/\vc'.toList=vs'++tl
 | [],_,cells,cs,vc,vs,h,hp,hr,hv=>by
  cases hp;simp only[qdP,qNY] at h;subst h;exact⟨vc,vs,rfl,hr,hv⟩
 | (i,a)::rest,_,cells,cs,vc,vs,h,hp,hr,hv=>by
  cases hp with
  | cons ha ht=>
  rename_i v m;simp only[qdP] at h;cases hpl:place i with
  | none=>rw[hpl] at h;cases h
  | some q=>
   obtain⟨off,size⟩:=q;rw[hpl] at h;simp only at h;by_cases hc:a.cells.length=size/\off+a.cells.length<=cells.length/\yl a.cells=true
   ·rw[if_pos hc] at h;have hrl:=qiy ha hc.2.2;have hlen:v.cells.size=a.cells.length:=by have:=hrl.length;simpa using this.symm
    have hvs:cells.length=vs.length:=hr.length;have hvc:vc.size=vs.length+tl.length:=by
     have:vc.toList.length=(vs++tl).length:=by rw[hv]
     simpa using this
    have hnot:¬(v.cells.size≠size\/off+v.cells.size>vc.size):=by omega
    have hf:=qvS v.cells vc off (by omega);obtain⟨vc',vs',h1,h2,h3⟩:=qkA tl (vc:=v.cells.zipIdx.foldl (fun cs (x:Value×Nat)=>cs.setIfInBounds (off+x.2) x.1) vc) (vs:=vs.take off++v.cells.toList++vs.drop (off+a.cells.length)) h ht (qfk hr hrl off) (by rw[hf,hlen,hv,List.take_append_of_le_length (by omega),List.drop_append_of_le_length (by omega)];simp);refine⟨vc',vs',?_,h2,h3⟩;simp only[Instr.fill,hpl];rw[if_neg (by simpa using hnot)];exact h1
   ·rw[if_neg hc] at h;cases h
theorem qua (hE:E.tok P){parts:List (Nat×AV)}{vparts:Array (Nat×Value)}(hp:RepP X parts vparts.toList)(h:(qc9 E X.h t parts).run=some r):∃av u,r=(av,X.h,none)/\(Instr.build t vparts).run P X.w=.ok u X.w/\Rep X av u:=by
 unfold qc9 at h;split at h
 ·rename_i o k n hb;obtain⟨b1,b2,b3,b4,_⟩:=qjs hb;split at h
  ·rename_i fs hd;split at h
   ·rename_i hok;obtain⟨z,z1,z2,_⟩:=qfq hE (t:=t) (by omega) X.w;obtain⟨fields,e1,e2⟩:=q8n hE hd;have hinfo:∀f∈fields.toList,(P.info? f.type).isSome=true:=by have hk:=kB hE (t:=t) (by rw[hd];rfl);rw[hk.1] at hok;unfold qAu at hok;obtain⟨_,i,dd,h1,_⟩:=hk;rw[h1] at hok;simpa only [e1,qOy] using hok
    cases hf:qdP (fun i=>(fs[i]?).map fun (f:Nat×TypeId×Nat)=>(f.1,f.2.2)) (((E.ty t).zero.take o).map jg) parts with
    | none=>rw[hf] at h;cases h
    | some cs=>
     rw[hf] at h;cases h;have hpl:(fun i:Nat=>(fs[i]?).map fun (f:Nat×TypeId×Nat)=>(f.1,f.2.2))=fun i:Nat=>(fields.map fun f=>(f.offset,P.cellsOf f.type))[i]?:=by funext i;rw[e2];simp only[qO8,qQ5,Array.getElem?_map,Option.map_map];rfl
     rw[hpl] at hf;obtain⟨vc,vs',f1,f2,f3⟩:=qkA (q0P k (q3f n [.i 0])) (vc:=z.cells) (vs:=(E.ty t).zero.take o) hf hp (jw X _) (by rw[z2];exact qov hb);have:Rep X (.bagg cs k n (q3f n [.i 0])) (.agg (vs'++q0P k (q3f n [.i 0])).toArray):=.bagg _ _ _ _ _ f2 (qrR _ _);rw[<-f3] at this;refine⟨_,.agg vc,rfl,?_,by simpa using this⟩;have hm:=qD4 (P:=P) (f:=fun f:Field=>(do pure (f.offset,<-sizeOf f.type):Sem (Nat×Nat))) (g:=fun f=>(f.offset,P.cellsOf f.type)) fields (fun f hf w=>by
      have:=hinfo f hf;cases hi:P.info? f.type with
      | none=>rw[hi] at this;cases this
      | some i=>simp[sizeOf,typeInfo,hi,Program.cellsOf]) X.w
     simp only[Instr.build,qO3,z1,qOa,run_underlying e1];rw[hm];simp only[qOa,f1];rfl
   ·cases h
  ·cases h
 ·exact qwK hE hp h
theorem qeG {t e:TypeId}{ad:Addr}{vlo vhi:Option Value}{a b:Nat}(ht:P.underlying t=some (.array n e))(hp:0<P.cellsOf e)(hb:(Instr.sliceBounds false n n vlo vhi none).run P w=.ok (a,b,n) w) :(Instr.sliceAt t (.pointer (some ad)) vlo vhi none).run P w=.ok (.slice (some (if n=a then ad else ad.add (a*P.cellsOf e))) (b-a) (n-a)) w:=by simp[Instr.sliceAt,run_underlying ht,Instr.sureAddr,hb,zw hp]
theorem qnq {t e:TypeId}{ad:Addr}{vlo vhi vmx:Option Value}{a b:Nat}(ht:P.underlying t=some (.array n e))(hp:0<P.cellsOf e)(hb:(Instr.sliceBounds false n n vlo vhi vmx).run P w=.ok (a,b,b) w) :(Instr.sliceAt t (.pointer (some ad)) vlo vhi vmx).run P w=.ok (.slice (some (if b=a then ad else ad.add (a*P.cellsOf e))) (b-a) (b-a)) w:=by simp[Instr.sliceAt,run_underlying ht,Instr.sureAddr,hb,zw hp]
theorem Sh.beq_eq1 {s t:Sh}(h:Sh.beq s t=true):s=t:=by
 have:Sh.beqL [s] [t]=true:=by simp[Sh.beqL,h]
 have:=Sh.beqL_eq _ _ this;cases this;rfl
theorem qBy {M:Nat->Prop}{sh:List Sh}{i:Int}{off n:Nat}{s:Sh}{rows:R}(h:qBc sh l i off n=some (s,rows)){a:Addr}(_:a.spot=none)(hr:Rows w M sh l a) :rows.length=n/\i=0/\qfe w M [s] rows (.slice (some ⟨a.block,a.off+i.toNat*sh.length+off,none⟩) n n):=by
 unfold qBc at h;split at h
 ·rename_i s' row hs;split at h
  ·rename_i hc;obtain⟨⟨rfl,c1⟩,c2,c3⟩:=hc;cases h;have hl:(((row.drop off).take n).map fun u=>[u]).length=n:=by simp;omega
   refine⟨hl,rfl,.inr ⟨_,n,by rw[hl],fun _=>rfl,by rw[hl];exact qO0 n,fun r j hj hrn=>?_⟩⟩;rw[hl] at hrn;have hj0:j=0:=by simpa using hj
   subst hj0;have hlt:off+r<sh.length:=by omega
   obtain⟨g1,v,g2,g3⟩:=hr 0 (off+r) hlt (by simp);refine⟨g1,v,?_,?_⟩
   ·rw[<-g2];show World.cell? w ⟨a.block,a.off+(0:Int).toNat*sh.length+off+r*1+0,none⟩=_;congr 2;simp;omega
   ·have e1:sh[off+r]=s:=by
     have hm:sh[off+r]∈(sh.drop off).take n:=by rw[List.mem_iff_getElem];refine⟨r,by simp;omega,by simp⟩
     exact(Sh.beq_eq1 (qOy.1 c2 _ hm)).symm
    have e2:zH [row] ((0:Nat):Int) (off+r)=zH (((row.drop off).take n).map fun u=>[u]) (r:Int) 0:=by
     unfold zH;have h1:(((row.drop off).take n).map fun u=>[u]).getD ((r:Nat):Int).toNat []=[row.getD (off+r) (.i 0)]:=by rw[qO9,qNZ,qO8,qP3,if_pos hrn,qP4,qNZ,qO5 (show off+r<row.length by omega)];rfl
     rw[h1];rfl
    rw[e1] at g3;rw[<-e2];exact g3
  ·cases h
 ·cases h
theorem qsN {lo:Option AV}{vlo:Option Value}(hlo:RepO X lo vlo){k k':IntKind}{a b:Int}(h1:qeI lo 0=some a) (hb:b<=n) (ha0:0<=a) (ha:a<=b) (w:World) :(Instr.sliceBounds false n n vlo (some (.int k b)) (some (.int k' b))).run P w=.ok (a.toNat,b.toNat,b.toNat) w:=by
 have hb0:0<=b:=by omega
 have hba:a<=(b.toNat:Nat):=by omega
 have hbb:b<=(b.toNat:Nat):=by omega
 rcases qno hlo h1 with⟨rfl,rfl⟩|⟨k,rfl⟩
 ·simp[Instr.sliceBounds,zj hb0 hb,zj hb0 hbb]
 ·simp[Instr.sliceBounds,zj hb0 hb,zj hb0 hbb,zj ha0 hba]
theorem qBI (hs:HSim B X){t e:TypeId}(hta:P.underlying t=some (.array n e))(hce:P.cellsOf e=1){ad:Addr}{s:Sh}{rows:R}(hl:rows.length=n)(himm:qfe X.w X.M [s] rows (.slice (some ad) n n)) {lo hi mx:Option AV} {vlo vhi vmx:Option Value} (hlo:RepO X lo vlo) (hhi:RepO X hi vhi) (hmx:RepO X mx vmx) {r:Res}(h:(qyY X.h n s rows lo hi mx).run=some r):qJ P B X (do pure (.value (<-Instr.sliceAt t (.pointer (some ad)) vlo vhi vmx))) r:=by
 have hrl:qg rows=(n:Int):=by unfold qg;rw[hl]
 unfold qyY at h;cases mx with
 | none=>
  cases hmx;simp only at h;cases h1:qeI lo 0 with
  | none=>rw[h1] at h;cases h
  | some x=>
   cases h2:qeI hi n with
   | none=>rw[h1,h2] at h;cases h
   | some y=>
    rw[h1,h2] at h;obtain⟨g1,g2⟩:=j5 h;obtain⟨g3,g4⟩:=j5 g2;cases g4;obtain⟨q1,q2⟩:=kF g1;obtain⟨q3,q4⟩:=kF g3;have hrun:=qeG (P:=P) (w:=X.w) (ad:=ad) hta (by omega) (q02 hlo hhi h1 h2 rfl q1 (by omega) q3 q4 _);refine qJ.ofV hs hrun ?_;obtain⟨_,_,w3⟩:=qsV himm q3 q4 (by rw[hrl];exact q2);refine .imm _ _ _ ?_;rw[hce];have e0:(if n=x.toNat then some ad else (some ad).map (·.add (x.toNat*[s].length)))=some (if n=x.toNat then ad else ad.add (x.toNat*1)):=by split<;>rfl
    rw[e0] at w3;exact w3
 | some m=>
  simp only at h;cases h1:qeI lo 0 with
  | none=>rw[h1] at h;cases h
  | some x=>
   cases hi with
   | none=>rw[h1] at h;cases h
   | some y=>
   rw[h1] at h;simp only[qOp] at h;cases h2:asI y with
   | none=>rw[h2] at h;cases h
   | some p=>
    obtain⟨k1,c⟩:=p;cases h3:asI m with
    | none=>rw[h2,h3] at h;cases h
    | some p'=>
     obtain⟨k2,d⟩:=p';rw[h2,h3] at h;obtain⟨g1,g2⟩:=j5 h;obtain⟨g3,g4⟩:=j5 g2;obtain⟨g5,g6⟩:=j5 g4;cases g6;obtain⟨q1,q2⟩:=kF g1;obtain⟨q3,q4⟩:=kF g3;have hcd:c=d:=of_decide_eq_true g5;subst hcd;cases hhi with
     | some hy=>
      cases hmx with
      | some hm=>
       obtain⟨k3,rfl⟩:=qwC hy h2;obtain⟨k4,rfl⟩:=qwC hm h3;have hrun:=qnq (P:=P) (w:=X.w) (ad:=ad) hta (by omega) (qsN (k:=k3) (k':=k4) hlo h1 q2 q3 q4 _);refine qJ.ofV hs hrun ?_;obtain⟨_,w3⟩:=qvF himm q3 q4 (by rw[hrl];exact q2);rw[hce];have e0:(if c.toNat=x.toNat then some ad else (some ad).map (·.add (x.toNat*[s].length)))=some (if c.toNat=x.toNat then ad else ad.add (x.toNat*1)):=by split<;>rfl
       rw[e0] at w3;exact .full _ _ _ _ w3
theorem qxf (hE:E.tok P)(hs:HSim B X){a:AV}{lo hi mx:Option AV}{vlo vhi vmx:Option Value}(hv:Rep X a v)(hlo:RepO X lo vlo) (hhi:RepO X hi vhi) (hmx:RepO X mx vmx) {r:Res} (h:(yT E X.h t a lo hi mx).run=some r) :qJ P B X (do pure (.value (<-Instr.sliceAt t v vlo vhi vmx))) r:=by
 unfold yT at h;split at h
 ·rename_i n e es hd;obtain⟨hta,hce⟩:=q7C hE hd;split at h
  ·rename_i sh l i off;split at h
   ·rename_i hes;split at h
    ·rename_i s rows har;cases hv with
     | eptr _ _ _ _ a hsp h0 h1 hr=>
      obtain⟨hl,hi0,himm⟩:=qBy har hsp hr;exact qBI hs hta (by omega) hl himm hlo hhi hmx h
    ·cases h
   ·cases h
  ·rename_i b off;split at h
   ·cases hmx
    ·split at h
     ·rename_i hes;unfold qJa at h;cases h1:qeI lo 0 with
      | none=>rw[h1] at h;cases h
      | some x=>
       cases h2:qeI hi n with
       | none=>rw[h1,h2] at h;cases h
       | some y=>
        rw[h1,h2] at h;obtain⟨g1,g2⟩:=j5 h;obtain⟨g3,g4⟩:=j5 g2;cases g4;obtain⟨q1,q2⟩:=kF g1;obtain⟨q3,q4⟩:=kF g3;cases hv with
        | ptr _ _ n0 hb hσ=>
         have hrun:=qeG (P:=P) (w:=X.w) (ad:=⟨n0,off,none⟩) hta (by omega) (q02 hlo hhi h1 h2 rfl q1 (by omega) q3 q4 _);refine qJ.ofV hs hrun ?_;have he1:P.cellsOf e=1:=by omega
         have hk:(if n=x.toNat then (⟨n0,off,none⟩:Addr) else Addr.add ⟨n0,off,none⟩ (x.toNat*P.cellsOf e))=⟨n0,if n=x.toNat then off else off+x.toNat,none⟩:=by
          split
          ·rfl
          ·rw[qOL,he1,qPC]
         rw[hk];have hyx:qB6 y x=y-x:=rfl;have hn:y.toNat-x.toNat=(qB6 y x).toNat:=by rw[hyx];omega
         rw[hn];refine .asub b off n x (qB6 y x) n0 _ _ hb hσ q3 (by rw[hyx];omega) (by rw[hyx];omega) ?_;split
         ·right;rw[hyx];omega
         ·exact .inl rfl
     ·cases h
   ·cases h
  ·cases h
 ·exact qA9 hE hs hv hlo hhi hmx h
theorem qFE {l l':R}{i i' c:Int}(h0:0<=i)(h0':0<=i')(hc:0<=c)(h1:i+c<=l.length)(h2:i'+c<=l'.length):(qmH l i l' i' c).length=l.length:=by simp[qmH];omega
theorem qzt (hE:E.tok P)(hs:HSim B X){ts:List TypeId}{azz:List AV}(hv:RepL X azz vs)(h:(qyo E X.h ts azz).run=some r)(ty:TypeId) :qJ P B X (do pure (.value (<-Builtin.copy_ ts.toArray ty vs.toArray))) r:=by
 unfold qyo at h;split at h
 ·rename_i t t' b o n i m b' o' n' i' m';split at h
  ·rename_i e es hd;obtain⟨ht,hce⟩:=q0S hE hd;split at h
   ·rename_i cs k N l hb;split at h
    ·rename_i cs' k' N' l' hb';split at h
     ·rename_i hc;obtain⟨hes,rfl,rfl,rfl,rfl,rfl⟩:=hc;cases h;cases hv with
      | cons hv1 hv=>cases hv with
       | cons hv2 hv=>cases hv with
        | nil=>
         cases hv1 with
         | asub _ _ _ _ _ n0 k0 c0 hbl hσ i0 m0 im hk=>
          cases hv2 with
          | asub _ _ _ _ _ n1 k1 c1 hbl' hσ' i0' m0' im' hk'=>
           obtain⟨q,c,T,us,e1,e2,e3,e4,e5⟩:=hs.blk b _ hb;rw[hσ] at e1;cases e1;obtain⟨q',c',T',us',f1,f2,f3,f4,f5⟩:=hs.blk b' _ hb';rw[hσ'] at f1;cases f1;have hlen:=e3.length;have hlen':=f3.length;have hcl:c.size=us.length+n:=by
            have:c.toList.length=(us++q0P k l).length:=by rw[e4]
            simpa[yH,e5] using this
           obtain⟨d,hd0,hd1⟩:∃d:Int,d=qjL m' m/\0<=d/\d<=m/\d<=m':=by refine⟨_,rfl,?_⟩;unfold qjL;split<;>omega
           rw[<-hd0];have hdn:d.toNat=Nat.min m'.toNat m.toNat:=by rw[hd0];unfold qjL;show _=min m'.toNat m.toNat;split<;>omega
           let ws:List Value:=(List.range d.toNat).map fun j:Nat=>Value.int k (cI l' ((i'.toNat+j:Nat):Int) 0)
           have hwl:ws.length=d.toNat:=by simp[ws]
           have hcell:∀j v,ws[j]?=some v->X.w.cell? (Addr.add ⟨n1,k1,none⟩ j)=some v:=by
            intro j v hj;have hjd:j<d.toNat:=by have:=qo hj;omega
            simp only[ws,qO8,qOD hjd,qOz,qNY] at hj;rw[qOL,zN f2,<-hj];rcases hk' with hk'|hk'
            ·rw[hk',show cs'.length+i'.toNat+j=us'.length+(i'.toNat+j) by omega];exact qxj f4 (by omega)
            ·omega
           have hone:∀v∈ws,v.oneCell'=true:=by intro v hv;obtain⟨j,_,hj⟩:=qOP.1 hv;rw[<-hj];rfl
           have hkd:k0=cs.length+i.toNat\/ws=[]:=by
            rcases hk with hk|hk
            ·exact .inl hk
            ·exact .inr (qPu (by omega))
           have hinfo:(P.info? e).map (·.size)=some 1:=by obtain⟨ii,w1,w2⟩:=qBV (P:=P) (e:=e) (by omega);rw[w1,qOz,w2,<-hce,hes]
           have hmin:ws.length=Nat.min m'.toNat m.toNat:=by omega
           have hown:X.own b n0:=⟨hσ,_,hb,rfl⟩;have hkk:qgf (.big cs k n l) (.big cs k n (qmH l i l' i' d)):=trivial;have hrl:(qmH l i l' i' d).length=l.length:=qFE i0 i0' hd1.1 (by omega) (by omega);have hint:q0P k (qmH l i l' i' d)=(q0P k l).take i.toNat++ws++(q0P k l).drop (i.toNat+d.toNat):=by
            apply qOR;intro j;have hsp:=qel (c:=q0P k l) (vs:=ws) (o:=i.toNat) (k:=j) (by rw[hwl,yH];omega);rw[hwl] at hsp;rw[hsp];by_cases hj:j<l.length
            ·rw[qjd (by omega)];have hli:(l.take i.toNat).length=i.toNat:=by simp;omega
             have hld:((l'.drop i'.toNat).take d.toNat).length=d.toNat:=by simp;omega
             have hcu:∀(f:R) (k:Nat),cI f (k:Int) 0=((f[k]?.getD []).getD 0 (.i 0)).toI:=fun f k=>by unfold cI zH;rw[qO9,qNZ (l:=f)]
             split
             ·rename_i hin;simp only[ws,qO8,qOD (show j-i.toNat<d.toNat by omega),qOz,qNY];congr 1;rw[hcu,hcu];unfold qmH;rw[qOu,qOi (by omega),hli,qOb (by omega),qP3,if_pos (by omega),qP4]
             ·rename_i hout;rw[qjd hj];congr 2;rw[hcu,hcu];unfold qmH;rcases qO6 j i.toNat with hlt|hge
              ·rw[qOu,qOb (by omega),qP3,if_pos hlt]
              ·rw[qOi (by simp only[qOh];omega),qP4];simp only[qOh,hli,hld];rw[show i.toNat+d.toNat+(j-(i.toNat+d.toNat))=j by omega]
            ·rw[qOl (by rw[yH];omega)];rw[if_neg (by omega),qOl (by rw[yH];omega)]
           have hrow:c.toList.take k0++ws++c.toList.drop (k0+ws.length)=us++q0P k (qmH l i l' i' d):=by
            rw[hint];rcases hkd with hkd|hkd
            ·rw[e4,hkd,hwl,hlen,List.take_append,List.drop_append,List.take_of_length_le (by omega),qPD (show us.length<=us.length+i.toNat+d.toNat by omega)];rw[show us.length+i.toNat-us.length=i.toNat by omega,show us.length+i.toNat+d.toNat-us.length=i.toNat+d.toNat by omega];simp
            ·have hd00:d.toNat=0:=by rw[<-hwl,hkd];rfl
             rw[hkd,hd00];simp[e4]
           have hfit:k0+ws.length<=c.size\/ws=[]:=by
            rcases hkd with hkd|hkd
            ·left;omega
            ·exact .inr hkd
           rcases hfit with hfit|hfit
           ·have hrun:=run_copy_row (P:=P) X.w t t' ty e n0 k0 m.toNat c0 ⟨n1,k1,none⟩ m'.toNat c1 c T ws ht hinfo e2 hmin hcell hfit hone;have hup:=UpdW.setRow (X:=X) (c':=(c.toList.take k0++ws++c.toList.drop (k0+ws.length)).toArray) e2 (by simp;omega);have hx:=Ctx.upd_ext hs hb hown hup hkk;refine⟨.value (goInt ws.length),goInt ws.length,X.upd b (.big cs k n (qmH l i l' i' d)) (X.w.setRow n0 _),?_,.inl rfl,?_,hs.upd hb hown hup hkk ?_,rfl,hx⟩
            ·rw[qO3];have:(#[Value.slice (some ⟨n0,k0,none⟩) m.toNat c0,Value.slice (some ⟨n1,k1,none⟩) m'.toNat c1]:Array Value)=List.toArray [.slice (some ⟨n0,k0,none⟩) m.toNat c0,.slice (some ⟨n1,k1,none⟩) m'.toNat c1]:=rfl;rw[<-this];have h2:(#[t,t']:Array TypeId)=List.toArray [t,t']:=rfl;rw[<-h2,hrun];rfl
            ·have:goInt ws.length=.int .i64 d:=by show Value.int .i64 (ws.length:Int)=_;rw[hwl,qPP hd1.1]
             rw[this];exact .int _ _
            ·exact⟨n0,_,T,us,hσ,hup.new,e3.ext hx,by rw[<-hrow],by rw[hrl];exact e5⟩
           ·
            have hd00:d.toNat=0:=by rw[<-hwl,hfit];rfl
            have hrun:(Builtin.copy_ (List.toArray [t,t']) ty (List.toArray [.slice (some ⟨n0,k0,none⟩) m.toNat c0,.slice (some ⟨n1,k1,none⟩) m'.toNat c1])).run P X.w=.ok (goInt 0) X.w:=by
             have hl:=run_loadCells_list (P:=P) X.w ⟨n1,k1,none⟩ ws hcell;cases hq:P.info? e with
             | none=>rw[hq] at hinfo;cases hinfo
             | some ii=>
              have hsize:ii.size=1:=by rw[hq] at hinfo;simpa using hinfo
              have hmz:Nat.min m'.toNat m.toNat=0:=by omega
              rw[hfit] at hl;simp only[qOJ] at hl;simp[Builtin.copy_,run_underlying ht,Builtin.lenOf,Builtin.firstCells,sizeOf,typeInfo,hq,hmz,hl,storeCells]
            have hw:X.w=X.w.setRow n0 c:=(setRow_self X.w n0 c T (0,0) e2).symm;have hup:UpdW X n0 c c T X.w:=⟨e2,e2,rfl,fun _ _=>rfl,rfl,rfl,rfl,rfl⟩;have hx:=Ctx.upd_ext hs hb hown hup hkk;refine⟨.value (goInt 0),goInt 0,X.upd b (.big cs k n (qmH l i l' i' d)) X.w,?_,.inl rfl,?_,hs.upd hb hown hup hkk ?_,rfl,hx⟩
            ·rw[qO3,hrun];rfl
            ·have:goInt 0=.int .i64 d:=by show Value.int .i64 (0:Int)=_;congr 1;omega
             rw[this];exact .int _ _
            ·refine⟨n0,c,T,us,hσ,e2,e3.ext hx,?_,by rw[hrl];exact e5⟩;rw[<-hrow,hfit];simp
     ·cases h
    ·cases h
   ·cases h
  ·cases h
 ·exact qBj hE hs hv h ty
end Go.Eng

namespace Go.Eng
variable {B:Base}{E:Env}{P:Program}{X:Ctx}{a:Act}{r:Res}{st:St}
theorem Move.transl {X Y Z:Ctx}{f:Nat->Option Nat}(h:Ext X Y)(k:Move Y Z f):Move X Z f:=by refine Move.of (fun n hn=>k.M n (h.M n hn)) (fun a ha=>(k.w a (h.M _ ha)).trans (h.w a ha)) (fun b1 b2 hb1 hf=>?_) (k.y.trans h.y) (k.kept.trans h.kept);have k1:=h.b b1 b1 hb1 rfl;have k2:=k.b b1 b2 k1.lt hf;refine⟨k2.lt,k2.σ.trans k1.σ,fun sh m hv=>k1.vec sh m (k2.vec sh m hv),fun sh m hv n hn c T fr hc=>?_⟩;obtain⟨c1,T1,fr1,e1,e2⟩:=k1.size sh m (k2.vec sh m hv) n hn c T fr hc;obtain⟨c2,T2,fr2,e3,e4⟩:=k2.size sh m hv n (by rw[k1.σ];exact hn) c1 T1 fr1 e1;exact⟨c2,T2,fr2,e3,e4.trans e2⟩
theorem qJ.frozen {X X1:Ctx}{h':List Blk}{m:Sem Next}(fz:Frozen B X X1 h')(h:qJ P B X1 m r):qJ P B X m r:=by
 obtain⟨nx,v,X',g1,g2,g3,g4,g5⟩:=h;refine⟨nx,v,X',by rw[<-fz.w];exact g1,g2,g3,g4,?_⟩;cases hn:r.2.2 with
 | none=>rw[hn] at g5;exact⟨g5.1,fz.ext.trans g5.2⟩
 | some b=>rw[hn] at g5;exact⟨g5.1,Move.transl fz.ext g5.2⟩
theorem qKA (hs:HSim B X){x:AV}{vx:Value}(h2:Rep X x vx){sh:List Sh}{m:R}(hm:vq X.h x=some (sh,m)) :∃X1,Frozen B X X1 (jY X.h x)/\Src P X1 sh m vx:=by
 cases h2 with
 | imm sh' l v himm=>
  simp only[vq,qNY,qOx] at hm;obtain⟨rfl,rfl⟩:=hm;exact⟨X,⟨rfl,rfl,rfl,hs,Ext.refl X⟩,qwf himm⟩
 | vec b p n c hb hv=>
  obtain⟨e0,hh⟩:=qdL hm;obtain⟨X1,fz⟩:=qic hs b;have hfr:X1.h[b]?=some (.frz e0 sh m):=by rw[fz.h];exact qid hh
  exact⟨X1,fz,qwf (qji fz.hs hfr ((Rep.vec b p n c hb hv).ext fz.ext))⟩
 | _=>simp[vq] at hm
theorem qeM (hs:HSim B X){t e ty:TypeId}{sh:List Sh}{s x:AV}{vs vx:Value}{i:TypeInfo}{z:Value}(ht:P.underlying t=some (.slice e))(hc2:0<P.cellsOf e)(hc1:sh.length=P.cellsOf e) {rm:Int} (he:ElemOk rm P e (P.cellsOf e) i z) (h1:Rep X s vs) (h2:Rep X x vx) {r:Res} (hh:(qmf rm X.h e sh s x).run=some r) :qJ P B X (do pure (.value (<-Builtin.append_ #[t,t] ty #[vs,vx]))) r:=by
 unfold qmf at hh;cases hr:vq X.h x with
 | none=>rw[hr] at hh;cases hh
 | some q=>
  obtain⟨sh',m⟩:=q;rw[hr] at hh;simp only at hh;by_cases hbq:Sh.beqL sh sh'=true
  ·rw[if_pos hbq] at hh;obtain rfl:=Sh.beqL_eq _ _ hbq;obtain⟨X1,fz,hsrc⟩:=qKA (P:=P) hs h2 hr;have hlen:X1.h.length=X.h.length:=by rw[fz.h];cases x<;>simp[jY,qdc]
   cases h1 with
   | nils=>
    simp only at hh;obtain⟨g1,g2⟩:=j5 hh;cases g2;have:=qiW (ty:=ty) fz.hs ht hc2 hc1 he hsrc (of_decide_eq_true g1);rw[hlen,fz.h] at this;exact this.frozen fz
   | vec b p n c hb hv=>
    simp only at hh;cases hbk:X.h[b]? with
    | none=>rw[hbk] at hh;cases hh
    | some k=>
     rw[hbk] at hh;cases k<;>try (cases hh)
     rename_i e' sh'' l;simp only at hh;by_cases hq:Sh.beqL sh sh''=true/\e=e'
     ·rw[if_pos hq] at hh;obtain rfl:=Sh.beqL_eq _ _ hq.1;obtain rfl:=hq.2;have hrep:Rep X (.vec b) (.slice p n c):=.vec b p n c hb hv;by_cases hxv:∃b',x=AV.vec b'
      ·obtain⟨b',rfl⟩:=hxv;simp only[qGI] at hh;by_cases hbb:b=b'
       ·rw[if_pos hbb] at hh;cases hh
       rw[if_neg hbb] at hh;obtain⟨g1,g2⟩:=j5 hh;cases g2;have hb1:X1.h[b]?=some (.vec e sh l):=by
        rw[fz.h];simp only[jY,zE];split
        ·rw[qO1 (qOr hbb)];exact hbk
        ·exact hbk
       have:=qiv (ty:=ty) fz.hs ht hc2 hc1 he hb1 (hrep.ext fz.ext) hsrc (of_decide_eq_true g1);rw[fz.h] at this;exact this.frozen fz
      ·have hh':(Tree.br (ile (qg l+qg m) rm) (.leaf ((.vec b,X.h.set b (.vec e sh (zD l m)),some b):Res)) .fail).run=some r:=by cases x<;>first|exact hh|exact absurd ⟨_,rfl⟩ hxv
       obtain⟨g1,g2⟩:=j5 hh';cases g2;have hx1:X1.h=X.h:=by rw[fz.h];cases x<;>first|rfl|exact absurd ⟨_,rfl⟩ hxv
       have:=qiv (ty:=ty) fz.hs ht hc2 hc1 he (by rw[hx1];exact hbk) (hrep.ext fz.ext) hsrc (of_decide_eq_true g1);rw[hx1] at this;exact this.frozen fz
     ·rw[if_neg hq] at hh;cases hh
   | full sh'' l p n himm=>
    simp only at hh;by_cases hq:Sh.beqL sh sh''=true
    ·rw[if_pos hq] at hh;obtain rfl:=Sh.beqL_eq _ _ hq;have hrep:=(Rep.full (X:=X) sh l p n himm).ext fz.ext;cases hrep with
     | full _ _ _ _ himm'=>
      cases hlt:ilt 0 (qg m) with
      | true=>
       rw[hlt] at hh;obtain⟨g3,g4⟩:=j5 (show (Tree.br _ _ _).run=some r from hh);cases g4;have:=qqN (ty:=ty) fz.hs ht hc2 hc1 he himm' hsrc (of_decide_eq_true hlt) (of_decide_eq_true g3);rw[hlen,fz.h] at this;exact this.frozen fz
      | false=>
       rw[hlt] at hh;obtain⟨g3,g4⟩:=j5 (show (Tree.br _ _ _).run=some r from hh);cases g4;have hm0:m=[]:=by have:¬(0:Int)<qg m:=of_decide_eq_false hlt;unfold qg at this;exact qPu (by omega)
       subst hm0;have hn0:n=0:=by
        have hl0:qg l<=0:=of_decide_eq_true g3;unfold qg at hl0;rcases himm' with⟨q1,_⟩|⟨_,_,q1,_⟩
        ·cases q1;rfl
        ·cases q1;omega
       subst hn0;have:=qqQ (ty:=ty) fz.hs ht hc2 hsrc (p:=p);rw[hlen,fz.h] at this;exact this.frozen fz
    ·rw[if_neg hq] at hh;cases hh
   | _=>simp only at hh;cases hh
  ·rw[if_neg hbq] at hh;cases hh
theorem qye (hE:E.tok P)(hs:HSim B X){t ty:TypeId}{s x:AV}{vs vx:Value}(h1:Rep X s vs)(h2:Rep X x vx)(h:(qyn E X.h t s x).run=some r):qJ P B X (do pure (.value (<-Builtin.append_ #[t,t] ty #[vs,vx]))) r:=by
 unfold qyn at h;cases hd:(E.ty t).d<;>rw[hd] at h<;>try (cases h)
 rename_i e es;obtain⟨ht,rfl⟩:=q0S hE hd;simp only at h;cases hsh:E.shape 16 e with
 | none=>rw[hsh] at h;cases h
 | some sh=>
  rw[hsh] at h;simp only at h;by_cases hc:sh.length=P.cellsOf e/\0<P.cellsOf e/\(E.ty e).zero.length=P.cellsOf e
  ·rw[if_pos hc] at h;obtain⟨hc1,hc2,hc4⟩:=hc;obtain⟨i,z,he⟩:=qFS hE hc2 hc4;cases x with
   | nils=>
    simp only at h;cases h1<;>simp only[okv] at h<;>cases h;cases h2;exact qJ.ofV hs (uK ht hc2 (qO0 0)) .nils
   | _=>exact qeM hs ht hc2 hc1 he h1 h2 h
  ·rw[if_neg hc] at h;cases h
inductive RepLL (X:Ctx):List (List AV)->List (List Value)->Prop
 | nil:RepLL X [] []
 | cons {a:List AV} {v:List Value} {l:List (List AV)} {m:List (List Value)} (h:RepL X a v) (t:RepLL X l m):RepLL X (a::l) (v::m)
theorem RepLL.ren {X X':Ctx}{f:Nat->Option Nat}(hm:Move0 X X' f):∀{l:List (List AV)} {m:List (List Value)},RepLL X l m->RepLL X' (l.map (AV.renL f)) m
 | _,_,.nil=>.nil
 | _,_,.cons h t=>.cons (h.ren hm) (t.ren hm)
theorem RepLL.ext {X X':Ctx}(hm:Ext X X'):∀{l:List (List AV)} {m:List (List Value)},RepLL X l m->RepLL X' l m
 | _,_,.nil=>.nil
 | _,_,.cons h t=>.cons (h.ext hm) (t.ext hm)
theorem RepLL.ext0 {X X':Ctx}(hm:Move0 X X' some):∀{l:List (List AV)} {m:List (List Value)},RepLL X l m->RepLL X' l m
 | _,_,.nil=>.nil
 | _,_,.cons h t=>.cons (h.ext0 hm) (t.ext0 hm)
def qkN(D:Nat):Deferred:={ target:=.collected D,args:=#[] }
def qCk(kept pin:List (Nat×Obj))(ds:List Deferred):Prop:=∃Ds:List Nat,ds=Ds.map qkN/\Ds.Nodup/\∀D,D∈Ds->(D,.deferred (some []))∈kept/\∀p,p∈pin->p.1≠D
theorem qCk.nil {kept pin:List (Nat×Obj)}:qCk kept pin []:=⟨[],rfl,.nil,fun _ h=>by cases h⟩
def AV.span:AV->Nat
 | .eptr sh l _ _=>sh.length*l.length
 | _=>0
def qIV(X:Ctx)(x:Nat×AV):Prop:=Rep X x.2 (.pointer (some ⟨x.1,0,none⟩))/\X.M x.1/\X.w.cell? ⟨x.1,x.2.span,none⟩=none
theorem qIV.move {X X':Ctx}{x:Nat×AV}(h:qIV X x)(hM:∀n,X.M n->X'.M n)(hw:∀a:Addr,X.M a.block->X'.w.cell? a=X.w.cell? a)(hr:Rep X' x.2 (.pointer (some ⟨x.1,0,none⟩))):qIV X' x:=⟨hr,hM _ h.2.1,by rw[hw _ h.2.1];exact h.2.2⟩
def q3b(gl:List (Nat×AV))(X:Ctx):Prop:=∀x,x∈gl->(∃sh l i off,x.2=.eptr sh l i off)/\qIV X x
structure Sim (E:Env) (B:Base) (X:Ctx) (st:St) (a:Act):Prop where
 hs:HSim B X
 h:X.h=st.h
 t:RepL X st.t a.tmps.toList
 fs:RepLL X st.fs B.fs
 glob:∀x,x∈E.glob->(∃sh l i off,x.2=.eptr sh l i off)/\qIV X x
 df:qCk X.kept (B.pin st.pend) a.defers
 ni:B.imps.length<=E.nimp
 y:X.y=B.y
 pin:∀p,p∈B.pin st.pend->p∈X.kept
theorem q8K (hs:Sim E B X st a)(x:Operand):Rep X (E.opd st.t x) (a.eval x):=by
 cases x with
 | tmp i=>
  have:=hs.t.getD i;simpa[Env.opd,Act.eval,qPh,qNZ] using this
 | const v=>exact qKk X v
 | global g=>
  simp only[Env.opd,Act.eval];cases hg:E.glob.find? fun x=>x.1==g with
  | none=>exact .undef _
  | some x=>
   have h1:=qPd hg;have h2:x.1=g:=by simpa using h1
   have:=(hs.glob x (qOU hg)).2.1;rw[h2] at this;exact this
 | func f=>exact .fn f [] [] [] [] .nil .nil
theorem q3T{E:Env}{B:Base}{X:Ctx}{st:St}{a:Act}(hs:Sim E B X st a):∀l:List Operand,RepL X (l.map (E.opd st.t)) (l.map a.eval)
 | []=>.nil
 | x::l=>.cons (q8K hs x) (q3T hs l)
theorem qsW{E:Env}{B:Base}{X:Ctx}{st:St}{a:Act}(hs:Sim E B X st a):∀l:List (Nat×Operand),RepP X (l.map fun p=>(p.1,E.opd st.t p.2)) (l.map fun p=>(p.1,a.eval p.2))
 | []=>.nil
 | (_,x)::l=>.cons (q8K hs x) (qsW hs l)
theorem qxo (hs:Sim E B X st a)(x:Option Operand):RepO X (x.map (E.opd st.t)) (x.map a.eval):=by
 cases x with
 | none=>exact .none
 | some x=>exact .some (q8K hs x)
theorem qwt (hs:HSim B X){f:Int->Int->Int}{g:Value->Value->Sem Value}(hg:∀k k' x y w,(g (.int k x) (.int k' y)).run P w=.ok (.int k (f x y)) w){azz:List AV} {vs:List Value} (hv:RepL X azz vs) {r:Res} (h:(qxe f X.h azz).run=some r) {m:Sem Value} (hm:∀x rest,vs=x::rest->m=rest.foldlM g x):qJ P B X (do pure (.value (<-m))) r:=by
 cases hv with
 | nil=>cases h
 | cons hx ht=>
  rename_i a v azz vs;simp only[qxe] at h;cases h1:asI a with
  | none=>rw[h1] at h;cases h
  | some p=>
   obtain⟨k,n⟩:=p;rw[h1] at h;simp only at h;cases h2:qBf f k n azz with
   | none=>rw[h2] at h;cases h
   | some q=>
    rw[h2] at h;simp only at h;obtain rfl:=q3d hx h1;have hr:=qrP (P:=P) hg k azz n q vs h2 ht;rw[hm _ _ rfl];split at h<;>cases h
    ·exact qJ.ofV hs hr (.ilit _ _)
    ·exact qJ.ofV hs hr (.int _ _)
theorem quw (hE:E.tok P)(hs:HSim B X){b:Builtin}{ts:Array TypeId}{azz:List AV}{vs:List Value}(hv:RepL X azz vs)(h:(q85 E X.h b ts.toList azz).run=some r) (ty:TypeId) (cs:Array Bool):qJ P B X (builtin b ts ty cs vs.toArray) r:=by
 obtain⟨ts⟩:=ts;cases b with
 | append=>
  simp only[q85] at h;unfold qz1 at h;split at h
  ·rename_i t t' s x;by_cases htt:t=t'
   ·subst htt;rw[if_pos rfl] at h;cases hv with
    | cons h1 hv=>cases hv with
     | cons h2 hv=>cases hv;exact qye hE hs h1 h2 h
   ·rw[if_neg htt] at h;cases h
  ·cases h
 | len=>
  simp only[q85] at h;unfold qrB at h;split at h
  ·rename_i t rest x;cases hv with
   | cons h1 hv=>
    cases hv;obtain⟨av,u,rfl,g1,g2⟩:=qCe (P:=P) (t:=t) (ty:=ty) (ts:=(t::rest:List TypeId).toArray) hE hs (by simp) h1 h;exact qJ.ofV hs g1 g2
  ·cases h
 | max=>
  simp only[q85] at h;exact qwt hs (f:=quL) (g:=Builtin.max2) (fun _ _ _ _ _=>qI9) hv h (m:=Builtin.max_ ts.toArray ty vs.toArray) (fun x rest e=>by subst e;rfl)
 | min=>
  simp only[q85] at h;exact qwt hs (f:=qjL) (g:=Builtin.min2) (fun _ _ _ _ _=>qI1) hv h (m:=Builtin.min_ ts.toArray ty vs.toArray) (fun x rest e=>by subst e;rfl)
 | copy=>
  simp only[q85] at h;exact qzt hE hs hv h ty
 | _=>simp only[q85] at h;cases h
theorem qmc (hE:E.tok P)(hs:Sim E B X st a){o:Oper}(h:(qr9 E st.h (E.opd st.t) o.op).run=some r):qJ P B X (execOp a.eval o) r:=by
 have ro:=q8K hs;rw[<-hs.h] at h;unfold qr9 at h;unfold execOp;cases hop:o.op with
 | move x=>rw[hop] at h;cases h;exact qJ.val hs.hs rfl (ro x)
 | assign x=>rw[hop] at h;cases h;exact qJ.val hs.hs rfl (ro x)
 | pick c x y=>
  rw[hop] at h;simp only at h ⊢;have hc:=ro c;generalize E.opd st.t c=ac at *;generalize a.eval c=vc at *;cases hc<;>simp only at h<;>try (cases h)
  ·rename_i b;refine qJ.val hs.hs (v:=if b then a.eval x else a.eval y) rfl ?_;cases b<;>exact ro _
  ·rename_i b;cases b
   ·cases h;exact qJ.val hs.hs (v:=a.eval y) rfl (ro y)
   ·cases h;exact qJ.val hs.hs (v:=a.eval x) rfl (ro x)
 | box t x=>
  rw[hop] at h;simp only at h ⊢;obtain⟨z,hz,rfl⟩:=qvL h;exact qFW hs.hs (ro x) hz
 | alloc t=>
  rw[hop] at h;simp only at h ⊢;obtain⟨z,hz,rfl⟩:=qvL h;exact qC5 hE hs.hs hz
 | load t x=>
  rw[hop] at h;obtain⟨av,u,rfl,g1,g2⟩:=qwy hE hs.hs (ro x) h;exact qJ.ofV hs.hs g1 g2
 | store t x y=>rw[hop] at h;exact qy5 hE hs.hs (ro x) (ro y) h
 | build t parts=>
  rw[hop] at h;obtain⟨av,u,rfl,g1,g2⟩:=qua (vparts:=parts.map fun p=>(p.1,a.eval p.2)) hE (by simpa using qsW hs parts.toList) h;exact qJ.ofV hs.hs g1 g2
 | buildSlice t len parts=>
  rw[hop] at h;have h:(q7Z E X.h t len (parts.toList.map fun p=>(p.1,E.opd st.t p.2))).run=some r:=h;have hp:RepP X (parts.toList.map fun p=>(p.1,E.opd st.t p.2)) (parts.map fun p=>(p.1,a.eval p.2)).toList:=by rw[Array.toList_map];exact qsW hs parts.toList
  have hg:=qoJ hE hs.hs hp h;exact hg
 | nilCheck x=>
  rw[hop] at h;simp only at h ⊢;have hx:=ro x;generalize E.opd st.t x=ax at *;generalize a.eval x=vx at *;cases hx<;>simp only at h<;>try (cases h)
  ·rename_i b off n hb hσ;split at h
   ·cases h;exact qJ.val hs.hs rfl (.ptr b off n hb hσ)
   ·cases h;exact qJ.val hs.hs rfl (.ptr b off n hb hσ)
   ·cases h
  ·rename_i sh l i off ad h1 h2 h3 h4;exact qJ.val hs.hs rfl (.eptr sh l i off ad h1 h2 h3 h4)
  ·rename_i sh l i off ad h1 h2 h3 h4;exact qJ.val hs.hs rfl (.eptr sh l i off ad h1 h2 h3 h4)
 | binOp op t x y ty=>
  rw[hop] at h;simp only at h ⊢;have hx:=ro x;have hy:=ro y;generalize E.opd st.t x=ax at *;generalize E.opd st.t y=ay at *;unfold qm0 at h;split at h
  ·obtain⟨av,u,rfl,g1,g2⟩:=qy8 (x:=x) (y:=y) hE hx hy h;exact qJ.ofV hs.hs g1 g2
  ·obtain⟨av,u,rfl,g1,g2⟩:=qC3 (x:=x) (y:=y) hE hs.hs hx hy h;exact qJ.ofV hs.hs g1 g2
 | unOp op t x=>
  rw[hop] at h;obtain⟨av,u,rfl,g1,g2⟩:=qE7 (P:=P) (ro x) h;exact qJ.ofV hs.hs g1 g2
 | convert s d x=>
  rw[hop] at h;obtain⟨av,u,rfl,g1,g2⟩:=qwA hE hs.hs (ro x) h;exact qJ.ofV hs.hs g1 g2
 | makeSlice t n m=>rw[hop] at h;exact qCi hE hs.hs (ro n) (ro m) h
 | makeFunc fn first caps=>
  rw[hop] at h;simp only at h ⊢;cases fn<;>simp only at h<;>try (cases h)
  rename_i f;have:Rep X (.fn f (first.toList.map (E.opd st.t)) (caps.toList.map (E.opd st.t))) (.func (.func f) (first.toList.map a.eval).toArray (caps.toList.map a.eval).toArray):=
   .fn f _ _ _ _ (q3T hs _) (q3T hs _)
  refine qJ.val hs.hs (v:=.func (.func f) (first.map a.eval) (caps.map a.eval)) rfl ?_;have e1:(first.toList.map a.eval).toArray=first.map a.eval:=by apply qPe;simp
  have e2:(caps.toList.map a.eval).toArray=caps.map a.eval:=by apply qPe;simp
  rwa [e1,e2] at this
 | slice t x lo hi mx=>
  rw[hop] at h;exact qxf hE hs.hs (ro x) (qxo hs lo) (qxo hs hi) (qxo hs mx) h
 | fieldAddr s x f=>
  rw[hop] at h;obtain⟨av,u,rfl,g1,g2⟩:=qom hE (ro x) h;exact qJ.ofV hs.hs g1 g2
 | field s x f=>
  rw[hop] at h;obtain⟨av,u,rfl,g1,g2⟩:=qxl hE (ro x) h;exact qJ.ofV hs.hs g1 g2
 | indexAddr t x i=>
  rw[hop] at h;obtain⟨av,u,rfl,g1,g2⟩:=qmN hE hs.hs (ro x) (ro i) h;exact qJ.ofV hs.hs g1 g2
 | index t x i=>
  rw[hop] at h;obtain⟨av,u,rfl,g1,g2⟩:=qwX hE (ro x) (ro i) h;exact qJ.ofV hs.hs g1 g2
 | extract x i=>
  rw[hop] at h;simp only at h ⊢;have hx:=ro x;generalize E.opd st.t x=ax at *;generalize a.eval x=vx at *;cases hx<;>simp only at h<;>try (cases h)
  rename_i vs us hv;cases hi:vs[i]? with
  | none=>rw[hi] at h;cases h
  | some v=>
   rw[hi] at h;cases h;obtain⟨u,g1,g2⟩:=hv.get i v hi;refine qJ.ofV hs.hs (v:=u) ?_ g2;simp[Instr.extract,g1]
 | call c=>
  rw[hop] at h;obtain⟨callee,args,argTypes⟩:=c;cases callee with
  | value x=>simp only at h;cases h
  | invoke x n=>simp only at h;cases h
  | builtin b=>
   simp only at h ⊢;have hargs:=q3T hs args.toList;have hrun:∀ty,(do let d <-resolve a.eval { callee:=.builtin b,args,argTypes } ty;invoke d.target d.args:Sem Next) =
     builtin b argTypes ty (args.map fun|.const _=>true|_=>false) (args.map a.eval):=by
    intro ty;rfl
   rw[hrun];have hA:args.map a.eval=(args.toList.map a.eval).toArray:=by apply qPe;simp
   rw[hA];generalize args.toList.map (E.opd st.t)=als at *;generalize args.toList.map a.eval=avs at *;exact quw hE hs.hs hargs h _ _
 | _=>rw[hop] at h;simp only at h;cases h
end Go.Eng

namespace Go.Eng
variable {P:Program}{n:Nat}{w:World}
def q4B(ro:Option Nat):Fence:={ Fence.wide with round:=ro }
theorem qfJ (ro:Option Nat):(q4B ro).depth.isSome=true->1<=n:=fun h=>by simp[q4B,Fence.wide] at h
theorem qFY {ro:Option Nat}{f:FuncId}{args:Array Value}{R:Ending->World->Prop}:CallsIn (q4B ro) n P f args w R↔Calls P f args w R:=(callsIn_wide (n:=n))
theorem qNz {ro:Option Nat}{row:String}{args:Array Value}{R:Value->World->Prop}(h:Go.Rows P row args w R):RowsIn (q4B ro) n P row args w R:=by intro c cs _;obtain⟨v,w',h1,h2⟩:=h c cs;exact⟨v,w',h1,stepsIn_wide.2 h2⟩
theorem qtj (ro:Option Nat)(n:Nat){o:Oper}{a:Act}{next:Act->World->Prop}{Q:Exit->Act->World->Prop}(h:o.wp P a w next Q)(hd:∀c,o.op≠.defer c) :o.wpIn (q4B ro) n P a w next Q:=by
 refine⟨fun _ _=>trivial,?_⟩;rw[show (q4B ro).round=ro from rfl,Oper.semAt_eq _ _ _ hd];unfold Oper.wp at h;generalize (execOp a.eval o).run P w=r at h;cases r with
 | ok x w'=>
  cases x with
  | value v=>exact h
  | skip=>exact h
  | defer d=>exact h
  | enter f args=>exact⟨qfJ ro,qFY.2 h⟩
  | row row args=>exact⟨qfJ ro,qNz h⟩
  | round l f tmps assign body=>exact h.elim
  | _=>exact h
 | halt x w'=>cases x<;>exact h
end Go.Eng

namespace Go.Eng
variable {B:Base}{E:Env}{X:Ctx}{a:Act}{o:Oper}{st:St}{v:Value}
structure CallOK (E:Env) (P:Program) (callH:q8q) (B:Base):Prop where
 fn:∀(f:FuncId) (args:List AV) (st:St) (r:AV×St) (X:Ctx) (a:Act) (vargs:List Value),Sim E B X st a->RepL X args vargs->(callH (some f) args st).run=some r ->
  (∀w,(callFunc f vargs.toArray).run P w=.ok (.enter f vargs.toArray) w) /\
  Calls P f vargs.toArray X.w fun e w'=>∃v X',e=.returned v/\X'.w=w'/\Rep X' r.1 v/\Sim E B X' r.2 a
 yld:∀(args:List AV) (st:St) (r:AV×St) (X:Ctx) (a:Act) (vargs:List Value),Sim E B X st a->RepL X args vargs->(callH none args st).run=some r ->
  ∃(l:Nat) (f:FuncId) (tmps:Array Value) (assign body:Code),(Instr.yield X.y vargs.toArray).run P X.w=.ok (.round l f tmps assign body) X.w /\
  ∀n,RoundIn (q4B B.ro) n P l f tmps assign body X.w fun e w'=>∃v X',e=.returned v/\X'.w=w'/\Rep X' r.1 v/\Sim E B X' r.2 a
theorem qDp {t:List AV}(h:RepL X t a.tmps.toList){av:AV}(hv:Rep X av v)(dst:Option Tmp):RepL X (qkf t dst av) (a.put dst v).tmps.toList:=by
 cases dst with
 | none=>exact h
 | some d=>
  simp only[qkf,Act.put,Array.toList_setIfInBounds];exact RepL.set hv h d
theorem qw0 (a:Act)(dst:Option Tmp)(v:Value):(a.put dst v).defers=a.defers:=by cases dst<;>rfl
theorem Sim.put (hs:Sim E B X st a){av:AV}(hv:Rep X av v)(dst:Option Tmp) :Sim E B X { st with t:=qkf st.t dst av } (a.put dst v):=⟨hs.hs,hs.h,qDp hs.t hv dst,hs.fs,hs.glob,by rw[qw0];exact hs.df,hs.ni,hs.y,hs.pin⟩
theorem Sim.ext {X X':Ctx}(hs:Sim E B X st a)(hx:Ext X X')(hs':HSim B X'):Sim E B X' { st with h:=X'.h } a:=⟨hs',rfl,hs.t.ext hx,hs.fs.ext hx,fun x hx'=>⟨(hs.glob x hx').1,(hs.glob x hx').2.move hx.M hx.w ((hs.glob x hx').2.1.ext hx)⟩,hx.kept▸hs.df,hs.ni,hx.y.trans hs.y,fun p hp=>hx.kept▸hs.pin p hp⟩
theorem Sim.apply {X X':Ctx}(hs:Sim E B X st a){r:Res}(hv:Rep X' r.1 v)(hs':HSim B X')(hm:match r.2.2 with|none=>X'.h=r.2.1/\Ext X X'|some b=>X'.h=r.2.1.map (Blk.ren (qcA b))/\Move X X' (qcA b)) (dst:Option Tmp) :Sim E B X' (st.apply dst r) (a.put dst v):=by
 unfold St.apply;cases hn:r.2.2 with
 | none=>
  rw[hn] at hm;obtain⟨h1,h2⟩:=hm;have:=(hs.ext h2 hs').put hv dst;rw[h1] at this;exact this
 | some b=>
  rw[hn] at hm;obtain⟨h1,h2⟩:=hm;refine⟨hs',h1,qDp (hs.t.ren h2.toMove0) hv dst,hs.fs.ren h2.toMove0,fun x hx=>?_,by rw[qw0];exact h2.kept▸hs.df,hs.ni,h2.y.trans hs.y,fun p hp=>h2.kept▸hs.pin p hp⟩;obtain⟨⟨sh,l,i,off,he⟩,hr⟩:=hs.glob x hx;refine⟨⟨sh,l,i,off,he⟩,hr.move h2.M h2.w ?_⟩;have:=hr.1.ren h2.toMove0;rw[he] at this ⊢;exact this
theorem quu {callH:q8q}{st s:St}(h:(qs1 E callH o st).run=some s):∀c,o.op≠.defer c:=by intro c hc;unfold qs1 at h;rw[hc] at h;simp[qr9,Tree.bind,Tree.run] at h
theorem qpM {P:Program}(hE:E.tok P){callH:q8q}(hc:CallOK E P callH B){st st':St}(hs:Sim E B X st a)(h:(qs1 E callH o st).run=some st') {next:Act->World->Prop} {Q:Exit->Act->World->Prop} (hq:∀X' a',Sim E B X' st' a'->next a' X'.w) {n:Nat}:o.wpIn (q4B B.ro) n P a X.w next Q:=by
 have hnd:=quu h;have plain:∀(_:((qr9 E st.h (E.opd st.t) o.op).bind fun r=>.leaf (st.apply o.dst r)).run=some st'),o.wp P a X.w next Q:=by
  intro hh;obtain⟨r,h1,h2⟩:=bind_some hh;cases h2;obtain⟨nx,v,X',g1,g2,g3,g4,g5⟩:=qmc hE hs h1;unfold Oper.wp;rw[g1];rcases g2 with rfl|⟨rfl,rfl⟩
  ·exact hq X' _ (hs.apply g3 g4 g5 o.dst)
  ·exact hq X' _ (hs.apply g3 g4 g5 o.dst)
 unfold qs1 at h;split at h
 ·rename_i x args tys hop;cases hx:E.opd st.t x with
  | fn f first caps=>
   rw[hx] at h;obtain⟨r,h1,h2⟩:=bind_some h;cases h2;have hv:=q8K hs x;rw[hx] at hv;generalize hev:a.eval x=vx at hv;cases hv with
   | fn _ _ _ vf vc q1 q2=>
    have hargs:=q3T hs args.toList;have hall:RepL X (first++args.toList.map (E.opd st.t)++caps) (vf++args.toList.map a.eval++vc):=(q1.append hargs).append q2;obtain⟨g1,g2⟩:=hc.fn f _ st r X a _ hs hall h1;refine qtj B.ro n ?_ hnd;unfold Oper.wp;have hrun:(execOp a.eval o).run P X.w=.ok (.enter f (vf++args.toList.map a.eval++vc).toArray) X.w:=by
     simp only[execOp,hop,resolve,hev,Deferred.ofValue,qO3,qOw,qOa,invoke];have:vf.toArray++args.map a.eval++vc.toArray=(vf++args.toList.map a.eval++vc).toArray:=by apply qPe;simp
     rw[this];exact g1 X.w
    rw[hrun];refine g2.mono fun e w' ⟨v,X',e1,e2,e3,e4⟩=>?_;subst e1 e2;exact hq X' _ (e4.put e3 o.dst)
  | yld=>
   rw[hx] at h;obtain⟨r,h1,h2⟩:=bind_some h;cases h2;have hv:=q8K hs x;rw[hx] at hv;generalize hev:a.eval x=vx at hv;cases hv;obtain⟨l,f,tmps,assign,body,g1,g2⟩:=hc.yld _ st r X a _ hs (q3T hs args.toList) h1;refine⟨fun _ _=>trivial,?_⟩;rw[Oper.semAt_eq _ _ _ hnd];have hrun:(execOp a.eval o).run P X.w=.ok (.round l f tmps assign body) X.w:=by
    simp only[execOp,hop,resolve,hev,Deferred.ofValue,qO3,qOw,qOa,invoke];have:#[]++args.map a.eval=(args.toList.map a.eval).toArray:=by apply qPe;simp
    rw[this];exact g1
   rw[hrun];refine⟨qfJ B.ro,(g2 (n-1)).mono fun e w' ⟨v,X',e1,e2,e3,e4⟩=>?_⟩;subst e1 e2;exact hq X' _ (e4.put e3 o.dst)
  | _=>rw[hx] at h;cases h
 ·exact qtj B.ro n (plain h) hnd
theorem Sim.lit (hs:Sim E B X st a){d:Nat}{b:Bool}(hd:st.t[d]?=some (.bool b)):Sim E B X { st with t:=st.t.set d (.blit b) } a:=by
 refine⟨hs.hs,hs.h,?_,hs.fs,hs.glob,hs.df,hs.ni,hs.y,hs.pin⟩;obtain⟨v,h1,h2⟩:=hs.t.get d _ hd;have hv:v=.bool b:=by cases h2;rfl
 subst hv;have:=RepL.set (X:=X) (a:=.blit b) (v:=.bool b) (.blit b) hs.t d;have e:a.tmps.toList.set d (.bool b)=a.tmps.toList:=by
  apply qOR;intro i;by_cases hi:i=d
  ·subst hi;rw[qOc (qo h1),h1]
  ·rw[qO1 (qOr hi)]
 rwa [e] at this
theorem qt8 {st st':St}(hs:Sim E B X st a){all:Array Oper}{k:Nat}(h:(qv9 all k o st).run=some st'):Sim E B X st' a:=by
 unfold qv9 at h;split at h
 ·split at h
  ·rename_i d _;split at h
   ·rename_i b hd;cases b
    ·cases h;exact hs.lit hd
    ·cases h;exact hs.lit hd
   ·cases h;exact hs
  ·cases h;exact hs
 ·cases h;exact hs
theorem q9t {t:List AV}(ht:RepL X t a.tmps.toList){all:Array Oper}{b:Bool}(h:q66 all o t=some b):Region.wanted o (yielded all a.tmps)=b:=by
 unfold q66 at h;unfold Region.wanted;cases hg:o.guard with
 | none=>rw[hg] at h;cases h;rfl
 | some p=>
  obtain⟨j,want⟩:=p;rw[hg] at h;simp only at h ⊢;cases hj:(all[j]?).bind (·.dst) with
  | none=>rw[hj] at h;cases h
  | some d=>
   rw[hj] at h;simp only at h;unfold yielded;rw[hj,qOp];split at h
   ·rename_i c hd;cases h;obtain⟨v,h1,h2⟩:=ht.get d _ hd;have h1':a.tmps[d]?=some v:=by simpa using h1
    cases h2;rw[h1'];cases c<;>cases want<;>rfl
   ·rename_i hd;cases h;obtain⟨v,h1,h2⟩:=ht.get d _ hd;have h1':a.tmps[d]?=some v:=by simpa using h1
    cases h2;rw[h1'];rfl
   ·cases h
theorem qm4{E:Env}{P:Program}(hE:E.tok P){callH:q8q}{B:Base}(hc:CallOK E P callH B){all:Array Oper}{st':St}{Q:Exit->Act->World->Prop}{n:Nat}
  (hq:∀X' a',Sim E B X' st' a'->Q .normal a' X'.w):∀(l:List Oper) (k:Nat) {X:Ctx} {st:St} {a:Act},Sim E B X st a->(ql3 E callH all k l st).run=some st'->wpListIn (q4B B.ro) n P all Q l a X.w
 | [],k,X,st,a,hs,h=>by
  simp only[ql3,Tree.run,qNY] at h;subst h;exact hq X a hs
 | o::rest,k,X,st,a,hs,h=>by
  simp only[ql3] at h;simp only[wpListIn];cases hw:q66 all o st.t with
  | none=>rw[hw] at h;cases h
  | some b=>
   rw[hw] at h;rw[q9t hs.t hw];cases b with
   | true=>
    simp only[if_true];obtain⟨s1,h1,h2⟩:=bind_some h;obtain⟨s2,h3,h4⟩:=bind_some h2;refine qpM hE hc hs h1 fun X' a' hs'=>?_;exact qm4 hE hc hq rest (k+1) (qt8 hs' h3) h4
   | false=>
    simp only[qOC,if_false];exact⟨fun _ _=>trivial,qm4 hE hc hq rest (k+1) (hs.put (av:=.skip) .skip o.dst) h⟩
theorem qv2 {P:Program}(hE:E.tok P){callH:q8q}(hc:CallOK E P callH B){id:Nat}{ops:Array Oper}{st st':St}(hs:Sim E B X st a)(h:(ql3 E callH ops 0 ops.toList st).run=some st') {Q:Exit->Act->World->Prop} {n:Nat} (hq:∀X' a',Sim E B X' st' a'->Q .normal a' X'.w):(Code.region id ops false).wpIn (q4B B.ro) n P Q a X.w:=wpIn_region_list (qm4 hE hc hq ops.toList 0 hs h)
end Go.Eng

namespace Go.Eng
variable {B:Base}{X:Ctx}
structure Entry (B:Base) (X:Ctx):Prop where
 w0:B.w0=X.w
 imps:B.imps=(List.range X.h.length).map X.σ
 M0:∀n,X.M n->B.M0 n
def qbJ(P:Program)(f:FuncId):Prop:=∀(args:Array Value) (w:World),(callFunc f args).run P w=.ok (.enter f args) w
def qP(P:Program)(gl:List (Nat×AV))(f:FuncId)(G:za):Prop:=
 qbJ P f/\∀(B:Base) (X:Ctx) (args:List AV) (vargs:List Value) (r:AV×List Blk),HSim B X->Entry B X->q3b gl X->RepL X args vargs->(G args X.h).run=some r ->
  Calls P f vargs.toArray X.w fun e w'=>∃v X',e=.returned v/\X'.w=w'/\Rep X' r.1 v/\X'.h=r.2/\HSim B X'/\X'.y=X.y
mutual
theorem qCK{B:Base}{X:Ctx}(hs:HSim B X):∀{av:AV} {v:Value},Rep X av v->Rep X (av.lend X.h) v
 | .vec b,v,h=>by
  unfold AV.lend;split
  ·rename_i e sh l hb;exact .imm _ _ _ (qji hs hb h)
  ·exact .undef v
 | .agg cs,_,.agg _ vs h=>.agg _ vs (qeb hs h)
 | .tuple cs,_,.tuple _ vs h=>.tuple _ vs (qeb hs h)
 | .undef,_,h|.skip,_,h|.yld,_,h|.blit _,_,h|.bool _,_,h|.ilit _ _,_,h|.int _ _,_,h|.str _,_,h|.nilp,_,h|.ptr _ _,_,h|.eptr _ _ _ _,_,h|.mptr _ _ _ _ _,_,h|.vptr _ _ _,_,h|.vsub _ _,_,h|.aptr _ _ _,_,h|.asub _ _ _ _ _,_,h|.bagg _ _ _ _,_,h
 | .nils,_,h|.imm _ _,_,h|.full _ _,_,h|.nilf,_,h|.fn _ _ _,_,h=>h
theorem qeb{B:Base}{X:Ctx}(hs:HSim B X):∀{azz:List AV} {vs:List Value},RepL X azz vs->RepL X (AV.lendL X.h azz) vs
 | _,_,.nil=>.nil
 | _,_,.cons h t=>.cons (qCK hs h) (qeb hs t)
end
def Wk(X:Ctx)(k k':Blk):Prop:=k'=.dead\/k'=k\/(∃cs cs',k=.cells cs/\k'=.cells cs'/\∀vs,RepL X cs vs->RepL X cs' vs)\/∃cs cs' kk n l,k=.big cs kk n l/\k'=.big cs' kk n l/\∀vs,RepL X cs vs->RepL X cs' vs
theorem qbi (hs:HSim B X){h':List Blk}(hl:h'.length=X.h.length)(hw:∀(b:Nat) (k':Blk),h'[b]?=some k'->∃k0,X.h[b]?=some k0/\Wk X k0 k')(hc:∀b:Nat,b<B.imps.length->∀k':Blk,h'[b]?=some k'->k'.solid=true):HSim B { X with h:=h' }/\Ext X { X with h:=h' }:=by
 have hvec:∀b sh m,({ X with h:=h' }:Ctx).isVec b sh m->X.isVec b sh m:=by
  intro b sh m ⟨e,l,h1,h2⟩;refine⟨e,l,?_,h2⟩;rcases h1 with h1|h1
  ·obtain⟨k0,h3,h4⟩:=hw b _ h1;rcases h4 with h4|h4|⟨_,_,_,h4,_⟩|⟨_,_,_,_,_,_,h4,_⟩
   ·cases h4
   ·exact .inl (h4▸h3)
   ·cases h4
   ·cases h4
  ·obtain⟨k0,h3,h4⟩:=hw b _ h1;rcases h4 with h4|h4|⟨_,_,_,h4,_⟩|⟨_,_,_,_,_,_,h4,_⟩
   ·cases h4
   ·exact .inr (h4▸h3)
   ·cases h4
   ·cases h4
 have hx:Ext X { X with h:=h' }:=by refine Move.of (fun _ h=>h) (fun _ _=>rfl) (fun b b' hb hf=>?_);cases hf;exact⟨by show b<h'.length;omega,rfl,hvec b,fun sh m _ k hk c T fr hc=>⟨c,T,fr,hc,rfl⟩⟩
 have hown:∀b m,({ X with h:=h' }:Ctx).own b m->X.own b m:=by
  intro b m ⟨h1,k,h2,h3⟩;obtain⟨k0,h4,h5⟩:=hw b k h2;refine⟨h1,k0,h4,?_⟩;rcases h5 with h5|h5|⟨_,_,h5,_,_⟩|⟨_,_,_,_,_,h5,_,_⟩
  ·subst h5;cases h3
  ·exact h5▸h3
  ·subst h5;rfl
  ·subst h5;rfl
 refine⟨⟨?_,fun b b' m h h'=>hs.inj b b' m (hown _ _ h) (hown _ _ h'),fun b m h=>hs.notM b m (hown _ _ h),hs.ltM,hs.M0,hs.newM,hs.os,hs.tape,hs.output,hs.size,hs.frame,hs.imps,?_,fun b m h=>hs.fresh b m (hown _ _ h),hs.kept⟩,hx⟩
 ·intro b k hk;obtain⟨k0,h1,h2⟩:=hw b k hk;have h3:=hs.blk b k0 h1;rcases h2 with h2|h2|⟨cs,cs',h2,h4,h5⟩|⟨cs,cs',kk,N,l,h2,h4,h5⟩
  ·subst h2;trivial
  ·subst h2;exact jf.ext hx rfl (fun _ _=>rfl) h3
  ·subst h2 h4;obtain⟨m,c,T,e1,e2,e3⟩:=h3;exact⟨m,c,T,e1,e2,(h5 _ e3).ext hx⟩
  ·subst h2 h4;obtain⟨m,c,T,vs,e1,e2,e3,e4,e5⟩:=h3;exact⟨m,c,T,vs,e1,e2,(h5 _ e3).ext hx,e4,e5⟩
 ·intro b hb;have hlt:b<h'.length:=by have:=hs.hlen;omega
  exact⟨_,qO5 hlt,hc b hb _ (qO5 hlt)⟩
theorem Frozen.trans {X Y Z:Ctx}{h h':List Blk}(f:Frozen B X Y h)(g:Frozen B Y Z h'):Frozen B X Z h':=⟨g.h,g.w.trans f.w,g.σ.trans f.σ,g.hs,Move.trans f.ext g.ext⟩
theorem qla{B:Base}:∀(l:List Nat) {X:Ctx} (_:HSim B X),∃X',Frozen B X X' (qbM X.h l)
 | [],X,hs=>⟨X,rfl,rfl,rfl,hs,Ext.refl X⟩
 | b::l,X,hs=>by
  simp only[qbM];split
  ·rename_i cs hb;obtain⟨d1,d2⟩:=qbi hs (h':=X.h.set b (.cells (AV.lendL X.h cs))) (by simp) (fun b' k' hk=>by
    by_cases hbb:b'=b
    ·subst hbb;rw[qOc (qo hb)] at hk;exact⟨.cells cs,hb,.inr (.inr (.inl ⟨cs,_,rfl,(qOE hk).symm,fun vs hv=>qeb hs hv⟩))⟩
    ·rw[qO1 (qOr hbb)] at hk;exact⟨k',hk,.inr (.inl rfl)⟩) (fun b' hb' k' hk=>by
    by_cases hbb:b'=b
    ·subst hbb;rw[qOc (qo hb)] at hk;rw[<-qOE hk];rfl
    ·rw[qO1 (qOr hbb)] at hk;obtain⟨cs',h1,h2⟩:=hs.impc b' hb';rw[h1] at hk;rw[<-qOE hk];exact h2)
   obtain⟨X2,f⟩:=qla l d1;have f0:Frozen B X { X with h:=X.h.set b (.cells (AV.lendL X.h cs)) } (X.h.set b (.cells (AV.lendL X.h cs))):=⟨rfl,rfl,rfl,d1,d2⟩;exact⟨X2,f0.trans f⟩
  ·exact qla l hs
theorem qyh (args:List AV)(hs:HSim B X):∃X',Frozen B X X' (vg X.h args):=by unfold vg;obtain⟨X1,f1⟩:=q50 (args.flatMap zP) hs;simp only;rw[<-f1.h];obtain⟨X2,f2⟩:=q50 (q7Q X1.h (AV.menL (AV.lendL X1.h args))) f1.hs;rw[<-f2.h];obtain⟨X3,f3⟩:=qla (AV.menL (AV.lendL X1.h args)) f2.hs;exact⟨X3,(f1.trans f2).trans f3⟩
mutual
theorem AV.ren_of_men(f:Nat->Option Nat):∀av:AV,av.men=[]->av.ren f=av
 | .undef,_|.skip,_|.yld,_|.blit _,_|.bool _,_|.ilit _ _,_|.int _ _,_|.str _,_|.nilp,_|.eptr _ _ _ _,_|.mptr _ _ _ _ _,_|.nils,_|.imm _ _,_|.full _ _,_|.nilf,_=>rfl
 | .ptr _ _,h=>by simp[AV.men] at h
 | .vptr _ _ _,h=>by simp[AV.men] at h
 | .vsub _ _,h=>by simp[AV.men] at h
 | .aptr _ _ _,h=>by simp[AV.men] at h
 | .asub _ _ _ _ _,h=>by simp[AV.men] at h
 | .bagg cs k n l,h=>by simp only[AV.men] at h;simp only[AV.ren,AV.renL_of_men f cs h]
 | .vec _,h=>by simp[AV.men] at h
 | .fn g a b,h=>by
  simp only[AV.men,List.append_eq_nil_iff] at h;simp only[AV.ren,AV.renL_of_men f a h.1,AV.renL_of_men f b h.2]
 | .agg cs,h=>by simp only[AV.men] at h;simp only[AV.ren,AV.renL_of_men f cs h]
 | .tuple cs,h=>by simp only[AV.men] at h;simp only[AV.ren,AV.renL_of_men f cs h]
theorem AV.renL_of_men(f:Nat->Option Nat):∀l:List AV,AV.menL l=[]->AV.renL f l=l
 | [],_=>rfl
 | a::l,h=>by
  simp only[AV.menL,List.append_eq_nil_iff] at h;simp only[AV.renL,AV.ren_of_men f a h.1,AV.renL_of_men f l h.2]
end
theorem RepL.noMen {X X':Ctx}{azz:List AV}{vs:List Value}(h:RepL X azz vs)(hm:AV.menL azz=[])(hM:∀n,X.M n->X'.M n)(hw:∀a:Addr,X.M a.block->X'.w.cell? a=X.w.cell? a)(hy:X'.y=X.y:=by rfl):RepL X' azz vs:=by
 have:=h.ren (X':=X') (f:=fun _=>none) ⟨hM,hw,(fun _ _ _ h=>by cases h),hy⟩
 rwa [AV.renL_of_men _ _ hm] at this
theorem Rep.noMen {X X':Ctx}{a:AV}{v:Value}(h:Rep X a v)(hm:a.men=[])(hM:∀n,X.M n->X'.M n)(hw:∀a:Addr,X.M a.block->X'.w.cell? a=X.w.cell? a)(hy:X'.y=X.y:=by rfl):Rep X' a v:=by
 have:=h.ren (X':=X') (f:=fun _=>none) ⟨hM,hw,(fun _ _ _ h=>by cases h),hy⟩
 rwa [AV.ren_of_men _ _ hm] at this
theorem qli:∀l:List Nat,(qm2 l).Nodup
 | []=>List.nodup_nil
 | a::l=>by
  simp only[qm2];split
  ·exact qli l
  ·rename_i h;exact List.nodup_cons.2 ⟨by simpa using h,qli l⟩
theorem qDX {l:List Nat}{b k:Nat}(h:qFg l b=some k):l[k]?=some b:=by
 simp only[qFg] at h;split at h
 ·rename_i hlt;cases h;rw[qO5 hlt];have:=List.findIdx_getElem (p:=(·==b)) (w:=hlt);simpa using this
 ·cases h
theorem qnv:∀{fp:List Nat} {h:List Blk} {hin:List Blk},q6i h fp=some hin->hin.length=fp.length /\
  ∀(k:Nat) (b:Nat),fp[k]?=some b->∃cs,h[b]?=some cs/\hin[k]?=some cs/\cs.plain=true
 | [],h,hin,e=>by simp[q6i] at e;subst e;exact⟨rfl,fun k b hk=>by simp at hk⟩
 | b::l,h,hin,e=>by
  simp only[q6i] at e;split at e
  ·rename_i cs r h1 h2;split at e
   ·rename_i hm;cases e;obtain⟨g1,g2⟩:=qnv h2;refine⟨by simp[g1],fun k b' hk=>?_⟩;cases k with
    | zero=>simp at hk;subst hk;exact⟨cs,h1,by simp,hm⟩
    | succ k=>
     obtain⟨cs',q1,q2,q3⟩:=g2 k b' (by simpa using hk);exact⟨cs',q1,by simpa using q2,q3⟩
   ·cases e
  ·cases e
theorem qq2:∀{fp:List Nat} {h hout h2:List Blk},q0M h fp hout=some h2->fp.Nodup->(∀b∈fp,b<h.length)->h2.length=h.length/\fp.length<=hout.length /\
  (∀b,b∉fp->h2[b]?=h[b]?)/\∀(k:Nat) (b:Nat),fp[k]?=some b->∃cs,hout[k]?=some cs/\h2[b]?=some cs/\cs.plain=true
 | [],h,hout,h2,e,_,_=>by
  simp[q0M] at e;subst e;exact⟨rfl,by simp,fun _ _=>rfl,fun k b hk=>by simp at hk⟩
 | b::l,h,hout,h2,e,hn,hl=>by
  cases hout with
  | nil=>simp[q0M] at e
  | cons cs r=>
    simp only[q0M] at e;by_cases hm:cs.plain=true
    ·rw[if_pos hm] at e;cases hp:q0M h l r with
     | none=>rw[hp] at e;cases e
     | some h'=>
      rw[hp] at e;simp only[qOz,qNY] at e;subst e;obtain⟨hn1,hn2⟩:=List.nodup_cons.1 hn;obtain⟨g1,g2,g3,g4⟩:=qq2 hp hn2 (fun x hx=>hl x (qOo _ hx));have hb:=hl b qOm;refine⟨by simp[g1],by simp;omega,fun x hx=>?_,fun k b' hk=>?_⟩
      ·have:x≠b:=fun e=>hx (e▸qOm);rw[qO1 (qOr this)];exact g3 x fun h=>hx (qOo _ h)
      ·cases k with
       | zero=>simp at hk;subst hk;exact⟨cs,by simp,by rw[qOc (by omega)],hm⟩
       | succ k=>
        have hk':l[k]?=some b':=by simpa using hk
        obtain⟨cs',q1,q2,q3⟩:=g4 k b' hk';have:b'≠b:=fun e=>hn1 (e▸qON hk');exact⟨cs',by simpa using q1,by rw[qO1 (qOr this)];exact q2,q3⟩
    ·rw[if_neg hm] at e;cases e
theorem qEA {b:Nat}{k:Blk}(hp:k.plain=true)(h:jf X b k):∃n,X.σ b=some n:=by
 cases k with
 | cells cs=>obtain⟨n,_,_,e,_⟩:=h;exact⟨n,e⟩
 | big cs k N l=>obtain⟨n,_,_,_,e,_⟩:=h;exact⟨n,e⟩
 | _=>cases hp
theorem qvy {X X':Ctx}{b b':Nat}{k:Blk}(hp:k.plain=true)(h:jf X b k)(hσ:X'.σ b'=X.σ b)(hw:∀n,X.σ b=some n->X'.w.heap[n]?=X.w.heap[n]?)(hM:∀n,X.M n->X'.M n) (hc:∀a:Addr,X.M a.block->X'.w.cell? a=X.w.cell? a) (hy:X'.y=X.y):jf X' b' k:=by
 cases k with
 | cells cs=>
  obtain⟨n,c,T,e1,e2,e3⟩:=h;exact⟨n,c,T,by rw[hσ];exact e1,by rw[hw n e1];exact e2,e3.noMen (by simpa[Blk.plain] using hp) hM hc hy⟩
 | big cs k N l=>
  obtain⟨n,c,T,vs,e1,e2,e3,e4,e5⟩:=h;exact⟨n,c,T,vs,by rw[hσ];exact e1,by rw[hw n e1];exact e2,e3.noMen (by simpa[Blk.plain] using hp) hM hc hy,e4,e5⟩
 | _=>cases hp
theorem qlY {k:Blk}(hp:k.plain=true):k.solid=true/\k.mut=true/\(∀e sh l,k≠.vec e sh l/\k≠.frz e sh l):=by cases k<;>first|(cases hp;done)|exact⟨rfl,rfl,fun _ _ _=>⟨(nomatch ·),(nomatch ·)⟩⟩
theorem q7J {E:Env}{P:Program}{f:FuncId}{G:za}(hG:qP P E.glob f G){args:List AV}{st:St}{r:AV×St}{a:Act}{vargs:List Value}(hsim:Sim E B X st a) (hargs:RepL X args vargs) (h:(q0F G args st).run=some r) :Calls P f vargs.toArray X.w fun e w'=>∃v X',e=.returned v/\X'.w=w'/\Rep X' r.1 v/\Sim E B X' r.2 a:=by
 unfold q0F at h;obtain⟨X1,fz⟩:=qyh args hsim.hs;rw[<-hsim.h] at h;rw[<-fz.h] at h;simp only at h;have hs1:=fz.hs;generalize hfp:qm2 (AV.menL (AV.lendL X1.h args))=fp at h;have hnd:fp.Nodup:=hfp▸qli _;cases htk:q6i X1.h fp with
 | none=>rw[htk] at h;cases h
 | some hin=>
  rw[htk] at h;obtain⟨r0,h1,h2⟩:=bind_some h;cases hput:q0M X1.h fp r0.2 with
  | none=>rw[hput] at h2;cases h2
  | some hh2=>
   rw[hput] at h2;cases h2;obtain⟨k1,k2⟩:=qnv htk;have hfpl:∀b∈fp,b<X1.h.length:=by intro b hb;obtain⟨k,hk⟩:=qQb hb;obtain⟨cs,q1,_⟩:=k2 k b hk;exact qo q1
   obtain⟨p1,p2,p3,p4⟩:=qq2 hput hnd hfpl;have hcell:∀(k b:Nat),fp[k]?=some b->∃cs n,X1.h[b]?=some cs/\hin[k]?=some cs/\cs.plain=true/\X1.σ b=some n/\X1.own b n:=by intro k b hk;obtain⟨cs,q1,q2,q3⟩:=k2 k b hk;obtain⟨n,e1⟩:=qEA q3 (hs1.blk b _ q1);exact⟨cs,n,q1,q2,q3,e1,e1,_,q1,(qlY q3).2.1⟩
   let X0:Ctx:={ σ:=fun k=>(fp[k]?).bind X1.σ,h:=hin,w:=X1.w,M:=X1.M,y:=X1.y }
   let B0:Base:={ w0:=X1.w,imps:=(List.range hin.length).map X0.σ,M0:=X1.M,fs:=[] }
   have hget0:∀(k:Nat) (blk:Blk),X0.h[k]?=some blk->∃(b:Nat) (cs:Blk) (n:Nat),fp[k]?=some b/\blk=cs/\X1.h[b]?=some cs/\cs.plain=true/\X1.σ b=some n/\X1.own b n:=by
    intro k blk hk;have hlt:k<fp.length:=by rw[<-k1];exact qo hk
    have hfk:fp[k]?=some fp[k]:=qO5 hlt;obtain⟨cs,n,q1,q2,q3,q4,q5⟩:=hcell k _ hfk;have:blk=cs:=by have hk':hin[k]?=some blk:=hk;rw[q2] at hk';exact(qOE hk').symm
    exact⟨fp[k],cs,n,hfk,this,q1,q3,q4,q5⟩
   have hσ0:∀(k b:Nat),fp[k]?=some b->X0.σ k=X1.σ b:=by intro k b hk;show (fp[k]?).bind X1.σ=_;rw[hk];rfl
   have hown0:∀(k n:Nat),X0.own k n->∃b:Nat,fp[k]?=some b/\X1.own b n:=by intro k n ⟨e1,blk,e2,e3⟩;obtain⟨b,cs,n',q1,q2,q3,q4,q5,q6⟩:=hget0 k blk e2;rw[hσ0 k b q1,q5] at e1;cases e1;exact⟨b,q1,q6⟩
   have hs0:HSim B0 X0:=by
    constructor
    ·intro k blk hk;obtain⟨b,cs,n,q1,q2,q3,q4,q5,q6⟩:=hget0 k blk hk;subst q2;exact qvy q4 (hs1.blk b _ q3) (hσ0 k b q1) (fun _ _=>rfl) (fun _ h=>h) (fun _ _=>rfl) rfl
    ·intro k k' n hk hk';obtain⟨b,q1,q2⟩:=hown0 k n hk;obtain⟨b',q3,q4⟩:=hown0 k' n hk';have:=hs1.inj b b' n q2 q4;subst this;have hlt:=qo q1;exact(List.getElem?_inj hlt hnd).1 (q1.trans q3.symm)
    ·intro k n hk;obtain⟨b,_,q2⟩:=hown0 k n hk;exact hs1.notM b n q2
    ·exact hs1.ltM
    ·exact fun n hn=>hn
    ·exact fun n hn=>.inl hn
    ·rfl
    ·rfl
    ·rfl
    ·exact qO0 _
    ·intro _ _ _;rfl
    ·intro k hk;have hk':k<hin.length:=by simpa[B0] using hk
     simp[B0,hk']
    ·intro k hk;have hk':k<hin.length:=by simpa[B0] using hk
     obtain⟨b,cs,n,q1,q2,q3,q4,q5,q6⟩:=hget0 k _ (qO5 hk');exact⟨cs,by rw[<-q2];exact qO5 hk',(qlY q4).1⟩
    ·intro k n hk hk2;obtain⟨b,q1,_⟩:=hown0 k n hk;have:k<hin.length:=by rw[k1];exact qo q1
     simp[B0] at hk2;omega
    ·intro p hp;cases hp
   have hent:Entry B0 X0:=⟨rfl,rfl,fun _ h=>h⟩;have hgl:q3b E.glob X0:=by intro x hx;obtain⟨⟨sh,l,i,off,he⟩,hr⟩:=hsim.glob x hx;refine⟨⟨sh,l,i,off,he⟩,hr.move fz.ext.M fz.ext.w ?_⟩;have h3:=hr.1.ext fz.ext;rw[he] at h3 ⊢;exact h3.noMen rfl (fun _ h=>h) (fun _ _=>rfl)
   have hmove:Move0 X1 X0 (qFg fp):=by
    refine⟨fun _ h=>h,fun _ _=>rfl,fun b k hb hk=>?_,rfl⟩;have hfk:=qDX hk;have hnv:∀sh m,¬X0.isVec k sh m:=by intro sh m ⟨e,l,q1,_⟩;rcases q1 with q1|q1<;>obtain⟨_,_,_,_,q2,_,q4,_⟩:=hget0 k _ q1<;>subst q2<;>cases q4
    exact⟨by show k<hin.length;rw[k1];exact qo hfk,hσ0 k b hfk,fun sh m hv=>absurd hv (hnv sh m),fun sh m hv=>absurd hv (hnv sh m)⟩
   have hrep0:RepL X0 (AV.renL (qFg fp) (AV.lendL X1.h args)) vargs:=(qeb hs1 (hargs.ext fz.ext)).ren hmove;have hcalls:=hG.2 B0 X0 _ vargs r0 hs0 hent hgl hrep0 h1;have hw1:X0.w=X.w:=fz.w;rw[hw1] at hcalls;refine hcalls.mono fun e w' ⟨v,X0',e1,e2,e3,e4,e5,e6⟩=>?_;have hB0:B0.imps.length=fp.length:=by simp[B0,k1]
   have hσ0':∀(k b:Nat),fp[k]?=some b->X0'.σ k=X1.σ b:=by
    intro k b hk;have hlt:=qo hk;have:=e5.imps k (by rw[hB0];exact hlt);rw[this,<-hσ0 k b hk];have hk':k<hin.length:=by omega
    simp[B0,hk']
   let X':Ctx:={ σ:=fun b=>if b<X1.h.length then X1.σ b else X0'.σ (fp.length+(b-X1.h.length)),h:=hh2++(r0.2.drop fp.length).map (Blk.ren (qq7 fp X1.h.length)),w:=X0'.w,M:=X0'.M,kept:=X1.kept,y:=X1.y }
   have hM01:∀n,X1.M n->X0'.M n:=fun n hn=>e5.M0 n hn;have himp:∀n,some n∈B0.imps->∃(k b:Nat),fp[k]?=some b/\X1.own b n:=by
    intro n hn;obtain⟨k,hk,hk2⟩:=qOP.1 hn;have hk':k<fp.length:=by rw[<-k1];simpa using hk
    have hfk:fp[k]?=some fp[k]:=qO5 hk';obtain⟨cs,n',q1,q2,q3,q4,q5⟩:=hcell k _ hfk;rw[hσ0 k _ hfk,q4] at hk2;cases hk2;exact⟨k,_,hfk,q5⟩
   have hkeep:∀n,n<X1.w.heap.size->(∀(k b:Nat),fp[k]?=some b->¬X1.own b n)->X0'.w.heap[n]?=X1.w.heap[n]?:=by intro n hn hno;refine e5.frame n hn fun hm=>?_;obtain⟨k,b,q1,q2⟩:=himp n hm;exact hno k b q1 q2
   have hh2l:hh2.length=X1.h.length:=p1;have hget':∀(b:Nat) (blk:Blk),X'.h[b]?=some blk ->
     (b<X1.h.length/\b∉fp/\X1.h[b]?=some blk)\/(b<X1.h.length/\∃(k:Nat) (cs:Blk),fp[k]?=some b/\blk=cs/\X0'.h[k]?=some cs/\cs.plain=true) \/
     (X1.h.length<=b/\∃k0,X0'.h[fp.length+(b-X1.h.length)]?=some k0/\blk=k0.ren (qq7 fp X1.h.length)):=by
    intro b blk hb;have hb':(hh2++(r0.2.drop fp.length).map (Blk.ren (qq7 fp X1.h.length)))[b]?=some blk:=hb;rcases qO6 b X1.h.length with hlt|hge
    ·rw[qOb (by omega)] at hb';by_cases hbf:b∈fp
     ·obtain⟨k,hk⟩:=qQb hbf;obtain⟨cs,q1,q2,q3⟩:=p4 k b hk;rw[q2] at hb';cases hb';exact .inr (.inl ⟨hlt,k,blk,hk,rfl,by rw[e4];exact q1,q3⟩)
     ·rw[p3 b hbf] at hb';exact .inl ⟨hlt,hbf,hb'⟩
    ·rw[qOi (by omega),qO8,qP4] at hb';refine .inr (.inr ⟨hge,?_⟩);rw[hh2l] at hb';cases hq:r0.2[fp.length+(b-X1.h.length)]? with
     | none=>rw[hq] at hb';cases hb'
     | some k0=>
      rw[hq] at hb';simp only[qOz,qNY] at hb';exact⟨k0,by rw[e4];exact hq,hb'.symm⟩
   have hσlt:∀b,b<X1.h.length->X'.σ b=X1.σ b:=fun b hb=>by show (if b<X1.h.length then _ else _)=_;rw[if_pos hb]
   have hσge:∀b,X1.h.length<=b->X'.σ b=X0'.σ (fp.length+(b-X1.h.length)):=fun b hb=>by show (if b<X1.h.length then _ else _)=_;rw[if_neg (by omega)]
   have hnotin:∀b n,b∉fp->X1.own b n->∀(k b':Nat),fp[k]?=some b'->¬X1.own b' n:=by intro b n hb ho k b' hk ho';exact hb (hs1.inj b b' n ho ho'▸qON hk)
   have hMnot:∀n,X1.M n->∀(k b':Nat),fp[k]?=some b'->¬X1.own b' n:=fun n hn k b' _ ho=>hs1.notM b' n ho hn;have hsz:=e5.size;have hback:Move0 X0' X' (qq7 fp X1.h.length):=by
    refine⟨fun _ h=>h,fun _ _=>rfl,fun k b hk hf=>?_,e6.symm⟩;simp only[qq7] at hf;by_cases hlt:k<fp.length
    ·rw[if_pos hlt] at hf;have hbl:=hfpl b (qON hf);have hnv:∀sh m,¬X'.isVec b sh m:=by
      intro sh m ⟨e,l,q1,_⟩;rcases q1 with q1|q1<;>rcases hget' b _ q1 with⟨_,h3,_⟩|⟨_,_,_,_,h3,_,h3p⟩|⟨h3,_⟩ <;>
       first|omega|exact absurd (qON hf) h3|(subst h3;cases h3p)
     exact⟨by show b<List.length (_++_);simp;omega,by rw[hσlt b hbl,hσ0' k b hf],fun sh m hv=>absurd hv (hnv sh m),fun sh m hv=>absurd hv (hnv sh m)⟩
    ·rw[if_neg hlt] at hf;cases hf;have hk2:k<r0.2.length:=by rw[<-e4];exact hk
     have hidx:fp.length+(X1.h.length+(k-fp.length)-X1.h.length)=k:=by omega
     refine⟨?_,?_,fun sh m ⟨e,l,q1,q2⟩=>?_,fun sh m _ n hn c T fr hc=>⟨c,T,fr,hc,rfl⟩⟩
     ·show _<List.length (_++_);simp;omega
     ·rw[hσge _ (by omega),hidx]
     ·rcases q1 with q1|q1<;>rcases hget' _ _ q1 with⟨h3,_⟩|⟨h3,_⟩|⟨_,k0,h3,h4⟩<;>first|omega|skip
      ·rw[hidx] at h3;rcases qps (.inl h4) with rfl|rfl
       ·exact⟨e,l,.inl h3,q2⟩
       ·exact⟨e,l,.inr h3,q2⟩
      ·rw[hidx] at h3;rcases qps (.inr h4) with rfl|rfl
       ·exact⟨e,l,.inl h3,q2⟩
       ·exact⟨e,l,.inr h3,q2⟩
   have hext:Ext X1 X':=by
    refine Move.of hM01 (fun ad had=>qP2 (hkeep _ (hs1.ltM _ had) (hMnot _ had))) (fun b b' hb hf=>?_);cases hf;have hvec:∀sh m,X'.isVec b sh m->b∉fp/\X1.isVec b sh m:=by
     intro sh m ⟨e,l,q1,q2⟩;rcases q1 with q1|q1<;>rcases hget' b _ q1 with⟨_,h3,h4⟩|⟨_,_,_,_,h3,_,h3p⟩|⟨h3,_⟩<;>first|omega|(subst h3;cases h3p;done)|skip
     ·exact⟨h3,e,l,.inl h4,q2⟩
     ·exact⟨h3,e,l,.inr h4,q2⟩
    refine⟨by show _<List.length (_++_);simp;omega,hσlt b hb,fun sh m hv=>(hvec sh m hv).2,fun sh m hv n hn c T fr hc=>⟨c,T,fr,?_,rfl⟩⟩;obtain⟨h3,e,l,h4,_⟩:=hvec sh m hv;refine(hkeep n (qO4.1 hc).1 ?_).trans hc;rcases h4 with h4|h4
    ·exact hnotin b n h3 ⟨hn,_,h4,rfl⟩
    ·rcases hs1.blk b _ h4 with⟨h5,_⟩|⟨n',c',h5,_,_,h6⟩
     ·rw[hn] at h5;cases h5
     ·rw[hn] at h5;cases h5;exact hMnot n h6
   have hown':∀(b n:Nat),X'.own b n->(b<X1.h.length/\X1.own b n)\/(X1.h.length<=b/\X0'.own (fp.length+(b-X1.h.length)) n):=by
    intro b n ⟨q1,blk,q2,q3⟩;rcases hget' b blk q2 with⟨h3,_,h4⟩|⟨h3,k,cs,h4,h5,_,_⟩|⟨h3,k0,h4,h5⟩
    ·exact .inl ⟨h3,by rw[<-hσlt b h3];exact q1,blk,h4,q3⟩
    ·obtain⟨cs',n',w1,_,_,w4,w5⟩:=hcell k b h4;rw[hσlt b h3,w4] at q1;cases q1;exact .inl ⟨h3,w5⟩
    ·subst h5;exact .inr ⟨h3,by rw[<-hσge b h3];exact q1,k0,h4,by rwa [Blk.mut_ren] at q3⟩
   have hnewge:∀k n,fp.length<=k->X0'.own k n->X1.w.heap.size<=n:=fun k n hk ho=>e5.fresh k n ho (by rw[hB0];exact hk);have hs':HSim B X':=by
    constructor
    ·intro b blk hb;rcases hget' b blk hb with⟨h3,h4,h5⟩|⟨h3,k,cs,h4,h5,h6,h7⟩|⟨h3,k0,h4,h5⟩
     ·by_cases hd:blk=.dead
      ·subst hd;trivial
      ·refine jf.ext hext (hσlt b h3) (fun n hn=>hkeep n (hs1.lt h5 hd hn) ?_) (hs1.blk b blk h5);by_cases hm1:blk.mut=true
       ·exact hnotin b n h4 ⟨hn,blk,h5,hm1⟩
       ·cases blk with
        | cells=>exact absurd rfl hm1
        | big=>exact absurd rfl hm1
        | vec=>exact absurd rfl hm1
        | dead=>exact absurd rfl hd
        | frz e sh l=>
         rcases hs1.blk b _ h5 with⟨h6,_⟩|⟨n',c',h6,_,_,h7⟩
         ·rw[hn] at h6;cases h6
         ·rw[hn] at h6;cases h6;exact hMnot n h7
     ·subst h5;exact qvy h7 (e5.blk k _ h6) (by rw[hσlt b h3,<-hσ0' k b h4]) (fun _ _=>rfl) (fun _ h=>h) (fun _ _=>rfl) e6.symm
     ·subst h5;exact jf.move hback (hσge b h3) (fun _ _=>rfl) (e5.blk _ k0 h4)
    ·intro b b' n h3 h4;rcases hown' b n h3 with⟨w1,w2⟩|⟨w1,w2⟩<;>rcases hown' b' n h4 with⟨w3,w4⟩|⟨w3,w4⟩
     ·exact hs1.inj b b' n w2 w4
     ·have:=hnewge _ n (by omega) w4;have:=Ctx.own.lt hs1 w2;omega
     ·have:=hnewge _ n (by omega) w2;have:=Ctx.own.lt hs1 w4;omega
     ·have:=e5.inj _ _ n w2 w4;omega
    ·intro b n h3 h4;rcases hown' b n h3 with⟨w1,w2⟩|⟨w1,w2⟩
     ·rcases e5.newM n h4 with h5|h5
      ·exact hs1.notM b n w2 h5
      ·have h6:X1.w.heap.size<=n:=h5;have:=Ctx.own.lt hs1 w2;omega
     ·exact e5.notM _ n w2 h4
    ·exact e5.ltM
    ·exact fun n hn=>hM01 n (hs1.M0 n hn)
    ·intro n hn;rcases e5.newM n hn with h5|h5
     ·exact hs1.newM n h5
     ·have h6:X1.w.heap.size<=n:=h5;have:=hs1.size;exact .inr (by omega)
    ·exact e5.os.trans hs1.os
    ·exact e5.tape.trans hs1.tape
    ·exact e5.output.trans hs1.output
    ·have h6:X1.w.heap.size<=X0'.w.heap.size:=hsz;have:=hs1.size;show B.w0.heap.size<=X0'.w.heap.size;omega
    ·intro n hn hni;have h6:=hs1.size;have:X0'.w.heap[n]?=X1.w.heap[n]?:=by
      refine hkeep n (by omega) fun k b hk ho=>?_;rcases qO6 b B.imps.length with hlt|hge
      ·have h7:=hs1.imps b hlt;rw[ho.1,qO5 hlt] at h7;simp at h7;exact hni (h7▸qOI hlt)
      ·have:=hs1.fresh b n ho hge;omega
     exact this.trans (hs1.frame n hn hni)
    ·intro b hb;have:=hs1.hlen;rw[hσlt b (by omega)];exact hs1.imps b hb
    ·intro b hb;have:=hs1.hlen;obtain⟨cs,h3,h3s⟩:=hs1.impc b hb;by_cases hbf:b∈fp
     ·obtain⟨k,hk⟩:=qQb hbf;obtain⟨cs',q1,q2,q3⟩:=p4 k b hk;exact⟨cs',by show (_++_)[b]?=_;rw[qOb (by omega)];exact q2,(qlY q3).1⟩
     ·exact⟨cs,by show (_++_)[b]?=_;rw[qOb (by omega),p3 b hbf];exact h3,h3s⟩
    ·intro b n h3 h4;rcases hown' b n h3 with⟨w1,w2⟩|⟨w1,w2⟩
     ·exact hs1.fresh b n w2 h4
     ·have:=hnewge _ n (by omega) w2;have:=hs1.size;omega
    ·intro p hp;obtain⟨q1,q2,q3⟩:=hs1.kept p hp;refine⟨(hkeep p.1 (qO4.1 q1).1 fun k b _ ho=>?_).trans q1,q2,q3⟩;obtain⟨c,T,fr,hc⟩:=ho.cells hs1;rw[hc] at q1;exact q2 _ _ _ (qOE q1).symm
   exact⟨v,X',e1,e2,e3.ren hback,(hsim.ext fz.ext hs1).ext hext hs'⟩
end Go.Eng

namespace Go.Eng
variable {E:Env}{t:TypeId}
def yY(h:List Blk):Tree Res->Prop
 | .leaf r=>r.2=(h,none)
 | .br _ t e=>yY h t/\yY h e
 | .fail=>True
theorem yY.run {h:List Blk}{t:Tree Res}{r:Res}(ht:yY h t)(hr:t.run=some r):r.2=(h,none):=by
 induction t with
 | leaf x=>cases hr;exact ht
 | br b t e iht ihe=>cases b<;>simp only[Tree.run] at hr<;>first|exact iht ht.1 hr|exact ihe ht.2 hr
 | fail=>cases hr
theorem qmX (h:List Blk)(k:IntKind)(f:Int->Int->Int)(l:Bool)(x y:Int):yY h (q6G h k f l x y):=by unfold q6G;split<;>rfl
theorem qAL (h:List Blk)(f:Int->Int->Bool)(l:Bool)(x y:Int):yY h (qEW h f l x y):=by unfold qEW;split<;>rfl
theorem qE9 (E:Env)(h:List Blk)(t:TypeId)(p:AV):yY h (qfY E h t p):=by
 unfold qfY;dsimp only
 repeat' (first|exact rfl|exact trivial|split)
theorem qBO (E:Env)(h:List Blk)(t:TypeId)(ps:List (Nat×AV)):yY h (qif E h t ps):=by
 unfold qif
 repeat' (first|exact rfl|exact trivial|split)
theorem qBC (E:Env)(h:List Blk)(t:TypeId)(p:AV):yY h (qdb E h t p):=by
 unfold qdb qH5
 repeat' (first|exact qE9 _ _ _ _|exact rfl|exact trivial|exact⟨rfl,trivial⟩|split)
theorem qzc (E:Env)(h:List Blk)(t:TypeId)(ps:List (Nat×AV)):yY h (qc9 E h t ps):=by
 unfold qc9
 repeat' (first|exact qBO _ _ _ _|exact rfl|exact trivial|split)
theorem qs5 (E:Env)(h:List Blk)(s:TypeId)(x:AV)(f:Nat):yY h (q2a E h s x f):=by
 unfold q2a
 repeat' (first|exact rfl|exact trivial|split)
theorem qpb (E:Env)(h:List Blk)(t:TypeId)(cs:List AV)(o:Nat):yY h (qhs E h t cs o):=by
 unfold qhs
 repeat' (first|exact rfl|exact trivial|split)
theorem qBA (E:Env)(h:List Blk)(s:TypeId)(x:AV)(f:Nat):yY h (qiE E h s x f):=by
 unfold qiE
 repeat' (first|exact rfl|exact trivial|exact qpb _ _ _ _ _|split)
theorem qmB(h:List Blk)(i:Int)(f:Nat->AV):∀n,yY h (qhE h i f n)
 | 0=>trivial
 | n+1=>⟨rfl,qmB h i f n⟩
theorem qsF (E:Env)(h:List Blk)(t:TypeId)(x i:AV):yY h (yL E h t x i):=by
 unfold yL
 repeat' (first|exact qmB _ _ _ _|exact rfl|exact trivial|exact⟨rfl,trivial⟩|split)
theorem qqU (E:Env)(h:List Blk)(t:TypeId)(x i:AV):yY h (q0o E h t x i):=by
 unfold q0o
 repeat' (first|exact qsF _ _ _ _ _|exact rfl|exact trivial|exact⟨rfl,trivial⟩|split)
theorem qvM(E:Env)(h:List Blk)(e:TypeId)(cs:List AV)(es:Nat)(i:Int):∀m j,yY h (qpW E h e cs es i j m)
 | 0,_=>trivial
 | m+1,j=>⟨qpb _ _ _ _ _,qvM E h e cs es i m (j+1)⟩
theorem qBp (E:Env)(h:List Blk)(t:TypeId)(x i:AV):yY h (qiA E h t x i):=by
 unfold qiA
 repeat' (first|exact rfl|exact trivial|exact⟨rfl,trivial⟩|exact qpb _ _ _ _ _|exact qvM _ _ _ _ _ _ _ _|split)
theorem qH3 (d:TD)(h:List Blk)(op:BinOp)(x y:AV):yY h (qzO d h op x y):=by
 unfold qzO
 repeat' (first|exact rfl|exact trivial|exact qmX _ _ _ _ _ _|exact qAL _ _ _ _ _|exact⟨rfl,trivial⟩|exact⟨qmX _ _ _ _ _ _,trivial⟩|split)
theorem qBz (E:Env)(h:List Blk)(op:BinOp)(t:TypeId)(x y:AV):yY h (qm0 E h op t x y):=by
 unfold qm0;split
 ·unfold qtd
  repeat' (first|exact rfl|exact trivial|split)
 ·exact qH3 _ _ _ _ _
theorem qIL (h:List Blk)(op:UnOp)(x:AV):yY h (qLl h op x):=by
 unfold qLl
 repeat' (first|exact rfl|exact trivial|split)
theorem qEd (E:Env)(h:List Blk)(s d:TypeId)(x:AV):yY h (qpz E h s d x):=by
 unfold qpz
 repeat' (first|exact rfl|exact trivial|split)
theorem qC1 (E:Env)(h:List Blk)(s d:TypeId)(x:AV):yY h (qiF E h s d x):=by
 unfold qiF;split
 ·split
  ·unfold qsB
   repeat' (first|exact rfl|exact trivial|split)
  ·trivial
 ·exact qEd _ _ _ _ _
theorem qHK (E:Env)(h:List Blk)(ts:List TypeId)(azz:List AV):yY h (qrB E h ts azz):=by
 unfold qrB;split
 ·unfold qHM
  repeat' (first|exact rfl|exact trivial|split)
 ·trivial
theorem qCF (f:Int->Int->Int)(h:List Blk)(azz:List AV):yY h (qxe f h azz):=by
 unfold qxe
 repeat' (first|exact rfl|exact trivial|split)
theorem qAF (ht:(E.ty t).d=.str)(h:List Blk)(x:AV)(lo hi mx:Option AV):yY h (qcE E h t x lo hi mx):=by
 unfold qcE;rw[ht];cases mx with
 | some _=>trivial
 | none=>
  cases x<;>first|trivial|skip
  simp only;split
  ·exact⟨⟨rfl,trivial⟩,trivial⟩
  ·trivial
theorem qAf (ht:(E.ty t).d=.str)(h:List Blk)(x:AV)(lo hi mx:Option AV):yY h (yT E h t x lo hi mx):=by unfold yT;rw[ht];exact qAF ht _ _ _ _ _
theorem qyT {n:Nat}{e:TypeId}{es:Nat}(ht:(E.ty t).d=.array n e es)(h:List Blk)(x:AV)(lo hi mx:Option AV):yY h (yT E h t x lo hi mx):=by
 unfold yT;rw[ht];simp only;unfold qJa qyY
 repeat' (first|exact rfl|exact trivial|exact⟨⟨rfl,trivial⟩,trivial⟩|exact⟨⟨⟨rfl,trivial⟩,trivial⟩,trivial⟩|split)
theorem qAq {e:TypeId}{es:Nat}(ht:(E.ty t).d=.slice e es)(h:List Blk)(x:AV)(lo hi:Option AV){mx:Option AV}(hm:mx.isSome=true):yY h (yT E h t x lo hi mx):=by
 unfold yT;rw[ht];simp only;unfold qcE;cases mx with
 | none=>cases hm
 | some m=>
  simp only;rw[ht]
  repeat' (first|exact rfl|exact trivial|exact⟨⟨⟨rfl,trivial⟩,trivial⟩,trivial⟩|split)
theorem qws {h:List Blk}{ev:Operand->AV}{op:Op}(hs:qdC E op=true){r:Res}(hr:(qr9 E h ev op).run=some r):r.2=(h,none):=by
 have key:yY h (qr9 E h ev op):=by
  unfold qr9;cases op<;>simp only[qdC] at hs<;>try (cases hs)
  case move=>rfl
  case assign=>rfl
  case pick=>simp only;split<;>first|rfl|exact⟨rfl,rfl⟩|trivial
  case build=>exact qzc _ _ _ _
  case load=>exact qBC _ _ _ _
  case nilCheck=>simp only;repeat' (first|exact rfl|exact⟨rfl,trivial⟩|exact trivial|split)
  case binOp=>exact qBz _ _ _ _ _ _
  case unOp=>exact qIL _ _ _
  case convert=>exact qC1 _ _ _ _ _
  case makeFunc fn _ _=>cases fn<;>first|rfl|trivial
  case slice t x lo hi mx=>
   split at hs
   ·rename_i ht;exact qAf ht _ _ _ _ _
   ·rename_i ht;exact qyT ht _ _ _ _ _
   ·rename_i ht;exact qAq ht _ _ _ _ (by simpa using hs)
   ·cases hs
  case fieldAddr=>exact qs5 _ _ _ _ _
  case field=>exact qBA _ _ _ _ _
  case indexAddr=>exact qqU _ _ _ _ _
  case index=>exact qBp _ _ _ _ _
  case extract=>simp only;repeat' (first|exact rfl|exact trivial|split)
  case call c=>
   obtain⟨callee,args,tys⟩:=c;cases callee with
   | builtin b=>
    cases b<;>simp only at hs<;>try (cases hs)
    ·exact qHK _ _ _ _
    ·exact qCF _ _ _
    ·exact qCF _ _ _
   | value x=>simp only at hs;cases hs
   | invoke x n=>simp only at hs;cases hs
 exact key.run hr
end Go.Eng

namespace Go.Eng
variable {E:Env}
theorem qx6 {callS:q7b}{h:List Blk}{f g:Operand->AV}{op:Op}(hfg:∀x∈op.operands.toList,f x=g x):qcS E callS h f op=qcS E callS h g op:=by
 have hmap:∀(l:List Operand),(∀x∈l,x∈op.operands.toList)->l.map f=l.map g:=fun l hl=>qPa fun x hx=>hfg x (hl x hx);have hop:qdC E op=true->qr9 E h f op=qr9 E h g op:=by
  intro hst;unfold qr9;cases op<;>simp only[qdC] at hst<;>try (cases hst)
  case move x=>simp only;rw[hfg x (by simp[Op.operands])]
  case assign x=>simp only;rw[hfg x (by simp[Op.operands])]
  case pick c a b=>simp only;rw[hfg c (by simp[Op.operands]),hfg a (by simp[Op.operands]),hfg b (by simp[Op.operands])]
  case build t ps=>
   simp only;have:(ps.toList.map fun p=>(p.1,f p.2))=ps.toList.map fun p=>(p.1,g p.2):=qPa fun p hp=>by rw[hfg p.2 (by simp only[Op.operands];exact List.mem_map_of_mem hp)]
   rw[this]
  case load t a=>simp only;rw[hfg a (by simp[Op.operands])]
  case nilCheck a=>simp only;rw[hfg a (by simp[Op.operands])]
  case binOp o t x y ty=>simp only;rw[hfg x (by simp[Op.operands]),hfg y (by simp[Op.operands])]
  case unOp o t x=>simp only;rw[hfg x (by simp[Op.operands])]
  case convert s d x=>simp only;rw[hfg x (by simp[Op.operands])]
  case makeFunc fn a b=>cases fn<;>simp only;rw[hmap a.toList (fun x hx=>by simp only[Op.operands,qQ0];exact qOT _ hx),hmap b.toList (fun x hx=>by simp only[Op.operands,qQ0];exact qOH _ hx)]
  case slice t x lo hi mx=>
   simp only;have hlo:∀y,lo=some y->f y=g y:=fun y hy=>hfg y (by subst hy;simp[Op.operands]);have hhi:∀y,hi=some y->f y=g y:=fun y hy=>hfg y (by subst hy;simp[Op.operands]);have hmx:∀y,mx=some y->f y=g y:=fun y hy=>hfg y (by subst hy;simp[Op.operands]);have e1:lo.map f=lo.map g:=by
    cases lo with
    | none=>rfl
    | some y=>exact congrArg some (hlo y rfl)
   have e2:hi.map f=hi.map g:=by
    cases hi with
    | none=>rfl
    | some y=>exact congrArg some (hhi y rfl)
   have e3:mx.map f=mx.map g:=by
    cases mx with
    | none=>rfl
    | some y=>exact congrArg some (hmx y rfl)
   rw[e1,e2,e3,hfg x (by simp[Op.operands])]
  case fieldAddr s x i=>simp only;rw[hfg x (by simp[Op.operands])]
  case field s x i=>simp only;rw[hfg x (by simp[Op.operands])]
  case indexAddr t x i=>simp only;rw[hfg x (by simp[Op.operands]),hfg i (by simp[Op.operands])]
  case index t x i=>simp only;rw[hfg x (by simp[Op.operands]),hfg i (by simp[Op.operands])]
  case extract x i=>simp only;rw[hfg x (by simp[Op.operands])]
  case call c=>
   obtain⟨callee,args,tys⟩:=c;cases callee with
   | builtin b=>
    simp only;rw[hmap args.toList (fun x hx=>by simpa[Op.operands,Call.operands] using hx)]
   | value x=>simp only at hst;cases hst
   | invoke x n=>simp only at hst;cases hst
 unfold qcS;split
 ·rename_i x args tys;rw[hfg x (by simp[Op.operands,Call.operands]),hmap args.toList (fun y hy=>by simp only[Op.operands,Call.operands,qQ0];exact qOH _ hy)]
 ·split
  ·rename_i hst;rw[hop hst]
  ·rfl
def qlw(E:Env)(P:Program)(callS:List Blk->q7b):Prop:=
 ∀(f:FuncId) (args:List AV) (st:St) (v:AV) (B:Base) (X:Ctx) (a:Act) (vargs:List Value),Sim E B X st a->RepL X args vargs->(callS st.h f args).run=some v ->
  (∀w,(callFunc f vargs.toArray).run P w=.ok (.enter f vargs.toArray) w) /\
  Calls P f vargs.toArray X.w fun e w'=>∃u X',e=.returned u/\X'.w=w'/\Rep X' v u/\Sim E B X' st a
def q5o(E:Env)(callS:List Blk->q7b):Prop:=∀(h h':List Blk) (f:FuncId) (args:List AV),(qhQ E f).isSome=true->(∀b,b∈AV.menL args->h'[b]?=h[b]?)->callS h' f args=callS h f args
def qpk(P:Program)(f:FuncId)(e:TypeId):Prop:=(∀args w,(callFunc f args).run P w=.ok (.enter f args) w) /\
 ∀(w:World) (n len cap i j:Nat) (c:Array Value) (T:TypeId),w.heap[n]?=some (.cells c T (0,0))->c.size=cap*P.cellsOf e->(∀k v,k<len*P.cellsOf e->c[k]?=some v->v.oneCell'=true)->0<P.cellsOf e ->
  len<=cap->cap<=9223372036854775807->i<=j->j<=len ->
  Calls P f #[.slice (some ⟨n,0,none⟩) len cap,.int .i64 i,.int .i64 j] w fun x w'=>x=.returned (.slice (some ⟨n,0,none⟩) (len-(j-i)) cap) /\
   ∃c',w'.heap[n]?=some (.cells c' T (0,0))/\c'.size=c.size/\(∀k,k<(len-(j-i))*P.cellsOf e->c'[k]?=if k<i*P.cellsOf e then c[k]? else c[k+(j-i)*P.cellsOf e]?) /\
    (∀m,m≠n->w'.heap[m]?=w.heap[m]?)/\w'.heap.size=w.heap.size/\w'.os=w.os/\w'.tape=w.tape/\w'.output=w.output
structure Env.specs (E:Env) (P:Program):Prop where
 sp:∀x,x∈E.spec->qP P E.glob x.1 x.2
 dl:∀x,x∈E.dels->qpk P x.1 x.2
theorem qkY:∀(l:List Nat) (h:List Blk),l.all (qlq h)=true->qF h l=h
 | [],_,_=>rfl
 | b::l,h,hl=>by
  simp only[qPY,qOd] at hl;have:zE h b=h:=by
   unfold zE;have:=hl.1;unfold qlq at this;split at this
   ·rename_i hb;rw[hb]
   ·cases this
  simp only[qF,this];exact qkY l h hl.2
theorem qx3 {P:Program}(hS:E.specs P):qlw E P (qaf E):=by
 intro f args st v B X a vargs hsim hargs h;unfold qaf at h;cases hf:E.spec.find? fun x=>x.1==f with
 | none=>rw[hf] at h;cases h
 | some G=>
  rw[hf] at h;have hG:=hS.sp G (qOU hf);have hfe:G.1=f:=by simpa using qPd hf
  simp only at h;split at h
  ·rename_i hc;obtain⟨r,h1,h2⟩:=bind_some h;have hr2:r.2=[]/\(r.1.men)=[]/\v=r.1:=by
    split at h2
    ·rename_i he;split at h2
     ·rename_i hm;cases h2;exact⟨he,by simpa using hm,rfl⟩
     ·cases h2
    ·cases h2
   obtain⟨q1,q2,rfl⟩:=hr2;have hfz:qF st.h (args.flatMap zP)=st.h:=qkY _ _ hc.1;have hmen:AV.menL (AV.lendL st.h args)=[]:=by simpa using hc.2
   have hcs:(q0F G.2 args st).run=some (r.1,st):=by
    unfold q0F;have hpr:vg st.h args=st.h:=by unfold vg;simp only[hfz,hmen,q7Q,qF,qbM]
    simp only[hpr,hmen,qm2,q6i];rw[AV.renL_of_men _ _ hmen,Tree.run_bind,h1];simp only[qOp,q0M,q1,qOJ,List.drop_nil,List.map_nil,qOZ];rw[AV.ren_of_men _ _ q2];rfl
   rw[hfe] at hG;refine⟨hG.1 _,?_⟩;exact q7J hG hsim hargs hcs
  ·cases h
theorem qxF {P:Program}(hE:E.tok P){callS:List Blk->q7b}(hc:qlw E P callS){B:Base}{X:Ctx}{st:St}{a:Act}(hs:Sim E B X st a){o:Oper}{av:AV}(h:(qcS E (callS st.h) st.h (E.opd st.t) o.op).run=some av) {next:Act->World->Prop} {Q:Exit->Act->World->Prop}(hq:∀X' v,Sim E B X' st a->Rep X' av v->next (a.put o.dst v) X'.w):o.wp P a X.w next Q:=by
 unfold qcS at h;split at h
 ·rename_i x args tys hop;cases hx:E.opd st.t x with
  | fn f first caps=>
   rw[hx] at h;have hv:=q8K hs x;rw[hx] at hv;generalize hev:a.eval x=vx at hv;cases hv with
   | fn _ _ _ vf vc q1 q2=>
    have hargs:=q3T hs args.toList;have hall:RepL X (first++args.toList.map (E.opd st.t)++caps) (vf++args.toList.map a.eval++vc):=(q1.append hargs).append q2;obtain⟨g1,g2⟩:=hc f _ st av B X a _ hs hall h;unfold Oper.wp;have hrun:(execOp a.eval o).run P X.w=.ok (.enter f (vf++args.toList.map a.eval++vc).toArray) X.w:=by
     simp only[execOp,hop,resolve,hev,Deferred.ofValue,qO3,qOw,qOa,invoke];have:vf.toArray++args.map a.eval++vc.toArray=(vf++args.toList.map a.eval++vc).toArray:=by apply qPe;simp
     rw[this];exact g1 X.w
    rw[hrun];refine g2.mono fun e w' ⟨v,X',e1,e2,e3,e4⟩=>?_;subst e1 e2;exact hq X' _ e4 e3
  | _=>rw[hx] at h;cases h
 ·split at h
  ·rename_i hst;obtain⟨r,h1,h2⟩:=bind_some h;cases h2;have hr2:=qws hst h1;obtain⟨nx,v,X',g1,g2,g3,g4,g5⟩:=qmc hE hs h1;have hrn:r.2.2=none:=by rw[hr2]
   rw[hrn] at g5;have hXh:X'.h=st.h:=by rw[g5.1,hr2]
   have hs':Sim E B X' st a:=by have:=hs.ext g5.2 g4;rw[hXh] at this;exact this
   unfold Oper.wp;rw[g1];rcases g2 with rfl|⟨rfl,rfl⟩
   ·exact hq X' _ hs' g3
   ·exact hq X' _ hs' g3
  ·cases h
theorem Sim.drawn {B:Base}{X:Ctx}{st:St}{a:Act}(hs:Sim E B X st a)(n:Nat):Sim E B { X with w:={ X.w with drawn:=n } } st a:=by
 have hx:Ext X { X with w:={ X.w with drawn:=n } }:=
  Move.of (fun _ h=>h) (fun _ _=>rfl) (fun b b' hb h=>by cases h;exact⟨hb,rfl,fun _ _ h=>h,fun _ _ _ _ _ c T fr h=>⟨c,T,fr,h,rfl⟩⟩)
 have h0:=hs.hs;have hs':HSim B { X with w:={ X.w with drawn:=n } }:=
  ⟨fun b k hk=>jf.ext hx rfl (fun _ _=>rfl) (h0.blk b k hk),h0.inj,h0.notM,h0.ltM,h0.M0,h0.newM,h0.os,h0.tape,h0.output,h0.size,h0.frame,h0.imps,h0.impc,h0.fresh,h0.kept⟩
 have:=hs.ext hx hs';have e:({ st with h:=X.h }:St)=st:=by rw[hs.h]
 exact e▸this
end Go.Eng

namespace Go.Eng
def qAH(all:Array Oper)(k:Nat)(v:AV):AV:=if qAQ all k then (match v with|.bool b=>.blit b|v=>v) else v
theorem qtv{X:Ctx}{all:Array Oper}{k:Nat}{v:AV}{u:Value}(h:Rep X v u):Rep X (qAH all k v) u:=by
 unfold qAH;split
 ·cases h with
  | bool b=>exact .blit b
  | undef=>exact .undef _
  | skip=>exact .skip
  | yld=>exact .yld
  | blit b=>exact .blit b
  | ilit k n=>exact .ilit k n
  | int k n=>exact .int k n
  | str s=>exact .str s
  | nilp=>exact .nilp
  | ptr b off n h1 h2=>exact .ptr b off n h1 h2
  | eptr sh l i off a h1 h2 h3 h4=>exact .eptr sh l i off a h1 h2 h3 h4
  | mnil sh l i off=>exact .mnil sh l i off
  | mptr sh l i off a h1 h2 h3 h4=>exact .mptr sh l i off a h1 h2 h3 h4
  | vptr b i off n k h1 h2 h3=>exact .vptr b i off n k h1 h2 h3
  | vsub b i n k m c h1 h2 h3=>exact .vsub b i n k m c h1 h2 h3
  | aptr b o i n h1 h2 h3=>exact .aptr b o i n h1 h2 h3
  | asub b o N i m n k c h1 h2 h3 h4 h5 h6=>exact .asub b o N i m n k c h1 h2 h3 h4 h5 h6
  | nils=>exact .nils
  | imm sh l _ h=>exact .imm sh l _ h
  | full sh l p n h=>exact .full sh l p n h
  | vec b p n c h1 h2=>exact .vec b p n c h1 h2
  | nilf=>exact .nilf
  | fn f a b c d h1 h2=>exact .fn f a b c d h1 h2
  | agg cs vs h=>exact .agg cs vs h
  | tuple cs vs h=>exact .tuple cs vs h
  | bagg cs k n l vs h hl=>exact .bagg cs k n l vs h hl
 ·exact h
theorem qGA{all:Array Oper}{k:Nat}{o:Oper}{st st':St}{v:AV}(h:(qv9 all k o { st with t:=qkf st.t o.dst v }).run=some st') :st'={ st with t:=qkf st.t o.dst (qAH all k v) }:=by
 unfold qv9 at h;unfold qAH;by_cases hg:qAQ all k=true
 ·rw[if_pos hg] at h ⊢;cases hd:o.dst with
  | none=>rw[hd] at h;cases h;rfl
  | some d=>
   rw[hd] at h;simp only[qkf] at h ⊢;rcases qO6 d st.t.length with hlt|hge
   ·rw[qOc hlt] at h;cases v<;>simp only at h<;>try (cases h;rfl)
    rename_i b;cases b<;>(cases h;simp[List.set_set])
   ·rw[List.set_eq_of_length_le hge] at h;rw[qOl hge] at h;cases h;rw[List.set_eq_of_length_le hge]
 ·rw[if_neg hg] at h ⊢;cases h;rfl
def qe3(V:Nat->AV):Nat->List Oper->List AV->List AV
 | _,[],t=>t
 | k,o::rest,t=>qe3 V (k+1) rest (qkf t o.dst (V k))
theorem qsc{V W:Nat->AV}:∀(l:List Oper) (k:Nat) (t:List AV),(∀j,k<=j->V j=W j)->qe3 V k l t=qe3 W k l t
 | [],_,_,_=>rfl
 | o::l,k,t,h=>by
  simp only[qe3];rw[h k (qO0 _)];exact qsc l (k+1) _ fun j hj=>h j (by omega)
section
variable (dst:Nat->Option Tmp) (V:Nat->AV) (T0:List AV)
def TLp(L:Nat->Bool):Nat->List AV
 | 0=>T0
 | m+1=>if L m then qkf (TLp L m) (dst m) (V m) else TLp L m
variable {dst V T0}
theorem qBo(t:List AV)(d:Option Tmp)(v:AV):(qkf t d v).length=t.length:=by cases d<;>simp[qkf]
theorem qdN(L:Nat->Bool):∀m,(TLp dst V T0 L m).length=T0.length
 | 0=>rfl
 | m+1=>by simp only[TLp];split<;>simp[qBo,qdN L m]
theorem qa5{L:Nat->Bool}{t:Tmp}:∀m,(∀j,j<m->L j=true->dst j≠some t)->(TLp dst V T0 L m)[t]?=T0[t]?
 | 0,_=>rfl
 | m+1,h=>by
  simp only[TLp];split
  ·rename_i hl;have:=h m (qPM m) hl;cases hd:dst m with
   | none=>exact qa5 m fun j hj=>h j (by omega)
   | some d=>
    rw[hd] at this;simp only[qkf];rw[qO1 (fun e=>this (by rw[e]))];exact qa5 m fun j hj=>h j (by omega)
  ·exact qa5 m fun j hj=>h j (by omega)
theorem qjn{L:Nat->Bool}{t:Tmp}{j:Nat}(hj:L j=true)(hd:dst j=some t):∀m,j<m->(∀k,k<m->k≠j->dst k≠some t) ->
  (TLp dst V T0 L m)[t]?=if t<T0.length then some (V j) else none
 | 0,h,_=>by omega
 | m+1,h,hu=>by
  by_cases hm:j=m
  ·subst hm;simp only[TLp,hj,if_true,hd,qkf];rw[List.getElem?_set];simp[qdN]
  ·simp only[TLp];split
   ·have:=hu m (qPM m) (fun e=>hm e.symm);cases hdm:dst m with
    | none=>exact qjn hj hd m (by omega) fun k hk=>hu k (by omega)
    | some d=>
     rw[hdm] at this;simp only[qkf];rw[qO1 (fun e=>this (by rw[e]))];exact qjn hj hd m (by omega) fun k hk=>hu k (by omega)
   ·exact qjn hj hd m (by omega) fun k hk=>hu k (by omega)
theorem qL8{L:Nat->Bool}{i n:Nat}(hi:i<n)(hL:L i=false)(hu:∀k,k<n->k≠i->∀t,dst i=some t->dst k≠some t) :TLp dst V T0 (fun j=>if j=i then true else L j) n=qkf (TLp dst V T0 L n) (dst i) (V i):=by
 apply qOR;intro t;cases hd:dst i with
 | none=>
  simp only[qkf];by_cases hex:∃j,j<n/\L j=true/\dst j=some t
  ·
   clear hex;have:∀m,m<=n->TLp dst V T0 (fun j=>if j=i then true else L j) m=TLp dst V T0 L m:=by
    intro m;induction m with
    | zero=>intro _;rfl
    | succ m ih=>
     intro hm;simp only[TLp];by_cases hmi:m=i
     ·subst hmi;rw[ih (by omega)];simp[hL,hd,qkf]
     ·rw[ih (by omega)];simp[hmi]
   rw[this n (qO0 _)]
  ·have h1:∀j,j<n->L j=true->dst j≠some t:=fun j hj hl he=>hex ⟨j,hj,hl,he⟩;rw[qa5 n h1];refine qa5 n fun j hj hl he=>?_;by_cases hji:j=i
   ·subst hji;rw[hd] at he;cases he
   ·simp[hji] at hl;exact h1 j hj hl he
 | some d=>
  simp only[qkf];by_cases htd:t=d
  ·subst htd;rw[qjn (j:=i) (by simp) hd n hi (fun k hk hki=>hu k hk hki t hd),List.getElem?_set];simp[qdN]
  ·rw[qO1 (fun e=>htd e.symm)];have:∀m,m<=n->(TLp dst V T0 (fun j=>if j=i then true else L j) m)[t]?=(TLp dst V T0 L m)[t]?:=by
    intro m;induction m with
    | zero=>intro _;rfl
    | succ m ih=>
     intro hm;simp only[TLp];by_cases hmi:m=i
     ·subst hmi;simp only[if_true,hL,qOC,if_false,hd,qkf];rw[qO1 (fun e=>htd e.symm)];exact ih (by omega)
     ·simp only[hmi,if_false];split
      ·cases hdm:dst m with
       | none=>exact ih (by omega)
       | some d'=>
        simp only[qkf,List.getElem?_set];rw[qdN,qdN,ih (by omega)]
      ·exact ih (by omega)
   exact this n (qO0 _)
end
theorem qJ9{V:Nat->AV}{l:List Oper}{T0:List AV}:∀j,j<=l.length->TLp (fun i=>(l[i]?).bind (·.dst)) V T0 (fun _=>true) j=qe3 V 0 (l.take j) T0:=by
 have app:∀(l:List Oper) (o:Oper) (k:Nat) (t:List AV),qe3 V k (l++[o]) t=qkf (qe3 V k l t) o.dst (V (k+l.length)):=by
  intro l;induction l with
  | nil=>intro o k t;simp[qe3]
  | cons a l ih=>intro o k t;simp only[qPo,qe3,ih];congr 2;simp;omega
 intro j;induction j with
 | zero=>intro _;simp[TLp,qe3]
 | succ j ih=>
  intro hj;have hlt:j<l.length:=by omega
  have ht:l.take (j+1)=l.take j++[l[j]]:=by rw[List.take_succ_eq_append_getElem hlt]
  rw[ht,app,<-ih (by omega)];simp only[TLp,if_true];rw[qO5 hlt];simp only[qOp];congr 2;simp;omega
end Go.Eng

namespace Go.Eng
variable {all:Array Oper}
def qBq(acc:List Nat)(o:Oper):Nat:=o.after.toList.foldl (fun s e=>if Region.binds .any e then s ||| 2^e.on ||| acc.getD e.on 0 else s) 0
theorem qrE(acc:List Nat)(x:Nat):∀(es:List Edge) (s:Nat),(es.foldl (fun s e=>if Region.binds .any e then s ||| 2^e.on ||| acc.getD e.on 0 else s) s).testBit x=true ->
  s.testBit x=true\/∃e,e∈es/\Region.binds .any e=true/\(x=e.on\/(acc.getD e.on 0).testBit x=true)
 | [],s,h=>.inl h
 | e::es,s,h=>by
  simp only[qPN] at h;rcases qrE acc x es _ h with h1|⟨e',h1,h2,h3⟩
  ·split at h1
   ·rename_i hb;rw[Nat.testBit_or,Nat.testBit_or,qPp,qPp] at h1;rcases h1 with (h1|h1)|h1
    ·exact .inl h1
    ·rw[Nat.testBit_two_pow] at h1;have h2:e.on=x:=by simpa using h1
     exact .inr ⟨e,qOm,hb,.inl h2.symm⟩
    ·exact .inr ⟨e,qOm,hb,.inr h1⟩
   ·exact .inl h1
  ·exact .inr ⟨e',qOo _ h1,h2,h3⟩
def qKv(ops:List Oper)(acc:List Nat):Prop:=∀i x,(acc.getD i 0).testBit x=true->∃o e,ops[i]?=some o/\e∈o.after.toList/\Region.binds .any e=true/\(x=e.on\/(acc.getD e.on 0).testBit x=true)
theorem qvY:∀(rest done:List Oper) (acc:List Nat),acc.length=done.length->qKv done acc->qKv (done++rest) (rest.foldl (fun acc o=>acc++[qBq acc o]) acc)
 | [],done,acc,_,h=>by simpa using h
 | o::rest,done,acc,hl,h=>by
  simp only[qPN];have:=qvY rest (done++[o]) (acc++[qBq acc o]) (by simp[hl]) ?_
  ·simpa using this
  ·intro i x hb;have grow:∀(j x:Nat),(acc.getD j 0).testBit x=true->((acc++[qBq acc o]).getD j 0).testBit x=true:=by
    intro j x hj;rcases qO6 j acc.length with hlt|hge
    ·rw[qNZ,qOb hlt,<-qNZ];exact hj
    ·rw[qNZ,qOl hge] at hj;simp at hj
   rcases qO6 i acc.length with hlt|hge
   ·rw[qNZ,qOb hlt,<-qNZ] at hb;obtain⟨o',e,h1,h2,h3,h4⟩:=h i x hb;refine⟨o',e,by rw[qOb (by omega)];exact h1,h2,h3,?_⟩;exact h4.elim .inl fun q=>.inr (grow _ _ q)
   ·rcases qPx hge with he|hgt
    ·rw[qNZ,<-he,qOi (qO0 _)] at hb;simp only[qOK,qPf,qOW] at hb;rcases qrE acc x _ _ hb with h1|⟨e,h1,h2,h3⟩
     ·simp at h1
     ·exact⟨o,e,by rw[<-he,qOi (by omega)];simp[hl],h1,h2,h3.elim .inl fun q=>.inr (grow _ _ q)⟩
    ·rw[qNZ,qOl (by simp;omega)] at hb;simp at hb
theorem qwR (ops:List Oper):qKv ops (qh6 ops):=by have:=qvY ops [] [] rfl (fun i x h=>by simp at h);exact this
structure DrawOk (all:Array Oper):Prop where
 edge:∀i o,all[i]?=some o->∀e,e∈o.after.toList->Region.binds .any e=true->e.on<i
 dst:∀i j oi oj,all[i]?=some oi->all[j]?=some oj->j≠i->∀t,oj.dst=some t->oi.dst≠some t /\
  (t∈qDP all oi->((qh6 all.toList).getD i 0).testBit j=true\/((qh6 all.toList).getD j 0).testBit i=true)
theorem qIH (h:qFu all=true):DrawOk all:=by
 unfold qFu at h;simp only[qOy,qOV] at h;have main:∀i oi,all[i]?=some oi->(∀e,e∈oi.after.toList->Region.binds .any e=true->e.on<i) /\
   ∀j oj,all[j]?=some oj->j≠i->∀t,oj.dst=some t->oi.dst≠some t/\(t∈qDP all oi->((qh6 all.toList).getD i 0).testBit j=true\/((qh6 all.toList).getD j 0).testBit i=true):=by
  intro i oi hi;have hi':all.toList[i]?=some oi:=by simpa using hi
  have:=h i (qo hi');rw[hi'] at this;simp only[qOd,qOy,qOV,qPp,beq_iff_eq] at this;obtain⟨h1,h2⟩:=this;refine⟨fun e he hb=>?_,fun j oj hj hne t ht=>?_⟩
  ·have:=h1 e he;rw[hb] at this;simpa using this
  ·have hj':all.toList[j]?=some oj:=by simpa using hj
   have:=(h2 j (qo hj')).resolve_left hne;rw[hj'] at this;simp only[ht,qOd,bne_iff_ne,ne_eq,qPp,qPy,List.contains_eq_mem,decide_eq_false_iff_not] at this;refine⟨this.1,fun hm=>?_⟩;rcases this.2 with (h3|h3)|h3
   ·exact absurd hm h3
   ·exact .inl h3
   ·exact .inr h3
 exact⟨fun i o hi=>(main i o hi).1,fun i j oi oj hi hj hne=>(main i oi hi).2 j oj hj hne⟩
theorem qJH (hd:DrawOk all):∀(i x:Nat),((qh6 all.toList).getD i 0).testBit x=true->x<i:=by
 intro i;induction i using Nat.strongRecOn with
 | _ i ih=>
  intro x hx;obtain⟨o,e,h1,h2,h3,h4⟩:=qwR all.toList i x hx;have he:=hd.edge i o (by simpa using h1) e h2 h3;rcases h4 with rfl|h4
  ·exact he
  ·have:=ih e.on he x h4;omega
def qqd(all:Array Oper)(L:Nat->Bool):Prop:=∀i o,all[i]?=some o->L i=true->∀e,e∈o.after.toList->Region.binds .any e=true->L e.on=true
theorem qvI (hd:DrawOk all){L:Nat->Bool}(hc:qqd all L):∀(i x:Nat),L i=true->((qh6 all.toList).getD i 0).testBit x=true->L x=true:=by
 intro i;induction i using Nat.strongRecOn with
 | _ i ih=>
  intro x hi hx;obtain⟨o,e,h1,h2,h3,h4⟩:=qwR all.toList i x hx;have ho:all[i]?=some o:=by simpa using h1
  have he:=hc i o ho hi e h2 h3;rcases h4 with rfl|h4
  ·exact he
  ·exact ih e.on (hd.edge i o ho e h2 h3) x he h4
section
variable {E:Env} {callS:q7b} {h:List Blk} {all:Array Oper} {V:Nat->AV} {T0:List AV}
def yC(all:Array Oper):Nat->Option Tmp:=fun i=>(all[i]?).bind (·.dst)
theorem qKS (hd:DrawOk all){L:Nat->Bool}(hc:qqd all L){n i:Nat}{o:Oper}(hi:all[i]?=some o)(hin:i<=n)(hL:L i=false)(hedge:∀e,e∈o.after.toList->Region.binds .any e=true->L e.on=true) {t:Tmp} (ht:t∈qDP all o) :(TLp (yC all) V T0 L n)[t]?=(TLp (yC all) V T0 (fun _=>true) i)[t]?:=by
 by_cases hex:∃j oj,all[j]?=some oj/\j≠i/\oj.dst=some t
 ·obtain⟨j,oj,hj,hne,hjt⟩:=hex;have hdj:yC all j=some t:=by simp[yC,hj,hjt]
  have huniq:∀m k,k<m->k≠j->yC all k≠some t:=by
   intro m k _ hkj he;unfold yC at he;cases hk:all[k]? with
   | none=>rw[hk] at he;cases he
   | some ok=>
    rw[hk] at he;simp only[qOp] at he;exact(hd.dst j k oj ok hj hk hkj t he).1 hjt
  rcases (hd.dst i j o oj hi hj hne t hjt).2 ht with ha|ha
  ·
   have hji:=qJH hd i j ha;have hLj:L j=true:=by
    obtain⟨o',e,h1,h2,h3,h4⟩:=qwR all.toList i j ha;have:o'=o:=by
     have h1':all[i]?=some o':=by simpa using h1
     rw[hi] at h1';exact(qOE h1').symm
    subst this;have he:=hedge e h2 h3;rcases h4 with rfl|h4
    ·exact he
    ·exact qvI hd hc _ _ he h4
   rw[qjn hLj hdj n (by omega) (huniq n),qjn rfl hdj i hji (huniq i)]
  ·
   have hij:=qJH hd j i ha;have hLj:L j=false:=by
    cases hLj:L j with
    | false=>rfl
    | true=>have:=qvI hd hc _ _ hLj ha;rw[hL] at this;cases this
   have e1:(TLp (yC all) V T0 L n)[t]?=T0[t]?:=qa5 n fun k hk hLk he=>by
    by_cases hkj:k=j
    ·subst hkj;rw[hLj] at hLk;cases hLk
    ·exact huniq n k hk hkj he
   have e2:(TLp (yC all) V T0 (fun _=>true) i)[t]?=T0[t]?:=qa5 i fun k hk _ he=>by
    by_cases hkj:k=j
    ·omega
    ·exact huniq i k hk hkj he
   rw[e1,e2]
 ·have hno:∀k,k≠i->yC all k≠some t:=by
   intro k hki he;unfold yC at he;cases hk:all[k]? with
   | none=>rw[hk] at he;cases he
   | some ok=>
    rw[hk] at he;exact hex ⟨k,ok,hk,hki,he⟩
  have e1:(TLp (yC all) V T0 L n)[t]?=T0[t]?:=qa5 n fun k hk hLk=>hno k (fun e=>by subst e;rw[hL] at hLk;cases hLk);have e2:(TLp (yC all) V T0 (fun _=>true) i)[t]?=T0[t]?:=qa5 i fun k hk _=>hno k (by omega);rw[e1,e2]
end
def unl(listed:Array Bool):Nat->Nat
 | 0=>0
 | m+1=>unl listed m+if listed.getD m false then 0 else 1
theorem qxH{listed:Array Bool}:∀{m:Nat},unl listed m=0->∀i,i<m->listed.getD i false=true
 | 0,_,i,hi=>by omega
 | m+1,h,i,hi=>by
  simp only[unl] at h;by_cases him:i=m
  ·subst him;cases hl:listed.getD i false with
   | true=>rfl
   | false=>rw[hl] at h;simp at h
  ·exact qxH (Nat.add_eq_zero_iff.1 h).1 i (by omega)
theorem q0w {listed:Array Bool}{i j:Nat}(hi:i<listed.size):(listed.setIfInBounds i true).getD j false=if j=i then true else listed.getD j false:=by
 by_cases h:j=i
 ·subst h;simp[hi]
 ·simp[h,Array.getElem?_setIfInBounds_ne (qOr h)]
theorem qB4{listed:Array Bool}{i:Nat}(hi:i<listed.size)(hl:listed.getD i false=false):∀m,(m<=i->unl (listed.setIfInBounds i true) m=unl listed m)/\(i<m->unl (listed.setIfInBounds i true) m+1=unl listed m)
 | 0=>⟨fun _=>rfl,fun h=>by omega⟩
 | m+1=>by
  obtain⟨h1,h2⟩:=qB4 hi hl m;refine⟨fun h=>?_,fun h=>?_⟩
  ·simp only[unl];rw[h1 (by omega),q0w hi,if_neg (show ¬m=i by omega)]
  ·simp only[unl];rw[q0w hi];by_cases him:m=i
   ·subst him;rw[h1 (qO0 _),if_pos rfl,hl];simp
   ·rw[if_neg him];have:=h2 (by omega);omega
end Go.Eng

namespace Go.Eng
variable {E:Env}{op:Op}{t:TypeId}
def kw(h':List Blk):Tree Res->Tree Res->Prop
 | .leaf r,t'=>t'=.leaf (r.1,h',none)
 | .br b t e,.br b' t' e'=>b=b'/\kw h' t t'/\kw h' e e'
 | .fail,_=>True
 | .br _ _ _,_=>False
theorem kw.run{h':List Blk}:∀{t t':Tree Res} {r:Res},kw h' t t'->t.run=some r->t'.run=some (r.1,h',none)
 | .leaf _,t',_,hm,hr=>by cases hr;simp only[kw] at hm;subst hm;rfl
 | .fail,_,_,_,hr=>by cases hr
 | .br b t e,.br b' t' e',r,hm,hr=>by
  simp only[kw] at hm;obtain⟨rfl,h1,h2⟩:=hm;cases b<;>simp only[Tree.run] at hr ⊢
  ·exact kw.run h2 hr
  ·exact kw.run h1 hr
 | .br _ _ _,.leaf _,_,hm,_=>by cases hm
 | .br _ _ _,.fail,_,hm,_=>by cases hm
section
variable {h h':List Blk}
def Agr(h h':List Blk)(p:AV):Prop:=∀b,b∈p.men->h'[b]?=h[b]?
theorem zV (v:AV):kw h' (okv h v) (okv h' v):=rfl
theorem jM {b:Bool}{t t' e e':Tree Res}(h1:kw h' t t')(h2:kw h' e e'):kw h' (.br b t e) (.br b t' e'):=⟨rfl,h1,h2⟩
theorem zk {c:Prop}[Decidable c]{t t' e e':Tree Res}(h1:kw h' t t')(h2:kw h' e e'):kw h' (if c then t else e) (if c then t' else e'):=by split<;>assumption
theorem qaw (kk:IntKind)(f:Int->Int->Int)(l:Bool)(x y:Int):kw h' (q6G h kk f l x y) (q6G h' kk f l x y):=by unfold q6G;cases l<;>rfl
theorem qGH (f:Int->Int->Bool)(l:Bool)(x y:Int):kw h' (qEW h f l x y) (qEW h' f l x y):=by unfold qEW;cases l<;>rfl
theorem qjm {v:AV}(H:Agr h h' v):vq h' v=vq h v:=by
 cases v<;>first|rfl|skip
 rename_i b;simp only[vq];rw[H b (by simp[AV.men])]
theorem qyJ (E:Env)(t:TypeId)(p:AV)(H:Agr h h' p):kw h' (qfY E h t p) (qfY E h' t p):=by
 unfold qfY;dsimp only;refine zk trivial ?_;cases p with
 | ptr b off=>
  simp only;rw[H b (by simp[AV.men])];cases hb:h[b]? with
  | none=>trivial
  | some x=>
   cases x with
   | cells cs=>
    simp only;refine zk (zk (zV _) trivial) ?_;cases cs[off]?<;>first|trivial|rfl
   | _=>trivial
 | eptr sh l i off=>
  simp only;refine zk ?_ ?_
  ·cases qal sh l i off (E.ty t).size<;>first|trivial|rfl
  ·cases qgZ sh l i off<;>first|trivial|rfl
 | vptr b i off=>
  simp only;rw[qjm (v:=.vec b) H];cases hb:vq h (.vec b) with
  | none=>trivial
  | some x=>
   obtain⟨sh,l⟩:=x;simp only;refine zk ?_ ?_
   ·cases qal sh l i off (E.ty t).size<;>first|trivial|rfl
   ·cases qgZ sh l i off<;>first|trivial|rfl
 | _=>trivial
theorem qEY (E:Env)(t:TypeId)(p:AV)(H:Agr h h' p):kw h' (qdb E h t p) (qdb E h' t p):=by
 cases p with
 | ptr b off=>
  have hm:=qyJ E t (.ptr b off) H;unfold qdb;simp only;rw[H b (by simp[AV.men])];cases hb:h[b]? with
  | none=>
   have:qfY E h t (.ptr b off)=.fail:=by unfold qfY;simp only[hb];split<;>rfl
   simp only[this];trivial
  | some x=>
   cases x with
   | big cs kk n l=>
    simp only;unfold qH5;refine zk trivial (zk (zk (zV _) trivial) ?_);cases cs[off]? with
    | none=>exact zk (zV _) trivial
    | some v=>exact zV _
   | _=>exact hm
 | aptr b o i=>
  unfold qdb;simp only;rw[H b (by simp[AV.men])];cases hb:h[b]? with
  | none=>trivial
  | some x=>
   cases x with
   | big cs kk n l=>exact zk (jM (zV _) trivial) trivial
   | _=>trivial
 | _=>unfold qdb;exact qyJ _ _ _ H
theorem qEt (E:Env)(t:TypeId)(ps:List (Nat×AV)):kw h' (qif E h t ps) (qif E h' t ps):=by
 unfold qif;refine zk trivial ?_;cases (E.ty t).d with
 | struct fs=>
  simp only;refine zk ?_ trivial;cases qdP (fun i=>(fs[i]?).map fun f=>(f.1,f.2.2)) ((E.ty t).zero.map jg) ps<;>first|trivial|rfl
 | array n e es=>
  simp only;refine zk trivial ?_;cases qdP (fun i=>some (i*es,es)) ((E.ty t).zero.map jg) ps<;>first|trivial|rfl
 | _=>trivial
theorem qC4 (E:Env)(t:TypeId)(ps:List (Nat×AV)):kw h' (qc9 E h t ps) (qc9 E h' t ps):=by
 unfold qc9;cases qEy E t with
 | none=>exact qEt _ _ _
 | some q=>
  obtain⟨o,kk,n⟩:=q;simp only;cases (E.ty t).d with
  | struct fs=>
   simp only;refine zk ?_ trivial;cases qdP (fun i=>(fs[i]?).map fun f=>(f.1,f.2.2)) (((E.ty t).zero.take o).map jg) ps<;>first|trivial|rfl
  | _=>trivial
theorem qvt (E:Env)(s:TypeId)(x:AV)(f:Nat):kw h' (q2a E h s x f) (q2a E h' s x f):=by
 unfold q2a;cases (E.ty s).d with
 | struct fs=>
  simp only;cases fs[f]? with
  | none=>trivial
  | some o=>
   obtain⟨o,tt,sz⟩:=o;simp only;refine zk trivial ?_;cases x<;>first|rfl|trivial
 | _=>trivial
theorem qso (E:Env)(t:TypeId)(cs:List AV)(o:Nat):kw h' (qhs E h t cs o) (qhs E h' t cs o):=by unfold qhs;cases qgV E t cs o<;>first|rfl|trivial
theorem qEX (E:Env)(s:TypeId)(x:AV)(f:Nat):kw h' (qiE E h s x f) (qiE E h' s x f):=by
 unfold qiE;cases (E.ty s).d with
 | struct fs=>
  cases x with
  | agg cs=>
   simp only;cases fs[f]? with
   | none=>trivial
   | some o=>exact qso _ _ _ _
  | _=>trivial
 | _=>trivial
theorem qhu(i:Int)(f:Nat->AV):∀n,kw h' (qhE h i f n) (qhE h' i f n)
 | 0=>trivial
 | n+1=>⟨rfl,rfl,qhu i f n⟩
theorem qu2 (E:Env)(t:TypeId)(x i:AV)(H:Agr h h' x):kw h' (yL E h t x i) (yL E h' t x i):=by
 unfold yL;cases (E.ty t).d with
 | slice e es=>
  cases x with
  | imm sh l=>
   cases asI i with
   | none=>trivial
   | some y=>exact zk (jM (zV _) trivial) trivial
  | vec b=>
   cases asI i with
   | none=>trivial
   | some y=>
    simp only;rw[qjm (v:=.vec b) H];cases hb:vq h (.vec b) with
    | none=>trivial
    | some z=>exact zk (jM (zV _) trivial) trivial
  | _=>trivial
 | array n e es=>
  cases x with
  | ptr b off=>
   simp only;cases i with
   | ilit kk j=>exact zk (zV _) trivial
   | int kk j=>exact zk (qhu _ _ _) trivial
   | _=>trivial
  | eptr sh l i0 off=>
   simp only;cases i with
   | ilit kk j=>exact zk (zV _) trivial
   | int kk j=>exact zk (qhu _ _ _) trivial
   | _=>trivial
  | _=>trivial
 | _=>trivial
theorem qsy (E:Env)(t:TypeId)(x i:AV)(H:Agr h h' x):kw h' (q0o E h t x i) (q0o E h' t x i):=by
 have hm:=qu2 E t x i H;unfold q0o;split
 ·split
  ·split
   ·split
    ·exact zk (jM (zV _) trivial) trivial
    ·exact hm
   ·exact hm
  ·exact hm
 ·exact hm
theorem qA5(E:Env)(e:TypeId)(cs:List AV)(es:Nat)(i:Int):∀m j,kw h' (qpW E h e cs es i j m) (qpW E h' e cs es i j m)
 | 0,_=>trivial
 | m+1,j=>jM (qso _ _ _ _) (qA5 E e cs es i m (j+1))
theorem qEI (E:Env)(t:TypeId)(x i:AV):kw h' (qiA E h t x i) (qiA E h' t x i):=by
 unfold qiA;cases (E.ty t).d with
 | array n e es=>
  cases x with
  | agg cs=>
   cases hi:asI i with
   | none=>trivial
   | some y=>
    cases i with
    | ilit kk j=>exact zk (qso _ _ _ _) trivial
    | int kk j=>
     simp only;cases (E.ty e).d with
     | int k2=>
      simp only;refine zk ?_ trivial;cases qnT k2 cs with
      | none=>trivial
      | some l=>exact jM (zV _) trivial
     | slice e2 es2=>
      simp only;refine zk ?_ trivial;split
      ·exact qA5 _ _ _ _ _ _ _
      ·trivial
     | _=>trivial
    | _=>cases hi
  | _=>trivial
 | str=>
  cases x with
  | str s=>
   cases asI i with
   | none=>trivial
   | some y=>exact jM (zV _) trivial
  | _=>trivial
 | _=>trivial
theorem qDl (d:TD)(op:BinOp)(x y:AV)(H:Agr h h' x):kw h' (qzO d h op x y) (qzO d h' op x y):=by
 unfold qzO;cases hx:asI x with
 | some p=>
  obtain⟨kk,a⟩:=p;cases hy:asI y with
  | some q=>
   obtain⟨kk',b⟩:=q;simp only;refine zk ?_ trivial;cases op<;>simp only<;>first
    | exact qaw _ _ _ _ _
    | exact qGH _ _ _ _
    | trivial
    | skip
   ·cases y<;>simp only<;>first|exact zk trivial (qaw _ _ _ _ _)|exact jM (qaw _ _ _ _ _) trivial
   ·cases y<;>simp only<;>first|exact zk trivial (qaw _ _ _ _ _)|exact jM (qaw _ _ _ _ _) trivial
  | none=>cases x<;>first|cases hx;done|(cases y<;>first|(cases hy;done)|trivial)
 | none=>
  simp only;cases hbx:asB x with
  | some a=>
   cases hby:asB y with
   | some b=>simp only;cases d<;>simp only<;>first|trivial|(cases op<;>first|rfl|trivial)
   | none=>cases x<;>first|(cases hbx;done)|(cases y<;>first|(cases hby;done)|trivial)
  | none=>
   simp only;cases x with
   | str a=>
    cases y with
    | str b=>cases op<;>first|rfl|trivial|exact jM (zV _) trivial
    | _=>trivial
   | nilp=>
    cases y with
    | nilp=>cases d<;>first|trivial|(cases op<;>first|rfl|trivial)
    | _=>trivial
   | ptr b off=>
    cases y with
    | nilp=>
     cases d<;>first|trivial|skip
     simp only;rw[H b (by simp[AV.men])];cases hb:h[b]? with
     | none=>trivial
     | some z=>cases z<;>first|trivial|(cases op<;>first|rfl|trivial)
    | _=>trivial
   | eptr sh l i o=>
    cases y with
    | nilp=>cases d<;>first|trivial|(cases op<;>first|rfl|trivial)
    | _=>trivial
   | imm sh l=>
    cases y with
    | nils=>cases d<;>first|trivial|(cases op<;>first|trivial|exact jM (zV _) trivial)
    | _=>trivial
   | mptr c sh l i o=>
    cases y with
    | nilp=>cases d<;>first|trivial|(cases op<;>first|rfl|trivial)
    | _=>trivial
   | _=>trivial
theorem qDW (E:Env)(op:BinOp)(t:TypeId)(x y:AV)(H:Agr h h' x):kw h' (qm0 E h op t x y) (qm0 E h' op t x y):=by
 unfold qm0;cases x with
 | agg xs=>
  cases y with
  | agg ys=>
   simp only;unfold qtd;cases eqT E 32 t (.agg xs) (.agg ys) with
   | none=>trivial
   | some r=>cases op<;>first|rfl|trivial
  | _=>exact qDl _ _ _ _ H
 | _=>exact qDl _ _ _ _ H
theorem qKQ (op:UnOp)(x:AV):kw h' (qLl h op x) (qLl h' op x):=by cases op<;>cases x<;>first|rfl|trivial
theorem qFc (E:Env)(s d:TypeId)(x:AV):kw h' (qpz E h s d x) (qpz E h' s d x):=by unfold qpz;cases (E.ty s).d<;>cases (E.ty d).d<;>cases x<;>first|rfl|trivial
theorem qEs (E:Env)(s d:TypeId)(x:AV)(H:Agr h h' x):kw h' (qiF E h s d x) (qiF E h' s d x):=by
 unfold qiF;cases (E.ty s).d with
 | slice e es=>
  simp only;cases (E.ty d).d with
  | str=>
   simp only;unfold qsB;cases (E.ty e).d with
   | int kk=>
    cases kk<;>first|trivial|skip
    simp only;rw[qjm H];cases hr:vq h x with
    | none=>trivial
    | some q=>
     obtain⟨sh,l⟩:=q;simp only;split
     ·rfl
     ·trivial
   | _=>trivial
  | _=>trivial
 | _=>exact qFc _ _ _ _
theorem qIW (E:Env)(ts:List TypeId)(azz:List AV)(H:∀x,x∈azz->Agr h h' x):kw h' (qrB E h ts azz) (qrB E h' ts azz):=by
 unfold qrB;cases ts with
 | nil=>trivial
 | cons t ts=>
  cases azz with
  | nil=>trivial
  | cons x azz=>
   cases azz with
   | cons _ _=>trivial
   | nil=>
    simp only;unfold qHM;cases (E.ty t).d with
    | str=>cases x<;>first|rfl|trivial
    | array n e es=>rfl
    | slice e es=>
     cases x with
     | nils=>rfl
     | vec b=>
      simp only;rw[qjm (v:=.vec b) (H _ qOm)];cases hb:vq h (.vec b) with
      | none=>trivial
      | some z=>rfl
     | imm sh l=>rfl
     | _=>trivial
    | _=>cases x<;>trivial
theorem qKt (f:Int->Int->Int)(azz:List AV):kw h' (qxe f h azz) (qxe f h' azz):=by
 unfold qxe;cases azz with
 | nil=>trivial
 | cons x l=>
  simp only;cases asI x with
  | none=>trivial
  | some p=>
   obtain⟨kk,n⟩:=p;simp only;cases qBf f kk n l with
   | none=>trivial
   | some m=>exact zk (zV _) (zV _)
theorem qDQ (ht:(E.ty t).d=.str)(x:AV)(lo hi mx:Option AV):kw h' (qcE E h t x lo hi mx) (qcE E h' t x lo hi mx):=by
 unfold qcE;rw[ht];cases mx with
 | some _=>trivial
 | none=>
  cases x<;>first|trivial|skip
  rename_i s;simp only;cases qeI lo 0 with
  | none=>trivial
  | some l=>
   cases qeI hi (qu s) with
   | none=>trivial
   | some r=>exact jM (jM (zV _) trivial) trivial
theorem qBr (ht:(E.ty t).d=.str)(x:AV)(lo hi mx:Option AV):kw h' (yT E h t x lo hi mx) (yT E h' t x lo hi mx):=by unfold yT;rw[ht];exact qDQ ht _ _ _ _
theorem qBh {n:Nat}{e:TypeId}{es:Nat}(ht:(E.ty t).d=.array n e es)(x:AV)(lo hi mx:Option AV):kw h' (yT E h t x lo hi mx) (yT E h' t x lo hi mx):=by
 unfold yT;rw[ht];simp only;cases x<;>first|trivial|skip
 ·cases mx with
  | some _=>trivial
  | none=>
   simp only;refine zk ?_ trivial;unfold qJa;split
   ·exact jM (jM (zV _) trivial) trivial
   ·trivial
 ·refine zk ?_ trivial;split
  ·unfold qyY;split
   ·split
    ·exact jM (jM (zV _) trivial) trivial
    ·trivial
   ·split
    ·exact jM (jM (jM (zV _) trivial) trivial) trivial
    ·trivial
  ·trivial
theorem qBi {e:TypeId}{es:Nat}(ht:(E.ty t).d=.slice e es)(x:AV)(lo hi:Option AV){mx:Option AV}(hm:mx.isSome=true):kw h' (yT E h t x lo hi mx) (yT E h' t x lo hi mx):=by
 unfold yT;rw[ht];simp only;unfold qcE;cases mx with
 | none=>cases hm
 | some m=>
  simp only;rw[ht];split
  ·split
   ·exact zk (jM (jM (jM (zV _) trivial) trivial) trivial) trivial
   ·trivial
  ·trivial
theorem qGz {ev:Operand->AV}(hs:qdC E op=true)(H:qFe op=true->∀x,x∈op.operands.toList->Agr h h' (ev x)):kw h' (qr9 E h ev op) (qr9 E h' ev op):=by
 unfold qr9;cases op<;>simp only[qdC] at hs<;>try (cases hs)
 case move=>exact zV _
 case assign=>exact zV _
 case pick c a b=>simp only;cases ev c<;>first|exact zV _|exact jM (zV _) (zV _)|trivial
 case build=>exact qC4 _ _ _
 case load x=>exact qEY _ _ _ (H rfl x (by simp[Op.operands]))
 case nilCheck x=>
  have H:=H rfl x (by simp[Op.operands]);simp only;cases hx:ev x with
  | ptr b o=>
   rw[hx] at H;simp only;rw[H b (by simp[AV.men])];cases hb:h[b]? with
   | none=>trivial
   | some z=>cases z<;>first|rfl|trivial
  | eptr sh l i o=>rfl
  | mptr c sh l i o=>exact jM (zV _) trivial
  | _=>trivial
 case binOp op t x y r=>exact qDW _ _ _ _ _ (H rfl x (by simp[Op.operands]))
 case unOp=>exact qKQ _ _
 case convert s d x=>exact qEs _ _ _ _ (H rfl x (by simp[Op.operands]))
 case makeFunc fn _ _=>cases fn<;>first|rfl|trivial
 case slice t x lo hi mx=>
  split at hs
  ·rename_i ht;exact qBr ht _ _ _ _
  ·rename_i ht;exact qBh ht _ _ _ _
  ·rename_i ht;exact qBi ht _ _ _ (by simpa using hs)
  ·cases hs
 case fieldAddr=>exact qvt _ _ _ _
 case field=>exact qEX _ _ _ _
 case indexAddr t x i=>exact qsy _ _ _ _ (H rfl x (by simp[Op.operands]))
 case index=>exact qEI _ _ _ _
 case extract x i=>
  simp only;cases ev x with
  | tuple vs=>simp only;cases vs[i]?<;>first|rfl|trivial
  | _=>trivial
 case call c=>
  obtain⟨callee,args,tys⟩:=c;cases callee with
  | builtin b=>
   cases b<;>first|exact qIW _ _ _ (fun x hx=>by obtain⟨y,hy,rfl⟩:=qOP.1 hx;exact H rfl y (by simpa[Op.operands,Call.operands] using hy))|exact qKt _ _|(cases hs;done)
  | value x=>simp only at hs;cases hs
  | invoke x n=>simp only at hs;cases hs
end
mutual
theorem qHm{h h':List Blk}:∀(a:AV),Agr h h' a->a.lend h'=a.lend h
 | .vec b,H=>by simp only[AV.lend];rw[H b (by simp[AV.men])]
 | .agg cs,H=>by simp only[AV.lend];rw[q1A cs H]
 | .tuple cs,H=>by simp only[AV.lend];rw[q1A cs H]
 | .undef,_|.yld,_|.skip,_|.blit _,_|.bool _,_|.ilit _ _,_|.int _ _,_|.str _,_|.nilp,_|.ptr _ _,_|.eptr _ _ _ _,_|.mptr _ _ _ _ _,_|.vptr _ _ _,_|.vsub _ _,_|.aptr _ _ _,_|.asub _ _ _ _ _,_|.bagg _ _ _ _,_|.nils,_|.imm _ _,_|.full _ _,_|.nilf,_|.fn _ _ _,_=>rfl
theorem q1A{h h':List Blk}:∀(l:List AV),(∀b,b∈AV.menL l->h'[b]?=h[b]?)->AV.lendL h' l=AV.lendL h l
 | [],_=>rfl
 | a::l,H=>by
  simp only[AV.lendL];rw[qHm a fun b hb=>H b (by simp only[AV.menL];exact qOT _ hb),q1A l fun b hb=>H b (by simp only[AV.menL];exact qOH _ hb)]
end
theorem qwq:∀(a:AV) (b:Nat),b∈zP a->b∈a.men:=by
 intro a b hb;cases a<;>simp only[zP] at hb<;>first|(cases hb;done)|skip
 case vec c=>simpa[AV.men] using hb
 case agg cs=>
  simp only[AV.men];induction cs with
  | nil=>cases hb
  | cons c cs ih=>
   simp only[AV.menL];simp only[List.filterMap_cons] at hb;cases c<;>simp only at hb<;>first|exact qOH _ (ih hb)|skip
   rcases qOj.1 hb with rfl|hb
   ·exact qOT _ (by simp[AV.men])
   ·exact qOH _ (ih hb)
theorem qqZ {l:List AV}{a:AV}{b:Nat}(ha:a∈l)(hb:b∈a.men):b∈AV.menL l:=by
 induction l with
 | nil=>cases ha
 | cons c l ih=>
  simp only[AV.menL];rcases qOj.1 ha with rfl|ha
  ·exact qOT _ hb
  ·exact qOH _ (ih ha)
theorem qrr {h h':List Blk}{f:FuncId}{args:List AV}(H:∀b,b∈AV.menL args->h'[b]?=h[b]?):qaf E h' f args=qaf E h f args:=by
 unfold qaf;cases hf:E.spec.find? fun x=>x.1==f with
 | none=>rfl
 | some G=>
  simp only;have e1:(args.flatMap zP).all (qlq h')=(args.flatMap zP).all (qlq h):=by
   have:∀b,b∈args.flatMap zP->qlq h' b=qlq h b:=by intro b hb;obtain⟨a,ha,hb⟩:=qPW.1 hb;unfold qlq;rw[H b (qqZ ha (qwq a b hb))]
   generalize args.flatMap zP=l at this;induction l with
   | nil=>rfl
   | cons b l ih=>simp only[qPY];rw[this b qOm,ih fun b hb=>this b (qOo _ hb)]
  rw[e1,q1A args H]
theorem q7L (E:Env):q5o E (q8m E):=by
 intro h h' f args hs H;unfold q8m;unfold qhQ at hs;cases hf:E.spec.find? fun x=>x.1==f with
 | none=>rw[hf] at hs;cases hs
 | some G=>simp only;exact qrr H
theorem qzg (E:Env):q5o E qwV:=fun _ _ _ _ _ _=>rfl
theorem qza {callS:List Blk->q7b}(hm:q5o E callS){h h':List Blk}{ev:Operand->AV}{v:AV}{R:List Nat}(hR:qLB E ev op=some R)(H:∀b,b∈R->h'[b]?=h[b]?)(hr:(qcS E (callS h) h ev op).run=some v):(qcS E (callS h') h' ev op).run=some v:=by
 unfold qcS at hr ⊢;split at hr
 ·rename_i x args tys;cases hx:ev x with
  | fn f first caps=>
   rw[hx] at hr;unfold qLB at hR;simp only[qhq,jr,hx] at hR;cases hf:qhQ E f with
   | none=>rw[hf] at hR;cases hR
   | some G=>
    rw[hf] at hR;simp only[qNY] at hR;subst hR;simp only;rw[hm h h' f _ (by rw[hf];rfl) H];exact hr
  | _=>rw[hx] at hr;cases hr
 ·rename_i hno;split at hr
  ·rename_i hst;rw[if_pos hst];obtain⟨r,h1,h2⟩:=bind_some hr;cases h2;have hR':qFe op=true->R=AV.menL (op.operands.toList.map ev):=by
    intro hlk;unfold qLB at hR;have:qhq op=false:=by
     unfold qhq;split
     ·rename_i x args tys;exact absurd rfl (hno x args tys)
     ·rfl
    rw[this,hlk] at hR;simpa using hR.symm
   rw[Tree.run_bind,kw.run (qGz (h':=h') hst fun hlk x hx b hb=>H b (by rw[hR' hlk];exact qqZ (List.mem_map_of_mem hx) hb)) h1];rfl
  ·cases hr
section
variable {h:List Blk}
theorem qi5:∀(cs:List AV),cs.all qGp=true->qb5 h cs=h
 | [],_=>rfl
 | c::cs,hc=>by
  simp only[qPY,qOd] at hc;cases c<;>first|(simp only[qb5];exact qi5 cs hc.2)|(cases hc.1)
theorem qH2 {ev:Operand->AV}{v:AV}{z:Blk}(hr:(qk9 E h ev op).run=some (v,z)):(qr9 E h ev op).run=some (v,h++[z],none):=by
 unfold qk9 at hr;cases op<;>simp only at hr<;>first|(cases hr;done)|skip
 case buildSlice t len parts=>
  unfold qr9;simp only;unfold q7Z;cases hd:(E.ty t).d<;>rw[hd] at hr<;>simp only at hr ⊢<;>first|(cases hr;done)|skip
  rename_i e es;split at hr
  ·rename_i hc;rw[if_pos hc];cases hf:qdP (fun i=>some (i*es,es)) ((List.replicate len ((E.ty e).zero.map jg)).flatten) (parts.toList.map fun p=>(p.1,ev p.2)) with
   | none=>rw[hf] at hr;cases hr
   | some cs=>
    cases hs:E.shape 16 e with
    | none=>rw[hf,hs] at hr;cases hr
    | some sh=>
     rw[hf,hs] at hr;simp only at hr ⊢;split at hr
     ·rename_i hl;rw[if_pos hl.1];cases hch:qjT h sh len cs with
      | none=>rw[hch] at hr;cases hr
      | some l=>
       rw[hch] at hr;cases hr;simp only[qi5 cs hl.2];rfl
     ·cases hr
  ·cases hr
theorem qz6 {f g:Operand->AV}(hfg:∀x∈op.operands.toList,f x=g x):qk9 E h f op=qk9 E h g op:=by
 unfold qk9;cases op<;>simp only
 case buildSlice t len ps=>
  have:(ps.toList.map fun p=>(p.1,f p.2))=ps.toList.map fun p=>(p.1,g p.2):=qPa fun p hp=>by rw[hfg p.2 (by simp only[Op.operands];exact List.mem_map_of_mem hp)]
  rw[this]
end
end Go.Eng

namespace Go.Eng
variable {B:Base}{E:Env}{X:Ctx}{s:Nat}
mutual
theorem AV.ren_void{s:Nat}:∀av:AV,s∉av.men->av.ren (qcA s)=av
 | .undef,_|.skip,_|.yld,_|.blit _,_|.bool _,_|.ilit _ _,_|.int _ _,_|.str _,_|.nilp,_|.eptr _ _ _ _,_|.mptr _ _ _ _ _,_|.nils,_|.imm _ _,_|.full _ _,_|.nilf,_=>rfl
 | .ptr b _,h=>by simp only[AV.men,qOs] at h;simp[AV.ren,qcA,qOr h]
 | .vptr b _ _,h=>by simp only[AV.men,qOs] at h;simp[AV.ren,qcA,qOr h]
 | .vsub b _,h=>by simp only[AV.men,qOs] at h;simp[AV.ren,qcA,qOr h]
 | .aptr b _ _,h=>by simp only[AV.men,qOs] at h;simp[AV.ren,qcA,qOr h]
 | .asub b _ _ _ _,h=>by simp only[AV.men,qOs] at h;simp[AV.ren,qcA,qOr h]
 | .vec b,h=>by simp only[AV.men,qOs] at h;simp[AV.ren,qcA,qOr h]
 | .fn g first caps,h=>by
  simp only[AV.men,qOn,not_or] at h;simp[AV.ren,AV.renL_void first h.1,AV.renL_void caps h.2]
 | .agg cs,h=>by simp only[AV.men] at h;simp[AV.ren,AV.renL_void cs h]
 | .tuple cs,h=>by simp only[AV.men] at h;simp[AV.ren,AV.renL_void cs h]
 | .bagg cs k n l,h=>by simp only[AV.men] at h;simp[AV.ren,AV.renL_void cs h]
theorem AV.renL_void{s:Nat}:∀l:List AV,s∉AV.menL l->AV.renL (qcA s) l=l
 | [],_=>rfl
 | a::l,h=>by
  simp only[AV.menL,qOn,not_or] at h;simp[AV.renL,AV.ren_void a h.1,AV.renL_void l h.2]
end
theorem Blk.ren_void (k:Blk)(h:s∉k.menB):k.ren (qcA s)=k:=by cases k<;>simp only[Blk.menB,Blk.ren] at h ⊢<;>rw[AV.renL_void _ h]
theorem qon{s:Nat}:∀l:List (List AV),s∉qnV l->l.map (AV.renL (qcA s))=l
 | [],_=>rfl
 | a::l,h=>by
  simp only[qnV,qOn,not_or] at h;simp only[qP5,AV.renL_void a h.1,qon l h.2]
theorem qr8 {s b:Nat}{k:Blk}:∀{h:List Blk},s∉qd5 h->h[b]?=some k->s∉k.menB:=by
 intro h;induction h generalizing b with
 | nil=>intro _ hb;simp at hb
 | cons a h ih=>
  intro hs hb;simp only[qd5,qOn,not_or] at hs;cases b with
  | zero=>simp only[qPf,qNY] at hb;subst hb;exact hs.1
  | succ b=>exact ih hs.2 (by simpa using hb)
def Ctx.slot(X:Ctx)(s:Nat)(z:Blk)(o:Obj):Ctx:={ σ:=fun b=>if b=s then some X.w.heap.size else X.σ b,h:=X.h.set s z,w:=X.w.alloc o,M:=X.M,kept:=X.kept,y:=X.y }
theorem qsx (hs:HSim B X){z:Blk}{o:Obj}:Move X (X.slot s z o) (qcA s):=by
 refine Move.of (fun _ h=>h) (fun a ha=>qP2 (zW _ _ (hs.ltM _ ha))) (fun b b' hb h=>?_);unfold qcA at h;split at h
 ·cases h
 ·rename_i hne;cases h;refine⟨by simpa[Ctx.slot] using hb,by simp[Ctx.slot,hne],fun sh m ⟨e,l,h1,h2⟩=>⟨e,l,?_,h2⟩,fun _ _ _ n hn c T fr hc=>⟨c,T,fr,?_,rfl⟩⟩
  ·have e1:(X.slot s z o).h[b]?=X.h[b]?:=qO1 (fun e=>hne e.symm);rw[e1] at h1;exact h1
  ·exact(zW _ _ (qO4.1 hc).1).trans hc
theorem qzC (hs:HSim B X){z:Blk}{o:Obj}(hd:X.h[s]?=some .dead)(hmen:s∉qd5 X.h)(hz:jf (X.slot s z o) s z):HSim B (X.slot s z o):=by
 have hm:=qsx hs (s:=s) (z:=z) (o:=o);have hsl:=qo hd;have himp:B.imps.length<=s:=by
  rcases qO6 s B.imps.length with h|h
  ·obtain⟨k,h1,h2⟩:=hs.impc s h;rw[hd] at h1;cases h1;cases h2
  ·exact h
 have hget:∀b k',(X.slot s z o).h[b]?=some k'->b≠s/\X.h[b]?=some k'\/b=s/\k'=z:=by
  intro b k' h;by_cases hb:b=s
  ·subst hb;have:(X.h.set b z)[b]?=some k':=h;rw[qOc hsl] at this;exact .inr ⟨rfl,(qOE this).symm⟩
  ·have:(X.h.set s z)[b]?=some k':=h;rw[qO1 (fun e=>hb e.symm)] at this;exact .inl ⟨hb,this⟩
 have hσ:∀b,b≠s->(X.slot s z o).σ b=X.σ b:=fun b hb=>by simp[Ctx.slot,hb]
 have hσn:(X.slot s z o).σ s=some X.w.heap.size:=by simp[Ctx.slot]
 have hold:∀n,n<X.w.heap.size->(X.slot s z o).w.heap[n]?=X.w.heap[n]?:=fun n hn=>zW _ _ hn;have hsize:X.w.heap.size<=(X.slot s z o).w.heap.size:=by show _<=(X.w.alloc o).heap.size;simp
 have hown:∀b n,(X.slot s z o).own b n->X.own b n\/b=s/\n=X.w.heap.size:=by
  intro b n ⟨h1,k',h2,h3⟩;rcases hget b k' h2 with⟨hb,h4⟩|⟨rfl,rfl⟩
  ·exact .inl ⟨by rw[<-hσ b hb];exact h1,k',h4,h3⟩
  ·rw[hσn] at h1;exact .inr ⟨rfl,(qOE h1).symm⟩
 constructor
 ·intro b k' h;rcases hget b k' h with⟨hb,h4⟩|⟨rfl,rfl⟩
  ·by_cases hdd:k'=.dead
   ·subst hdd;trivial
   ·have:=jf.move hm.toMove0 (b':=b) (hσ b hb) (fun n hn=>hold n (hs.lt h4 hdd hn)) (hs.blk b k' h4)
    rwa [Blk.ren_void k' (qr8 hmen h4)] at this
  ·exact hz
 ·intro b b' n h h';rcases hown b n h with h1|⟨g1,g2⟩
  ·rcases hown b' n h' with h2|⟨g3,g4⟩
   ·exact hs.inj b b' n h1 h2
   ·exact absurd (Ctx.own.lt hs h1) (by omega)
  ·rcases hown b' _ h' with h2|⟨g3,_⟩
   ·exact absurd (Ctx.own.lt hs h2) (by omega)
   ·rw[g1,g3]
 ·intro b n h hM;rcases hown b n h with h1|⟨g1,g2⟩
  ·exact hs.notM b n h1 hM
  ·exact absurd (hs.ltM _ hM) (by omega)
 ·intro n h;have:=hs.ltM n h;omega
 ·exact hs.M0
 ·exact hs.newM
 ·exact hs.os
 ·exact hs.tape
 ·exact hs.output
 ·have:=hs.size;omega
 ·intro n hn hni;have:=hs.size;rw[hold _ (by omega)];exact hs.frame n hn hni
 ·intro b hb;rw[hσ b (by omega)];exact hs.imps b hb
 ·intro b hb;obtain⟨cs,h,hc⟩:=hs.impc b hb;exact⟨cs,by show (X.h.set s z)[b]?=_;rw[qO1 (by omega)];exact h,hc⟩
 ·intro b n h hb;rcases hown b n h with h1|⟨g1,g2⟩
  ·exact hs.fresh b n h1 hb
  ·have:=hs.size;omega
 ·intro p hp;obtain⟨q1,q2,q3⟩:=hs.kept p hp;exact⟨(hold _ (qO4.1 q1).1).trans q1,q2,q3⟩
theorem qE6 {P:Program}(hE:E.tok P)(hs:HSim B X){t:TypeId}{z:Blk}(hz:qfL E t=some z)(hd:X.h[s]?=some .dead)(hmen:s∉qd5 X.h) :∃o:Obj,((do pure (.value (<-Instr.alloc t true (.tuple #[]))):Sem Next)).run P X.w=.ok (.value (.pointer (some ⟨X.w.heap.size,0,none⟩))) (X.w.alloc o)/\HSim B (X.slot s z o)/\Move X (X.slot s z o) (qcA s) /\Rep (X.slot s z o) (.ptr s 0) (.pointer (some ⟨X.w.heap.size,0,none⟩)):=by
 have hsl:=qo hd;have hptr:∀o,Rep (X.slot s z o) (.ptr s 0) (.pointer (some ⟨X.w.heap.size,0,none⟩)):=fun o=>.ptr _ _ _ (by simpa[Ctx.slot] using hsl) (by simp[Ctx.slot]);unfold qfL at hz;split at hz
 ·rename_i o k n hb;split at hz
  ·cases hz;obtain⟨b1,b2,b3,b4,_⟩:=qjs hb;obtain⟨v,h1,h2,_⟩:=qfq hE (t:=t) (by omega) X.w;refine⟨.cells v.cells t,by simp[Instr.alloc,h1,qa9],qzC hs hd hmen ?_,qsx hs,hptr _⟩;exact⟨X.w.heap.size,v.cells,t,(E.ty t).zero.take o,by simp[Ctx.slot],zS _ _,jw _ _,by rw[h2];exact qov hb,qrR _ _⟩
  ·cases hz
 ·split at hz
  ·rename_i hc;cases hz;obtain⟨v,h1,h2,_⟩:=qfq hE (t:=t) (by simpa using hc.2) X.w;refine⟨.cells v.cells t,by simp[Instr.alloc,h1,qa9],qzC hs hd hmen ?_,qsx hs,hptr _⟩;exact⟨X.w.heap.size,v.cells,t,by simp[Ctx.slot],zS _ _,by rw[h2];exact jw _ _⟩
  ·cases hz
theorem qwQ {P:Program}(hE:E.tok P){st:St}{a:Act}(hs:Sim E B X st a){o:Oper}{t:TypeId}(hop:o.op=.alloc t){z:Blk}(hz:qfL E t=some z)(hd:st.h[s]?=some .dead)(hmen:s∉qd5 st.h) (ht:s∉AV.menL st.t) (hf:s∉qnV st.fs) {next:Act->World->Prop} {Q:Exit->Act->World->Prop}(hq:∀X' v,Sim E B X' { st with h:=st.h.set s z } a->Rep X' (.ptr s 0) v->next (a.put o.dst v) X'.w):o.wp P a X.w next Q:=by
 rw[<-hs.h] at hd hmen;obtain⟨ob,h1,h2,h3,h4⟩:=qE6 hE hs.hs hz hd hmen;unfold Oper.wp;have hrun:(execOp a.eval o).run P X.w=.ok (.value (.pointer (some ⟨X.w.heap.size,0,none⟩))) (X.w.alloc ob):=by rw[<-h1];simp only[execOp,hop]
 rw[hrun];refine hq (X.slot s z ob) _ ⟨h2,?_,?_,?_,fun x hx=>?_,h3.kept▸hs.df,hs.ni,h3.y.trans hs.y,fun p hp=>h3.kept▸hs.pin p hp⟩ h4
 ·show X.h.set s z=st.h.set s z;rw[hs.h]
 ·have:=hs.t.ren h3.toMove0
  rwa [AV.renL_void _ ht] at this
 ·have:=hs.fs.ren h3.toMove0
  rwa [qon _ hf] at this
 ·obtain⟨⟨sh,l,i,off,he⟩,hr⟩:=hs.glob x hx;refine⟨⟨sh,l,i,off,he⟩,hr.move h3.M h3.w ?_⟩;have:=hr.1.ren h3.toMove0;rw[he] at this ⊢;exact this
theorem Sim.pad {st:St}{a:Act}(hs:Sim E B X st a):∃X',X'.w=X.w/\Sim E B X' { st with h:=st.h++[.dead] } a:=by
 have hw:=PushW.same X;have hs1:=HSim.push hs.hs (k:=.dead) hw trivial;have:=hs.ext (Ctx.push_ext hs.hs .dead hw) hs1;refine⟨X.pushW .dead none X.w,rfl,?_⟩;have e:(X.pushW .dead none X.w).h=st.h++[.dead]:=by rw[<-hs.h];rfl
 rw[e] at this;exact this
theorem Sim.padN{E:Env}{B:Base}{a:Act}:∀(n:Nat) {X:Ctx} {st:St},Sim E B X st a->∃X',X'.w=X.w/\Sim E B X' { st with h:=st.h++List.replicate n .dead } a
 | 0,X,st,hs=>⟨X,rfl,by simpa using hs⟩
 | n+1,X,st,hs=>by
  obtain⟨X1,h1,h2⟩:=hs.pad;obtain⟨X2,h3,h4⟩:=Sim.padN n h2;refine⟨X2,h3.trans h1,?_⟩;have e:st.h++[.dead]++List.replicate n .dead=st.h++List.replicate (n+1) .dead:=by simp[qPn]
  simp only at h4;rw[e] at h4;exact h4
end Go.Eng

namespace Go.Eng
variable {E:Env}{args:List AV}{b:Nat}{h:List Blk}{op:Op}
theorem stL{all:Array Oper}{V:Nat->AV}{T0:List AV}{L L':Nat->Bool}:∀n,(∀j,j<n->L j=L' j)->TLp (yC all) V T0 L n=TLp (yC all) V T0 L' n
 | 0,_=>rfl
 | n+1,h=>by
  simp only[TLp];rw[h n (qPM n),stL n fun j hj=>h j (by omega)]
theorem qzE {all:Array Oper}(hd:DrawOk all){listed:Array Bool}(hsz:listed.size=all.size)(h:Region.ready .any all listed=[]):∀i,i<all.size->listed.getD i false=true:=by
 intro i;induction i using Nat.strongRecOn with
 | _ i ih=>
  intro hi;cases hl:listed.getD i false with
  | true=>rfl
  | false=>
   have ho:all[i]?=some all[i]:=qPE hi;have:i∈Region.ready .any all listed:=by
    rw[mem_ready];refine⟨?_,all[i],ho,fun e he hb=>?_⟩
    ·have hi':i<listed.size:=by omega
     simpa[qPh,hi'] using hl
    ·have hlt:=hd.edge i _ ho e (by simpa using he) hb;exact ih e.on hlt (by omega)
   rw[h] at this;cases this
theorem qoH {all:Array Oper}{listed:Array Bool}{i:Nat}{o:Oper}(hsz:listed.size=all.size)(ho:all[i]?=some o)(hc:qqd all fun j=>listed.getD j false)(hedge:∀e,e∈o.after.toList->Region.binds .any e=true->listed.getD e.on false=true):qqd all fun j=>(listed.setIfInBounds i true).getD j false:=by
 have hi:i<listed.size:=by rw[hsz];exact(qO4.1 ho).1
 intro j oj hj hL e he hb;show (listed.setIfInBounds i true).getD e.on false=true;rw[q0w hi];split
 ·rfl
 ·by_cases hji:j=i
  ·subst hji;rw[ho] at hj;cases hj;exact hedge e he hb
  ·have hL':(listed.setIfInBounds i true).getD j false=true:=hL;rw[q0w hi,if_neg hji] at hL';exact hc j oj hj hL' e he hb
theorem qae {b c:Nat}(hb:b≠c):(zE h c)[b]?=h[b]?:=by
 unfold zE;split
 ·rw[qO1 (fun e=>hb e.symm)]
 ·rfl
theorem qfs{b:Nat}:∀(l:List Nat) (h:List Blk),b∉l->(qF h l)[b]?=h[b]?
 | [],_,_=>rfl
 | c::l,h,hb=>by
  simp only[qOj,not_or] at hb;simp only[qF];rw[qfs l _ hb.2,qae hb.1]
theorem qpc{b:Nat}:∀(l:List Nat) (h:List Blk),b∉l->(qbM h l)[b]?=h[b]?
 | [],_,_=>rfl
 | c::l,h,hb=>by
  simp only[qOj,not_or] at hb;simp only[qbM];split
  ·rw[qpc l _ hb.2,qO1 (fun e=>hb.1 e.symm)]
  ·exact qpc l _ hb.2
theorem qsE{b:Nat}:∀(l:List Nat) (h:List Blk) (ks:List Blk) (h':List Blk),q0M h l ks=some h'->b∉l->h'[b]?=h[b]?
 | [],h,ks,h',hp,_=>by cases ks<;>(simp only[q0M,qNY] at hp;rw[hp])
 | c::l,h,[],h',hp,_=>by simp[q0M] at hp
 | c::l,h,k::ks,h',hp,hb=>by
  simp only[qOj,not_or] at hb;simp only[q0M] at hp;split at hp
  ·cases hq:q0M h l ks with
   | none=>rw[hq] at hp;cases hp
   | some h2=>
    rw[hq] at hp;simp only[qOz,qNY] at hp;rw[<-hp,qO1 (fun e=>hb.1 e.symm)];exact qsE l h ks h2 hq hb.2
  ·cases hp
theorem qjp{b:Nat}:∀(l:List Nat),b∈qm2 l->b∈l
 | [],h=>h
 | a::l,h=>by
  simp only[qm2] at h;split at h
  ·exact qOo _ (qjp l h)
  ·rcases qOj.1 h with rfl|h
   ·exact qOm
   ·exact qOo _ (qjp l h)
mutual
theorem qJr:∀(a:AV) (h h':List Blk),(a.lend h).men=(a.lend h').men
 | .vec b,h,h'=>by
  have:∀h,((AV.vec b).lend h).men=[]:=fun h=>by simp only[AV.lend];split<;>rfl
  rw[this,this]
 | .agg cs,h,h'=>by simp only[AV.lend,AV.men];exact qmS cs h h'
 | .tuple cs,h,h'=>by simp only[AV.lend,AV.men];exact qmS cs h h'
 | .undef,_,_|.yld,_,_|.skip,_,_|.blit _,_,_|.bool _,_,_|.ilit _ _,_,_|.int _ _,_,_|.str _,_,_|.nilp,_,_|.ptr _ _,_,_|.eptr _ _ _ _,_,_|.mptr _ _ _ _ _,_,_|.vptr _ _ _,_,_|.vsub _ _,_,_|.aptr _ _ _,_,_|.asub _ _ _ _ _,_,_|.bagg _ _ _ _,_,_|.nils,_,_|.imm _ _,_,_|.full _ _,_,_|.nilf,_,_|.fn _ _ _,_,_=>rfl
theorem qmS:∀(l:List AV) (h h':List Blk),AV.menL (AV.lendL h l)=AV.menL (AV.lendL h' l)
 | [],_,_=>rfl
 | a::l,h,h'=>by simp only[AV.lendL,AV.menL];rw[qJr a h h',qmS l h h']
end
theorem qu4 {G:za}{st:St}{r:AV×St}(h:(q0F G args st).run=some r)(hb:b<st.h.length)(hw:b∉qq0 st.h args):r.2.h[b]?=st.h[b]?:=by
 unfold q0F at h;unfold qq0 at hw;simp only[qOn,not_or] at hw;obtain⟨⟨w1,w2⟩,w3⟩:=hw;have hpre:(vg st.h args)[b]?=st.h[b]?:=by unfold vg;simp only;rw[qpc _ _ w3,qfs _ _ w2,qfs _ _ w1]
 simp only at h;split at h
 ·cases h
 ·obtain⟨r0,h1,h2⟩:=bind_some h;split at h2
  ·cases h2
  ·rename_i hput;cases h2;have hfp:b∉qm2 (AV.menL (AV.lendL (vg st.h args) args)):=by intro hm;have hm:=qjp _ hm;rw[qmS args (vg st.h args) (qF st.h (args.flatMap zP))] at hm;exact w3 hm
   have:=qsE _ _ _ _ hput hfp;rw[hpre] at this;have hl:st.h[b]?=some st.h[b]:=qO5 hb;rw[hl] at this;rw[qOb (qo this),this,hl]
theorem qy3 {ev:Operand->AV}{q:FuncId×List AV}(h:jr ev op=some q):qhq op=true/\∃x args tys first caps,op=.call { callee:=.value x,args:=args,argTypes:=tys }/\ev x=.fn q.1 first caps/\q.2=first++args.toList.map ev++caps:=by
 unfold jr at h;split at h
 ·rename_i x args tys;split at h
  ·rename_i f first caps hx
   cases h;exact⟨rfl,x,args,tys,first,caps,rfl,hx,rfl⟩
  ·cases h
 ·cases h
theorem brR {α:Type}{b:Bool}{t:Tree α}{r:α}(h:(Tree.br b t .fail).run=some r):b=true/\t.run=some r:=by
 cases b
 ·cases h
 ·exact⟨rfl,h⟩
theorem jN:∀(l:List Nat) (h:List Blk),(qF h l).length=h.length
 | [],_=>rfl
 | c::l,h=>by
  simp only[qF];rw[jN l];unfold zE;split<;>simp
theorem qxK (hb:b∈args.flatMap zP):b∈AV.menL args:=by obtain⟨a,ha,hb⟩:=qPW.1 hb;exact qqZ ha (qwq a b hb)
theorem qGe {h h':List Blk}{s:Sh}{a:AV}(hv:qGp a=true):toU h s a=toU h' s a:=by cases a<;>first|(cases hv;done)|(cases s<;>rfl)
theorem qoh{h h':List Blk}:∀(sh:List Sh) (azz:List AV),azz.all qGp=true->qrd h sh azz=qrd h' sh azz
 | [],[],_=>rfl
 | [],_::_,_=>rfl
 | _::_,[],_=>rfl
 | s::sh,a::azz,hv=>by
  simp only[qPY,qOd] at hv;simp only[qrd];rw[qGe (h':=h') hv.1,qoh (h':=h') sh azz hv.2]
theorem qJo {p:AV->Bool}{l:List AV}(h:l.all p=true)(n:Nat):(l.take n).all p=true:=by rw[qOy] at h ⊢;exact fun x hx=>h x (qQ6 hx)
theorem qIX {p:AV->Bool}{l:List AV}(h:l.all p=true)(n:Nat):(l.drop n).all p=true:=by rw[qOy] at h ⊢;exact fun x hx=>h x (qQ7 hx)
theorem qsY{h h':List Blk}{sh:List Sh}:∀(n:Nat) (cs:List AV),cs.all qGp=true->qjT h sh n cs=qjT h' sh n cs
 | 0,[],_=>rfl
 | 0,_::_,_=>rfl
 | n+1,cs,hv=>by
  simp only[qjT];rw[qoh (h':=h') _ _ (qJo hv _),qsY (h':=h') n _ (qIX hv _)]
theorem qzx {t:TypeId}{p v:AV}{r:Res}(hr:(kz E h t p v).run=some r) :∃b x,p.men=[b]/\r=(.skip,h.set b x,none)/\∀h',h'[b]?=h[b]?->(kz E h' t p v).run=some (.skip,h'.set b x,none):=by
 have plain:∀{p:AV} {r:Res},(qeS E h t p v).run=some r->∃b x,p.men=[b]/\r=(.skip,h.set b x,none)/\∀h',h'[b]?=h[b]?->(qeS E h' t p v).run=some (.skip,h'.set b x,none):=by
  intro p r hr;unfold qeS at hr;simp only at hr;split at hr
  case isFalse=>cases hr
  rename_i hc;cases p<;>simp only at hr<;>first|(cases hr;done)|skip
  case ptr b off=>
   split at hr
   case h_2=>cases hr
   split at hr
   case isFalse=>cases hr
   rename_i cs hb hc2;cases hr;refine⟨b,_,rfl,rfl,fun h' e=>?_⟩;unfold qeS;simp only;rw[if_pos hc,e,hb];simp only;rw[if_pos hc2];rfl
  case vptr b i off=>
   split at hr
   case h_2=>cases hr
   split at hr
   case isFalse=>cases hr
   split at hr
   case h_2=>cases hr
   rename_i e0 sh l hb hm _ us hu;cases hr;refine⟨b,_,rfl,rfl,fun h' e=>?_⟩;unfold qeS;simp only;have hu':qrd h' ((sh.drop off).take v.cells.length) v.cells=some us:=by
    rw[<-hu];refine qoh _ _ (qOy.2 fun x hx=>?_);cases x<;>first|rfl|skip
    rename_i b';exact absurd (qqZ hx (b:=b') (by simp[AV.men])) (by rw[List.isEmpty_iff.1 hm];simp)
   rw[if_pos hc,e,hb];simp only;rw[if_pos hm,hu'];rfl
 unfold kz at hr;split at hr
 ·rename_i b off;split at hr
  ·rename_i cs k n l hb;unfold qyD at hr;split at hr
   ·split at hr
    case isFalse=>cases hr
    rename_i hc;cases hr;refine⟨b,_,rfl,rfl,fun h' e=>?_⟩;unfold kz;simp only[e,hb];unfold qyD;simp only;rw[if_pos hc];rfl
   ·rename_i hno;split at hr
    case isFalse=>cases hr
    rename_i hc;have fin:∀(x:Blk),(qyD E h t b off cs k n l v).run=some (.skip,h.set b x,none)->(∀h':List Blk,(qyD E h' t b off cs k n l v).run=some (.skip,h'.set b x,none))->∃b_1 x_1,(AV.ptr b off).men=[b_1]/\((AV.skip,h.set b x,none):Res)=(.skip,h.set b_1 x_1,none)/\∀h',h'[b_1]?=h[b_1]?->(kz E h' t (.ptr b off) v).run=some (.skip,h'.set b_1 x_1,none):=by intro x _ h2;refine⟨b,x,rfl,rfl,fun h' e=>?_⟩;unfold kz;simp only[e,hb];exact h2 h'
    split at hr
    ·rename_i hle;cases hr;refine⟨b,_,rfl,rfl,fun h' e=>?_⟩;unfold kz;simp only[e,hb];unfold qyD;cases v<;>first|exact absurd rfl (hno _ _ _ _)|(simp only;rw[if_pos hc,hle];rfl)
    ·rename_i hle;split at hr
     case h_2=>cases hr
     split at hr
     case isFalse=>cases hr
     rename_i k' x hx hc2;cases hr;refine⟨b,_,rfl,rfl,fun h' e=>?_⟩;unfold kz;simp only[e,hb];unfold qyD;cases v<;>first|exact absurd rfl (hno _ _ _ _)|(simp only;rw[if_pos hc,hle];simp only[hx];rw[if_pos hc2];rfl)
  ·rename_i hno;obtain⟨b',x,h1,h2,h3⟩:=plain hr;refine⟨b',x,h1,h2,fun h' e=>?_⟩;simp only[AV.men,qPF,and_true] at h1;subst h1;unfold kz;simp only;rw[e];split
   ·rename_i cs k n l hb;exact absurd hb (hno _ _ _ _)
   ·exact h3 h' e
 ·rename_i b o i;split at hr
  case h_2=>cases hr
  split at hr
  case h_2=>cases hr
  split at hr
  case isFalse=>cases hr
  rename_i cs k n l hb _ k' x hx hc;obtain⟨g1,g2⟩:=brR hr;cases g2;refine⟨b,_,rfl,rfl,fun h' e=>?_⟩;unfold kz;simp only[e,hb,hx];rw[if_pos hc];simp only[Tree.run,g1]
 ·rename_i hn1 hn2;obtain⟨b',x,h1,h2,h3⟩:=plain hr;refine⟨b',x,h1,h2,fun h' e=>?_⟩;unfold kz;split
  ·rename_i b off;exact absurd rfl (hn1 _ _)
  ·rename_i b o i;exact absurd rfl (hn2 _ _ _)
  ·exact h3 h' e
theorem qrY {h h':List Blk}{ev:Operand->AV}{v:AV}(hr:(qoM E h ev op).run=some (v,h'))(hb:b<h.length)(hw:b∉qBL h ev op):h'[b]?=h[b]?:=by
 unfold qoM at hr;unfold qBL at hw;cases hc:jr ev op with
 | some q=>
  obtain⟨f,args⟩:=q;rw[hc] at hr hw;simp only at hr hw;cases hs:qhQ E f with
  | none=>rw[hs] at hr;cases hr
  | some G=>
   rw[hs] at hr;obtain⟨r,h1,h2⟩:=bind_some hr;cases h2;exact qu4 (st:={ t:=[],fs:=[],h:=h,pend:=none }) h1 hb hw
 | none=>
  rw[hc] at hr hw;simp only at hr hw;cases hst:qoA op with
  | true=>
   rw[hst] at hr;obtain⟨r,h1,h2⟩:=bind_some hr;cases op<;>first|(cases hst;done)|skip
   rename_i t x y;simp only at hw;obtain⟨b',z,q1,rfl,_⟩:=qzx (show (kz E h t (ev x) (ev y)).run=some r from h1);cases h2;rw[q1] at hw;exact qO1 (fun e=>hw (by simp[e]))
  | false=>rw[hst] at hr;cases hr
theorem qvx {f g:Operand->AV}(hfg:∀x∈op.operands.toList,f x=g x):jr f op=jr g op:=by
 unfold jr;split
 ·rename_i x args tys;rw[hfg x (by simp[Op.operands,Call.operands])];have:args.toList.map f=args.toList.map g:=qPa fun y hy=>hfg y (by simp only[Op.operands,Call.operands,qQ0];exact qOH _ hy);rw[this]
 ·rfl
theorem qrk {f g:Operand->AV}(hfg:∀x∈op.operands.toList,f x=g x):qmE E h f op=qmE E h g op/\qoM E h f op=qoM E h g op:=by
 have hc:=qvx hfg;constructor
 ·unfold qmE;rw[hc]
 ·unfold qoM;rw[hc];cases jr g op with
  | some q=>rfl
  | none=>
   simp only;cases hs:qoA op with
   | true=>
    cases op<;>first|(cases hs;done)|skip
    rename_i t x y;have e:qr9 E h f (.store t x y)=qr9 E h g (.store t x y):=by unfold qr9;simp only;rw[hfg x (by simp[Op.operands]),hfg y (by simp[Op.operands])]
    simp only[e]
   | false=>rfl
theorem qBY {P:Program}(hE:E.tok P)(hS:E.specs P){B:Base}{X:Ctx}{st:St}{a:Act}(hs:Sim E B X st a){o:Oper}{av:AV}{h':List Blk}(h:(qoM E st.h (E.opd st.t) o.op).run=some (av,h')) {next:Act->World->Prop} {Q:Exit->Act->World->Prop}(hq:∀X' v,Sim E B X' { st with h:=h' } a->Rep X' av v->next (a.put o.dst v) X'.w):o.wp P a X.w next Q/\∀c,o.op≠.defer c:=by
 unfold qoM at h;cases hcl:jr (E.opd st.t) o.op with
 | some q=>
  obtain⟨f,aargs⟩:=q;rw[hcl] at h;simp only at h;obtain⟨_,x,args,tys,first,caps,hop,hx,ha⟩:=qy3 hcl;simp only at hx ha;refine⟨?_,fun c hc=>by rw[hop] at hc;cases hc⟩;cases hsp:qhQ E f with
  | none=>rw[hsp] at h;cases h
  | some G=>
   rw[hsp] at h;obtain⟨r,h1,h2⟩:=bind_some h;simp only[Tree.run,qNY,qOx] at h2;obtain⟨rfl,rfl⟩:=h2;unfold qhQ at hsp;cases hf:E.spec.find? fun x=>x.1==f with
   | none=>rw[hf] at hsp;cases hsp
   | some G'=>
    rw[hf] at hsp;simp only[qOz,qNY] at hsp;subst hsp;have hG:=hS.sp G' (qOU hf);have hfe:G'.1=f:=by simpa using qPd hf
    rw[hfe] at hG;have hv:=q8K hs x;rw[hx] at hv;generalize hev:a.eval x=vx at hv;cases hv with
    | fn _ _ _ vf vc q1 q2=>
     have hargs:=q3T hs args.toList;have hall:RepL X aargs (vf++args.toList.map a.eval++vc):=by rw[ha];exact(q1.append hargs).append q2
     have hcs:(q0F G'.2 aargs st).run=some (r.1,{ st with h:=r.2.h }):=by
      unfold q0F at h1 ⊢;simp only at h1 ⊢;split at h1
      ·cases h1
      ·obtain⟨r0,k1,k2⟩:=bind_some h1;rw[Tree.run_bind,k1];simp only[qOp];split at k2
       ·cases k2
       ·cases k2;rfl
     have g2:=q7J hG hs hall hcs;have g1:=hG.1 (vf++args.toList.map a.eval++vc).toArray;unfold Oper.wp;have hrun:(execOp a.eval o).run P X.w=.ok (.enter f (vf++args.toList.map a.eval++vc).toArray) X.w:=by
      simp only[execOp,hop,resolve,hev,Deferred.ofValue,qO3,qOw,qOa,invoke];have:vf.toArray++args.map a.eval++vc.toArray=(vf++args.toList.map a.eval++vc).toArray:=by apply qPe;simp
      rw[this];exact g1 X.w
     rw[hrun];refine g2.mono fun e w' ⟨v,X',e1,e2,e3,e4⟩=>?_;subst e1 e2;exact hq X' _ e4 e3
 | none=>
  rw[hcl] at h;simp only at h;have hop:(qr9 E st.h (E.opd st.t) o.op).run=some (av,h',none)/\∀c,o.op≠.defer c:=by
   cases hst:qoA o.op with
   | true=>
    rw[hst] at h;obtain⟨r,h1,h3⟩:=bind_some h;refine⟨?_,fun c hc=>by rw[hc] at hst;cases hst⟩;split at h3
    ·rename_i hn;simp only[Tree.run,qNY,qOx] at h3;rw[h1];obtain⟨r1,r2,r3⟩:=r;simp only at hn h3;rw[hn,h3.1,h3.2]
    ·cases h3
   | false=>rw[hst] at h;cases h
  refine⟨?_,hop.2⟩;obtain⟨nx,v,X',g1,g2,g3,g4,g5⟩:=qmc hE hs hop.1;have hs2:Sim E B X' { st with h:=h' } a:=by have:=hs.ext g5.2 g4;rw[g5.1] at this;exact this
  unfold Oper.wp;rw[g1];rcases g2 with rfl|⟨rfl,rfl⟩
  ·exact hq X' _ hs2 g3
  ·exact hq X' _ hs2 g3
mutual
theorem qJd:∀(a:AV) (h:List Blk) (b:Nat),b∈(a.lend h).men->b∈a.men
 | .vec c,h,b,hb=>by
  simp only[AV.lend] at hb;split at hb<;>cases hb
 | .agg cs,h,b,hb=>by simp only[AV.lend,AV.men] at hb ⊢;exact qef cs h b hb
 | .tuple cs,h,b,hb=>by simp only[AV.lend,AV.men] at hb ⊢;exact qef cs h b hb
 | .undef,_,_,hb|.yld,_,_,hb|.skip,_,_,hb|.blit _,_,_,hb|.bool _,_,_,hb|.ilit _ _,_,_,hb|.int _ _,_,_,hb|.str _,_,_,hb|.nilp,_,_,hb|.ptr _ _,_,_,hb|.eptr _ _ _ _,_,_,hb|.mptr _ _ _ _ _,_,_,hb|.vptr _ _ _,_,_,hb|.vsub _ _,_,_,hb|.aptr _ _ _,_,_,hb|.asub _ _ _ _ _,_,_,hb|.bagg _ _ _ _,_,_,hb|.nils,_,_,hb|.imm _ _,_,_,hb|.nilf,_,_,hb|.fn _ _ _,_,_,hb=>hb
theorem qef:∀(l:List AV) (h:List Blk) (b:Nat),b∈AV.menL (AV.lendL h l)->b∈AV.menL l
 | [],_,_,hb=>hb
 | a::l,h,b,hb=>by
  simp only[AV.lendL,AV.menL,qOn] at hb ⊢;exact hb.imp (qJd a h b) (qef l h b)
end
theorem qhH {h h':List Blk}{s c:Nat}{k:Blk}(hl:h'.length=h.length)(hc:c≠s->h'[c]?=h[c]?):(h'.set s k)[c]?=(h.set s k)[c]?:=by
 by_cases e:c=s
 ·subst e;simp only[List.getElem?_set,if_true,hl]
 ·rw[qO1 (fun e'=>e e'.symm),qO1 (fun e'=>e e'.symm)];exact hc e
theorem qDG {h h':List Blk}{b c:Nat}(hl:h'.length=h.length)(hc:h'[c]?=h[c]?):(zE h' b)[c]?=(zE h b)[c]?:=by
 by_cases e:c=b
 ·subst e;unfold zE;rw[hc];split
  ·exact qhH hl fun h=>absurd rfl h
  ·exact hc
 ·rw[qae e,qae e,hc]
theorem qjA{c:Nat}:∀(l:List Nat) (h h':List Blk),h'.length=h.length->h'[c]?=h[c]?->(qF h' l)[c]?=(qF h l)[c]?
 | [],_,_,_,hc=>hc
 | b::l,h,h',hl,hc=>qjA l _ _ (by have:=jN [b] h;have:=jN [b] h';simp only[qF] at *;omega) (qDG hl hc)
theorem qBD{p q:Nat->Bool}:∀{l:List Nat},(∀b,b∈l->p b=q b)->l.all p=l.all q
 | [],_=>rfl
 | a::l,h=>by simp only[qPY];rw[h a qOm,qBD fun b hb=>h b (qOo _ hb)]
theorem qnk{b:Nat}{cs:List AV}:∀(l:List Nat) (h:List Blk),(qF h l)[b]?=some (.cells cs)->h[b]?=some (.cells cs)
 | [],_,hc=>hc
 | a::l,h,hc=>by
  have:=qnk l _ hc;by_cases e:b=a
  ·subst e;unfold zE at this;split at this
   ·rename_i hk;rw[qOc (qo hk)] at this;cases this
   ·exact this
  ·rwa [qae e] at this
theorem qna{h:List Blk}{b c:Nat}{k:Blk}(hk:h[b]?=some k)(hc:c∈k.menB):∀(l:List Nat),b∈l->c∈qAT h l
 | a::l,hb=>by
  simp only[qAT,qOn];rcases qOj.1 hb with rfl|hb
  ·rw[hk];exact .inl hc
  ·exact .inr (qna hk hc l hb)
theorem qtb{h h':List Blk}:∀(l:List Nat),(∀b,b∈l->h'[b]?=h[b]?)->q7Q h' l=q7Q h l
 | [],_=>rfl
 | b::l,H=>by
  simp only[q7Q];rw[H b qOm,qtb l fun c hc=>H c (qOo _ hc)]
theorem qsv{h h':List Blk}:∀(l:List Nat),(∀b,b∈l->h'[b]?=h[b]?)->q6i h' l=q6i h l
 | [],_=>rfl
 | b::l,H=>by
  simp only[q6i];rw[H b qOm,qsv l fun c hc=>H c (qOo _ hc)]
theorem qw3{h h':List Blk}(hl:h'.length=h.length):∀(l:List Nat) (ks g:List Blk),q0M h l ks=some g->g.length=h.length/\∃g':List Blk,q0M h' l ks=some g'/\g'.length=h.length/\∀c:Nat,h'[c]?=h[c]?->g'[c]?=g[c]?
 | [],_,g,hg=>by cases hg;exact⟨rfl,h',rfl,hl,fun _ h=>h⟩
 | b::l,[],g,hg=>by cases hg
 | b::l,k::ks,g,hg=>by
  simp only[q0M] at hg ⊢;split at hg
  case isFalse=>cases hg
  rename_i hk;cases hp:q0M h l ks with
  | none=>rw[hp] at hg;cases hg
  | some g0=>
   rw[hp] at hg;simp only[qOz,qNY] at hg;subst hg;obtain⟨q0,g',q1,q2,q3⟩:=qw3 hl l ks g0 hp;refine⟨by simp[q0],g'.set b k,by rw[if_pos hk,q1];rfl,by simp[q2],fun c hc=>qhH (by rw[q0,q2]) fun _=>q3 c hc⟩
theorem qjt:∀(l:List Nat) (h:List Blk),(qbM h l).length=h.length
 | [],_=>rfl
 | b::l,h=>by
  simp only[qbM];split
  ·rw[qjt l];simp
  ·rw[qjt l]
theorem qnL{R:List Nat}:∀(l:List Nat) (h h':List Blk),h'.length=h.length->(∀b,b∈R->h'[b]?=h[b]?)->(∀b,b∈l->b∈R/\∀cs,h[b]?=some (.cells cs)->∀c,c∈AV.menL cs->c∈R) ->
  ∀b,b∈R->(qbM h' l)[b]?=(qbM h l)[b]?
 | [],_,_,_,H,_=>H
 | a::l,h,h',hl,H,hR=>by
  obtain⟨ha,hcs⟩:=hR a qOm;have hR':=fun b hb=>hR b (qOo _ hb);simp only[qbM];rw[H a ha];cases hk:h[a]? with
  | none=>exact qnL l h h' hl H hR'
  | some k=>
   cases k<;>simp only<;>first|exact qnL l h h' hl H hR'|skip
   rename_i cs;have hm:=hcs cs hk;rw[q1A cs fun c hc=>H c (hm c hc)];refine qnL l _ _ (by simp[hl]) (fun b hb=>qhH hl fun _=>H b hb) fun b hb=>⟨(hR' b hb).1,fun cs' hcs' c hc=>?_⟩;by_cases e:b=a
   ·subst e;rw[qOc (qo hk)] at hcs';cases hcs';exact hm c (qef cs h c hc)
   ·rw[qO1 (fun e'=>e e'.symm)] at hcs';exact(hR' b hb).2 cs' hcs' c hc
theorem qAK {G:za}{h h':List Blk}{R:List Nat}(hl:h'.length=h.length)(H:∀b,b∈R->h'[b]?=h[b]?)(h1:∀b,b∈AV.menL args->b∈R)(h2:∀b,b∈qAT (qF h (args.flatMap zP)) (AV.menL (AV.lendL (qF h (args.flatMap zP)) args))->b∈R) {r:AV×St} (hr:(q0F G args { t:=[],fs:=[],h:=h,pend:=none }).run=some r) :qq0 h' args=qq0 h args/\∃g',(q0F G args { t:=[],fs:=[],h:=h',pend:=none }).run=some (r.1,{ t:=[],fs:=[],h:=g',pend:=none })/\g'.length=r.2.h.length/\∀b,b∈R->b<h.length->g'[b]?=r.2.h[b]?:=by
 have l1:(qF h' (args.flatMap zP)).length=(qF h (args.flatMap zP)).length:=by rw[jN,jN,hl]
 have H1:∀b,b∈R->(qF h' (args.flatMap zP))[b]?=(qF h (args.flatMap zP))[b]?:=fun b hb=>qjA _ _ _ hl (H b hb);have e1:AV.lendL (qF h' (args.flatMap zP)) args=AV.lendL (qF h (args.flatMap zP)) args:=q1A args fun b hb=>H1 b (h1 b hb);have hfp:∀b,b∈AV.menL (AV.lendL (qF h (args.flatMap zP)) args)->b∈R:=fun b hb=>h1 b (qef args _ b hb);have e2:=qtb (h:=qF h (args.flatMap zP)) (h':=qF h' (args.flatMap zP)) _ fun b hb=>H1 b (hfp b hb);have hw:qq0 h' args=qq0 h args:=by unfold qq0;simp only[e1,e2]
 have Hp:∀b,b∈R->(vg h' args)[b]?=(vg h args)[b]?:=by unfold vg;simp only[e1,e2];refine qnL _ _ _ (by simp only[jN,hl]) (fun b hb=>qjA _ _ _ l1 (H1 b hb)) fun b hb=>⟨hfp b hb,fun cs hcs c hc=>?_⟩;refine h2 c (qna (k:=.cells cs) (b:=b) ?_ hc _ hb);exact qnk _ _ hcs
 have lp:(vg h' args).length=(vg h args).length:=by unfold vg;simp only[qjt,jN,hl]
 refine⟨hw,?_⟩;unfold q0F at hr ⊢;simp only at hr ⊢;have e3:AV.lendL (vg h' args) args=AV.lendL (vg h args) args:=q1A args fun b hb=>Hp b (h1 b hb);have hfp2:∀b,b∈qm2 (AV.menL (AV.lendL (vg h args) args))->b∈R:=fun b hb=>h1 b (qef args _ b (qjp _ hb));rw[e3,qsv _ fun b hb=>Hp b (hfp2 b hb),lp];split at hr
 ·cases hr
 ·obtain⟨r0,k1,k2⟩:=bind_some hr;split at k2
  ·cases k2
  ·rename_i g hput;cases k2;obtain⟨q0,g',q1,q2,q3⟩:=qw3 lp _ _ _ hput;refine⟨g'++(r0.2.drop (qm2 (AV.menL (AV.lendL (vg h args) args))).length).map (Blk.ren (qq7 (qm2 (AV.menL (AV.lendL (vg h args) args))) (vg h args).length)),?_,?_,fun b hb hbl=>?_⟩
   ·rw[Tree.run_bind,k1];simp only[qOp,q1];rfl
   ·simp[q2,q0]
   ·have hbg:b<g.length:=by rw[q0];unfold vg;simp only[qjt,jN];exact hbl
    rw[qOb (by rw[q2,<-q0];exact hbg),qOb hbg];exact q3 b (Hp b hb)
theorem qAM {h h' g:List Blk}{ev:Operand->AV}{v:AV}(hr:(qoM E h ev op).run=some (v,g))(hl:h'.length=h.length)(H:∀b,b∈qGr h ev op++qBL h ev op->h'[b]?=h[b]?)(hg:g.length=h.length) :∃g',(qoM E h' ev op).run=some (v,g')/\g'.length=h'.length/\(∀b,b∈qBL h ev op->g'[b]?=g[b]?)/\∀b,b∉qBL h ev op->g'[b]?=h'[b]?:=by
 have out:∀{h g:List Blk},(qoM E h ev op).run=some (v,g)->g.length=h.length->∀b,b∉qBL h ev op->g[b]?=h[b]?:=by
  intro h g hr hg b hb;rcases qO6 b h.length with hlt|hge
  ·exact qrY hr hlt hb
  ·rw[qOl hge,qOl (by omega)]
 suffices hs:qBL h' ev op=qBL h ev op/\∃g',(qoM E h' ev op).run=some (v,g')/\g'.length=g.length/\∀b,b∈qBL h ev op->g'[b]?=g[b]? by obtain⟨e,g',q1,q2,q3⟩:=hs;refine⟨g',q1,by omega,q3,fun b hb=>out q1 (by omega) b (by rw[e];exact hb)⟩
 unfold qoM at hr ⊢;unfold qGr qBL at H;unfold qBL;cases hc:jr ev op with
 | some q=>
  obtain⟨f,args⟩:=q;rw[hc] at hr H;simp only at hr H ⊢;cases hsp:qhQ E f with
  | none=>rw[hsp] at hr;cases hr
  | some G=>
   rw[hsp] at hr;simp only at hr ⊢;obtain⟨r,k1,k2⟩:=bind_some hr;simp only[Tree.run,qNY,qOx] at k2;obtain⟨rfl,rfl⟩:=k2;obtain⟨e,g',q1,q2,q3⟩:=qAK hl H (fun b hb=>qOT _ (qOT _ hb)) (fun b hb=>qOT _ (qOH _ hb)) k1;refine⟨e,g',by rw[Tree.run_bind,q1];rfl,q2,fun b hb=>?_⟩;rcases qO6 b h.length with hlt|hge
   ·exact q3 b (qOH _ hb) hlt
   ·rw[qOl (by omega),qOl (by omega)]
 | none=>
  rw[hc] at hr H;simp only at hr H ⊢;cases hst:qoA op with
  | false=>rw[hst] at hr;cases hr
  | true=>
   rw[hst] at hr;simp only at hr ⊢;obtain⟨r,k1,k2⟩:=bind_some hr;cases op<;>first|(cases hst;done)|skip
   rename_i t x y;obtain⟨b',z,q1,rfl,q3⟩:=qzx (show (kz E h t (ev x) (ev y)).run=some r from k1);simp only[Tree.run,qNY,qOx] at k2;obtain⟨rfl,rfl⟩:=k2;refine⟨trivial,h'.set b' z,?_,by simp[hl],fun b hb=>qhH hl fun _=>H b (qOH _ hb)⟩;rw[Tree.run_bind];have:=q3 h' (H b' (qOH _ (by simp only;rw[q1];exact List.mem_singleton_self _)));unfold qr9;simp only;rw[this];rfl
theorem qII {h h':List Blk}{ev:Operand->AV}(he:qmE E h ev op=true)(H:∀b,b∈qGr h ev op++qBL h ev op->h'[b]?=h[b]?):qmE E h' ev op=true:=by
 unfold qmE at *;unfold qGr at H;cases hv:qhq op with
 | false=>rw[hv] at he;exact he
 | true=>
  rw[hv] at he;simp only at he ⊢;cases hc:jr ev op with
  | none=>rw[hc] at he;cases he
  | some q=>
   obtain⟨f,args⟩:=q;rw[hc] at he H;simp only at he H ⊢;have hm:∀b,b∈AV.menL args->h'[b]?=h[b]?:=fun b hb=>H b (qOT _ (qOT _ hb));rw[q1A args hm];have:(args.flatMap zP).all (qlq h')=(args.flatMap zP).all (qlq h):=qBD fun b hb=>by unfold qlq;rw[hm b (qxK hb)]
   rw[this];exact he
end Go.Eng

namespace Go.Eng
theorem qzr{s:Nat}:∀(l:List AV) (i:Nat) (v:AV),s∉AV.menL l->s∉v.men->s∉AV.menL (l.set i v)
 | [],_,_,h,_=>by simpa using h
 | a::l,0,v,h,hv=>by
  simp only[AV.menL,qOn,not_or] at h;simp only[qOe,AV.menL,qOn,not_or];exact⟨hv,h.2⟩
 | a::l,i+1,v,h,hv=>by
  simp only[AV.menL,qOn,not_or] at h;simp only[qOg,AV.menL,qOn,not_or];exact⟨h.1,qzr l i v h.2 hv⟩
theorem qHd{dst:Nat->Option Tmp}{V:Nat->AV}{T0:List AV}{L:Nat->Bool}{s:Nat}(h0:s∉AV.menL T0):∀n,(∀j,j<n->L j=true->s∉(V j).men)->s∉AV.menL (TLp dst V T0 L n)
 | 0,_=>h0
 | n+1,h=>by
  have ih:=qHd (dst:=dst) (V:=V) (L:=L) h0 n fun j hj=>h j (by omega);simp only[TLp];split
  ·rename_i hl;cases hd:dst n with
   | none=>exact ih
   | some d=>exact qzr _ _ _ ih (h n (qPM n) hl)
  ·exact ih
theorem qFJ{all:Array Oper}{k:Nat}{v:AV}{s:Nat}(h:s∉v.men):s∉(qAH all k v).men:=by
 unfold qAH;split
 ·split
  ·simp[AV.men]
  ·exact h
 ·exact h
theorem qxc{n:Nat}(i:Nat):(Array.replicate n false).getD i false=false:=by rcases qO6 i n with h|h<;>simp[h]
theorem qK4(listed:Array Bool):∀n,unl listed n<=n
 | 0=>qO0 _
 | n+1=>by simp only[unl];have:=qK4 listed n;split<;>omega
theorem qIC(all:Array Oper):kl all<=all.size:=by
 unfold kl;simp only;cases hf:(List.range all.toList.length).find? _ with
 | none=>simp
 | some m=>
  have:=qOU hf;simp at this;simp;omega
theorem qoN(all:Array Oper){i j:Nat}(hj:kl all<=j)(hjn:j<all.size)(hij:i<j):((qh6 all.toList).getD j 0).testBit i=true:=by
 unfold kl at hj;simp only at hj;cases hf:(List.range all.toList.length).find? (fun m=>(List.range all.toList.length).all fun j=>decide (j<m)||(List.range j).all fun i=>((qh6 all.toList).getD j 0).testBit i) with
 | none=>rw[hf] at hj;simp at hj;omega
 | some m=>
  rw[hf] at hj;simp only[qOW] at hj;have h:=qPd hf;rw[qOy] at h;have h2:=h j (qOV.2 (by simpa using hjn));simp only[qPp,decide_eq_true_eq,qOy,qOV] at h2;rcases h2 with h2|h2
  ·omega
  ·exact h2 i hij
section
variable {E:Env} {P:Program} {B:Base} {all:Array Oper} {Q:Exit->Act->World->Prop} {callH:q8q} {n0:Nat}
theorem qHr(hE:E.tok P)(hcH:CallOK E P callH B)(hd:DrawOk all){st':St}(hq:∀X' a',Sim E B X' st' a'->Q .normal a' X'.w):∀(l:List Oper) (i:Nat),all.toList.drop i=l->kl all<=i ->∀(fuel:Nat) (listed:Array Bool) (X:Ctx) (a:Act) (st:St),listed.size=all.size->(∀j,j<i->j<all.size->listed.getD j false=true)->(∀j,i<=j->listed.getD j false=false)->unl listed all.size<=fuel ->Sim E B X st a->(ql3 E callH all i l st).run=some st'->wpAnyIn (q4B B.ro) n0 P .any all Q fuel listed a X.w:=by
 intro l;induction l with
 | nil=>
  intro i hl hm fuel listed X a st hsz hlo hhi hun hs h;simp only[ql3,Tree.run,qNY] at h;subst h;have hi:all.size<=i:=by simpa using List.drop_eq_nil_iff.1 hl
  have hr:Region.ready .any all listed=[]:=by
   apply List.eq_nil_iff_forall_not_mem.2;intro j hj;rw[mem_ready] at hj;obtain⟨q1,o',q2,_⟩:=hj;have hj':=(qO4.1 q2).1;have hjt:=hlo j (by omega) hj';have hj2:j<listed.size:=by omega
   rw[qPh,qPE hj2] at hjt q1;simp only[qOW] at hjt q1;rw[hjt] at q1;cases q1
  cases fuel with
  | zero=>exact⟨hr,hq X a hs⟩
  | succ fuel=>exact⟨fun _=>hq X a hs,fun j hj=>by rw[hr] at hj;cases hj⟩
 | cons o rest ih=>
  intro i hl hm fuel listed X a st hsz hlo hhi hun hs h;have hin:i<all.size:=by
   rcases qO6 i all.size with h1|h1
   ·exact h1
   ·rw[qPD (by simpa using h1)] at hl;cases hl
  have ho:all[i]?=some o:=by have:=qP4 (xs:=all.toList) (i:=i) (j:=0);rw[hl] at this;simpa using this.symm
  have hrest:all.toList.drop (i+1)=rest:=by rw[<-List.drop_drop,hl];rfl
  have hil:i<listed.size:=by omega
  have hcl:qqd all fun j=>listed.getD j false:=by
   intro j oj hj hL e he hb;have hj':=(qO4.1 hj).1;have hji:j<i:=by
    rcases qO6 j i with h1|h1
    ·exact h1
    ·have hL':listed.getD j false=true:=hL;rw[hhi j h1] at hL';cases hL'
   have:=hd.edge j oj hj e he hb;exact hlo e.on (by omega) (by omega)
  have hpos:0<unl listed all.size:=by
   rcases qP6 (unl listed all.size) with h0|h0
   ·have:=qxH h0 i hin;rw[hhi i (qO0 _)] at this;cases this
   ·exact h0
  obtain⟨fuel,rfl⟩:∃f,fuel=f+1:=⟨fuel-1,by omega⟩;have hLi:=hhi i (qO0 _);have hone:∀j,j∈Region.ready .any all listed->j=i:=by
   intro j hj;rw[mem_ready] at hj;obtain⟨q1,oj,q2,gedge⟩:=hj;have hj':=(qO4.1 q2).1;have hj2:j<listed.size:=by omega
   have hLj:listed.getD j false=false:=by simpa[qPh,hj2] using q1
   rcases Nat.lt_trichotomy j i with h1|h1|h1
   ·rw[hlo j h1 hj'] at hLj;cases hLj
   ·exact h1
   ·have hedge':∀e,e∈oj.after.toList->Region.binds .any e=true->listed.getD e.on false=true:=fun e he hb=>gedge e (by simpa using he) hb;have hcl':=qoH hsz q2 hcl hedge';have hb':=qoN all (by omega) hj' h1;have:=qvI hd hcl' j i (by show (listed.setIfInBounds j true).getD j false=true;rw[q0w hj2,if_pos rfl]) hb';have h':(listed.setIfInBounds j true).getD i false=true:=this;rw[q0w hj2,if_neg (by omega),hLi] at h';cases h'
  refine⟨fun hr=>?_,fun j hj=>?_⟩
  ·
   exfalso;have:=qzE hd hsz hr i hin;rw[hLi] at this;cases this
  ·obtain rfl:=hone j hj;have hgo:∀(X'':Ctx) (a'':Act) (s'':St),Sim E B X'' s'' a''->(ql3 E callH all (j+1) rest s'').run=some st'->wpAnyIn (q4B B.ro) n0 P .any all Q fuel (listed.setIfInBounds j true) a'' X''.w:=by
    intro X'' a'' s'' hs'' h'';refine ih (j+1) hrest (by omega) fuel _ X'' a'' s'' (by simp[hsz]) (fun k hk hk2=>?_) (fun k hk=>?_) ?_ hs'' h''
    ·rw[q0w hil];split
     ·rfl
     ·exact hlo k (by omega) hk2
    ·rw[q0w hil,if_neg (by omega)];exact hhi k (by omega)
    ·have:=(qB4 hil hLi all.size).2 hin;omega
   simp only[ql3] at h;unfold wpOpIn;rw[ho];simp only;cases hwa:q66 all o st.t with
   | none=>rw[hwa] at h;cases h
   | some b=>
    rw[hwa] at h;rw[q9t hs.t hwa];cases b with
    | true=>
     simp only[if_true];obtain⟨s1,k1,k2⟩:=bind_some h;obtain⟨s2,k3,k4⟩:=bind_some k2;exact qpM hE hcH hs k1 fun X'' a'' hs''=>hgo X'' a'' s2 (qt8 hs'' k3) k4
    | false=>
     simp only[qOC,if_false];exact⟨fun _ _=>trivial,hgo X _ (qH0 o st) (hs.put (av:=.skip) .skip o.dst) h⟩
end
theorem qDD(h h':List Blk):qd5 (h++h')=qd5 h++qd5 h':=by
 induction h with
 | nil=>rfl
 | cons k h ih=>simp[qd5,ih]
theorem qEp{zs:List Blk}(h:∀z,z∈zs->z.menB=[]){s:Nat}:s∉qd5 zs:=by
 induction zs with
 | nil=>intro h;cases h
 | cons z zs ih=>
  simp only[qd5,qOn,not_or];exact⟨by rw[h z qOm];simp,ih fun z hz=>h z (qOo _ hz)⟩
end Go.Eng

namespace Go.Eng
variable {B:Base}{E:Env}{P:Program}{X:Ctx}{a:Act}{args:List AV}{b:Nat}{e:TypeId}{f:FuncId}{h:List Blk}{k:Nat}{o:Oper}{op:Op}{s:Nat}{sh:List Sh}{st:St}
theorem HSim.renum {X X':Ctx}{f:Nat->Option Nat}(hs:HSim B X)(hm:Move X X' f)(hw:X'.w=X.w)(hM:X'.M=X.M)(g:Nat->Nat)(hget:∀b k,X'.h[b]?=some k->k=.dead\/(X.h[g b]?=some k/\X'.σ b=X.σ (g b)/\k.ren f=k))(hinj:∀b b',g b=g b'->b=b'\/X'.h[b]?=some .dead\/X'.h[b']?=some .dead)(hi:∀b,b<B.imps.length->X'.σ b=X.σ b/\X'.h[b]?=X.h[b]?) (hg:∀b,B.imps.length<=b->B.imps.length<=g b):HSim B X':=by
 have hown:∀b n,X'.own b n->X.own (g b) n:=by
  intro b n ⟨h1,k,h2,h3⟩;rcases hget b k h2 with rfl|⟨q1,q2,_⟩
  ·cases h3
  ·exact⟨q2▸h1,k,q1,h3⟩
 constructor
 ·intro b k h;rcases hget b k h with rfl|⟨q1,q2,q3⟩
  ·trivial
  ·by_cases hd:k=.dead
   ·subst hd;trivial
   ·have:=jf.move hm.toMove0 (b':=b) q2 (fun n _=>by rw[hw]) (hs.blk (g b) k q1)
    rwa [q3] at this
 ·intro b b' n h h';rcases hinj b b' (hs.inj _ _ n (hown b n h) (hown b' n h')) with e|e|e
  ·exact e
  ·obtain⟨_,k,q1,q2⟩:=h;rw[e] at q1;cases q1;cases q2
  ·obtain⟨_,k,q1,q2⟩:=h';rw[e] at q1;cases q1;cases q2
 ·intro b n h;rw[hM];exact hs.notM _ n (hown b n h)
 ·intro n h;rw[hM] at h;rw[hw];exact hs.ltM n h
 ·intro n h;rw[hM];exact hs.M0 n h
 ·intro n h;rw[hM] at h;exact hs.newM n h
 ·rw[hw];exact hs.os
 ·rw[hw];exact hs.tape
 ·rw[hw];exact hs.output
 ·rw[hw];exact hs.size
 ·intro n h1 h2;rw[hw];exact hs.frame n h1 h2
 ·intro b hb;rw[(hi b hb).1];exact hs.imps b hb
 ·intro b hb;rw[(hi b hb).2];exact hs.impc b hb
 ·intro b n h hb;exact hs.fresh _ n (hown b n h) (hg b hb)
 ·intro p hp;rw[hm.kept] at hp;rw[hw];exact hs.kept p hp
theorem not_imp (hs:HSim B X){k:Blk}(h:X.h[b]?=some k)(hk:k.solid=false):B.imps.length<=b:=by
 rcases qO6 b B.imps.length with hb|hb
 ·obtain⟨k',h1,h2⟩:=hs.impc b hb;rw[h] at h1;cases h1;rw[hk] at h2;cases h2
 ·exact hb
def Ctx.alias(X:Ctx)(b s:Nat)(k:Blk):Ctx:={ σ:=fun x=>if x=s then X.σ b else X.σ x,h:=(X.h.set b .dead).set s k,w:=X.w,M:=X.M,kept:=X.kept,y:=X.y }
theorem qz7 {b s:Nat}{k:Blk}(hb:b<X.h.length)(hsl:s<X.h.length)(x:Nat):(X.alias b s k).h[x]?=if x=s then some k else if x=b then some .dead else X.h[x]?:=by
 show ((X.h.set b .dead).set s k)[x]?=_;by_cases h1:x=s
 ·subst h1;rw[if_pos rfl,qOc (by simpa using hsl)]
 ·rw[if_neg h1,qO1 (fun e=>h1 e.symm)];by_cases h2:x=b
  ·subst h2;rw[if_pos rfl,qOc hb]
  ·rw[if_neg h2,qO1 (fun e=>h2 e.symm)]
theorem qwh (hs:HSim B X){b s:Nat}{l:R}(hb:X.h[b]?=some (.vec e sh l))(hd:X.h[s]?=some .dead)(hmen:s∉qd5 X.h) :HSim B (X.alias b s (.vec e sh l))/\Move X (X.alias b s (.vec e sh l)) (qcA s)/\∀v,Rep X (.vec b) v->Rep (X.alias b s (.vec e sh l)) (.vec s) v:=by
 have hbl:=qo hb;have hsl:=qo hd;have hbs:b≠s:=fun he=>by rw[he,hd] at hb;cases hb
 have hget:=fun x=>qz7 (X:=X) (k:=.vec e sh l) hbl hsl x;have hlen:(X.alias b s (.vec e sh l)).h.length=X.h.length:=by simp[Ctx.alias]
 have hm:Move X (X.alias b s (.vec e sh l)) (qcA s):=by
  refine Move.of (fun _ h=>h) (fun _ _=>rfl) (fun b1 b2 hb1 h=>?_);have hne:b1≠s:=by intro e;subst e;simp[qcA] at h
  have:b2=b1:=by simp[qcA,hne] at h;exact h.symm
  subst this;refine⟨by rw[hlen];exact hb1,by simp[Ctx.alias,hne],fun sh1 m ⟨e1,l1,h1,h2⟩=>?_,fun _ _ _ n _ c T fr hc=>⟨c,T,fr,hc,rfl⟩⟩;rw[hget,if_neg hne] at h1;by_cases h3:b2=b
  ·rw[if_pos h3] at h1;rcases h1 with h1|h1<;>cases h1
  ·rw[if_neg h3] at h1;exact⟨e1,l1,h1,h2⟩
 refine⟨hs.renum hm rfl rfl (fun x=>if x=s then b else x) (fun x k h=>?_) (fun x x' h=>?_) (fun x hx=>?_) (fun x hx=>?_),hm,fun v hv=>?_⟩
 ·rw[hget] at h;by_cases h1:x=s
  ·rw[if_pos h1] at h;cases h;right;rw[if_pos h1];exact⟨hb,by simp[Ctx.alias,h1],rfl⟩
  ·rw[if_neg h1] at h;by_cases h2:x=b
   ·rw[if_pos h2] at h;cases h;exact .inl rfl
   ·rw[if_neg h2] at h;right;rw[if_neg h1];exact⟨h,by simp[Ctx.alias,h1],Blk.ren_void k (qr8 hmen h)⟩
 ·by_cases h1:x=s
  ·by_cases h2:x'=s
   ·exact .inl (h1.trans h2.symm)
   ·rw[if_pos h1,if_neg h2] at h;right;right;rw[hget,if_neg h2,if_pos h.symm]
  ·by_cases h2:x'=s
   ·rw[if_neg h1,if_pos h2] at h;right;left;rw[hget,if_neg h1,if_pos h]
   ·rw[if_neg h1,if_neg h2] at h;exact .inl h
 ·have h1:=not_imp hs hb rfl;have h2:=not_imp hs hd rfl;exact⟨by simp[Ctx.alias,show x≠s by omega],by rw[hget,if_neg (by omega),if_neg (by omega)]⟩
 ·have h1:=not_imp hs hb rfl;split<;>omega
 ·cases hv with
  | vec _ p n c hlt h=>
   refine .vec s p n c (by rw[hlen];exact hsl) fun sh' m ⟨e',l',q1,q2⟩=>?_;rw[hget,if_pos rfl] at q1;have q3:e'=e/\sh'=sh/\l'=l:=by
    rcases q1 with q1|q1
    ·cases q1;exact⟨rfl,rfl,rfl⟩
    ·cases q1
   obtain⟨rfl,rfl,rfl⟩:=q3;have:=h sh' m ⟨e',l',.inl hb,q2⟩;unfold qyG at this ⊢;have hσ:(X.alias b s (.vec e' sh' l')).σ s=X.σ b:=by simp[Ctx.alias]
   rw[hσ];exact this
theorem qEx (hs:HSim B X){h':List Blk}(hX:X.h=h'++[.dead])(hmen:h'.length∉qd5 h') :HSim B { X with h:=h' }/\Move X { X with h:=h' } (qcA h'.length):=by
 have hget:∀(x:Nat) (k:Blk),h'[x]?=some k->X.h[x]?=some k:=fun x k h=>by rw[hX,qOb (qo h)];exact h
 have hm:Move X { X with h:=h' } (qcA h'.length):=by
  refine Move.of (fun _ h=>h) (fun _ _=>rfl) (fun b1 b2 hb1 h=>?_);have hne:b1≠h'.length:=by intro e;subst e;simp[qcA] at h
  have:b2=b1:=by simp[qcA,hne] at h;exact h.symm
  subst this;rw[hX] at hb1;simp only[qOh,qOt,qOJ] at hb1;refine⟨by show b2<h'.length;omega,rfl,fun sh1 m ⟨e1,l1,h1,h2⟩=>⟨e1,l1,?_,h2⟩,fun _ _ _ n _ c T fr hc=>⟨c,T,fr,hc,rfl⟩⟩;exact h1.elim (fun h=>.inl (hget _ _ h)) (fun h=>.inr (hget _ _ h))
 refine⟨hs.renum hm rfl rfl id (fun x k h=>.inr ⟨hget x k h,rfl,Blk.ren_void k (qr8 hmen h)⟩) (fun x x' h=>.inl h) (fun x hx=>⟨rfl,?_⟩) (fun x hx=>hx),hm⟩;obtain⟨k,h1,h2⟩:=hs.impc x hx;have hxl:x<h'.length:=by
  rcases qO6 x h'.length with h|h
  ·exact h
  ·rw[hX,qOi h] at h1;rcases qPx h with h|h
   ·rw[<-h] at h1;simp at h1;subst h1;cases h2
   ·rw[qOl (by simp;omega)] at h1;cases h1
 show h'[x]?=X.h[x]?;rw[hX,qOb hxl]
theorem Sim.moved {X X':Ctx}(hs:Sim E B X st a)(h2:HSim B X')(h3:Move X X' (qcA s))(ht:s∉AV.menL st.t)(hf:s∉qnV st.fs):Sim E B X' { st with h:=X'.h } a:=by
 refine⟨h2,rfl,?_,?_,fun x hx=>?_,h3.kept▸hs.df,hs.ni,h3.y.trans hs.y,fun p hp=>h3.kept▸hs.pin p hp⟩
 ·have:=hs.t.ren h3.toMove0
  rwa [AV.renL_void _ ht] at this
 ·have:=hs.fs.ren h3.toMove0
  rwa [qon _ hf] at this
 ·obtain⟨⟨sh,l,i,off,he⟩,hr⟩:=hs.glob x hx;refine⟨⟨sh,l,i,off,he⟩,hr.move h3.M h3.w ?_⟩;have:=hr.1.ren h3.toMove0;rw[he] at this ⊢;exact this
theorem Rep.voided {X X':Ctx}{s b:Nat}{v:Value}(h:Move X X' (qcA s))(hr:Rep X (.vec b) v)(hne:b≠s):Rep X' (.vec b) v:=by have:=hr.ren h.toMove0;simpa[AV.ren,qcA,hne] using this
theorem qnS {s c:Nat}{k:Blk}(hk:k.menB=[])(hc:c∉qd5 h):c∉qd5 (h.set s k):=by
 induction h generalizing s with
 | nil=>exact hc
 | cons a h ih=>
  simp only[qd5,qOn,not_or] at hc;cases s with
  | zero=>simp only[qOe,qd5,hk,qPi];exact hc.2
  | succ s=>simp only[qOg,qd5,qOn,not_or];exact⟨hc.1,ih hc.2⟩
theorem qpC{c:Nat}:∀(l:List Nat) {h:List Blk},h[c]?=some .dead->(qF h l)[c]?=some .dead
 | [],_,hc=>hc
 | a::l,h,hc=>qpC l (by
  by_cases e:c=a
  ·subst e;unfold zE;rw[hc];exact hc
  ·rw[qae e,hc])
theorem qj1{c:Nat}:∀(l:List Nat) {h:List Blk},c∉qd5 h->c∉qd5 (qF h l)
 | [],_,hc=>hc
 | a::l,h,hc=>qj1 l (by
  unfold zE;split
  ·exact qnS rfl hc
  ·exact hc)
theorem qD7 {l:R}{v:Value}(hs:Sim E B X { st with h:=h++[.vec e sh l] } a)(hv:Rep X (.vec h.length) v)(hd:h[s]?=some .dead) (h1:s∉qd5 h) (h2:s∉AV.menL st.t) (h3:s∉qnV st.fs) (n1:h.length∉qd5 h) (n2:h.length∉AV.menL st.t) (n3:h.length∉qnV st.fs) :∃X',X'.w=X.w/\Sim E B X' { st with h:=h.set s (.vec e sh l) } a/\Rep X' (.vec s) v:=by
 have hsl:=qo hd;have hX:X.h=h++[.vec e sh l]:=hs.h;have hb:X.h[h.length]?=some (.vec e sh l):=by rw[hX,qOi (qO0 _)];simp
 have hd':X.h[s]?=some .dead:=by rw[hX,qOb hsl];exact hd
 have hm':s∉qd5 X.h:=by rw[hX,qDD];simp[qd5,Blk.menB];exact h1
 obtain⟨g1,g2,g3⟩:=qwh hs.hs hb hd' hm';have s1:=hs.moved g1 g2 h2 h3;have hA:(X.alias h.length s (.vec e sh l)).h=h.set s (.vec e sh l)++[.dead]:=by show (X.h.set h.length .dead).set s (.vec e sh l)=_;rw[hX,List.set_append_right (h:=qO0 _),qOK,List.set_append_left (h:=hsl)];rfl
 obtain⟨k1,k2⟩:=qEx g1 hA (by simp only[qPb];exact qnS rfl n1);rw[qPb] at k2;have s2:=s1.moved k1 k2 n2 n3;have hne:s≠h.length:=by omega
 exact⟨{ X.alias h.length s (.vec e sh l) with h:=h.set s (.vec e sh l) },rfl,s2,(g3 v hv).voided k2 hne⟩
theorem zo (h:List Blk)(x:AV):(jY h x).length=h.length:=by cases x<;>simp[jY,qdc]
theorem q2V {x:AV}{c:Nat}(hc:c∉x.men):(jY h x)[c]?=h[c]?:=by
 cases x<;>first|rfl|skip
 rename_i b;exact qae (fun e=>hc (by simp[AV.men,e]))
theorem qmk {x:AV}{c:Nat}(hc:c∉qd5 h):c∉qd5 (jY h x):=by
 cases x<;>first|exact hc|skip
 rename_i b;show c∉qd5 (zE h b);unfold zE;split
 ·rename_i e sh l _;exact qnS (k:=.frz e sh l) rfl hc
 ·exact hc
theorem qjJ {r:Res}(h:qJ P B X (execOp a.eval o) r){next:Act->World->Prop}{Q:Exit->Act->World->Prop}(hq:∀X' v,HSim B X'->Rep X' r.1 v->(match r.2.2 with|none=>X'.h=r.2.1/\Ext X X'|some b=>X'.h=r.2.1.map (Blk.ren (qcA b))/\Move X X' (qcA b))->next (a.put o.dst v) X'.w):o.wp P a X.w next Q:=by
 obtain⟨nx,v,X',g1,g2,g3,g4,g5⟩:=h;unfold Oper.wp;rw[g1];rcases g2 with rfl|⟨rfl,rfl⟩
 ·exact hq X' _ g4 g3 g5
 ·exact hq X' _ g4 g3 g5
theorem qI5 (hs:s∉qd5 h):h.map (Blk.ren (qcA s))=h:=by
 induction h with
 | nil=>rfl
 | cons k h ih=>
  simp only[qd5,qOn,not_or] at hs;simp only[qP5,Blk.ren_void k hs.1,ih hs.2]
theorem qGM {o:Option Blk}(h:qw2 o=true):o=some .dead:=by
 unfold qw2 at h;split at h
 ·rfl
 ·cases h
theorem Sim.ext' {X X':Ctx}{h':List Blk}(hs:Sim E B X st a)(hx:Ext X X')(h4:HSim B X')(hh:X'.h=h'):Sim E B X' { st with h:=h' } a:=by have:=hs.ext hx h4;rw[hh] at this;exact this
theorem qEP {x:AV}{m:R}(hr:vq h x=some (sh,m))(hn:qCJ b x=true):b∉x.men:=by
 cases x<;>simp only[vq] at hr<;>first|(cases hr;done)|simp[AV.men]
 rename_i b';intro e;subst e;simp[qCJ] at hn
theorem qz3 {h h':List Blk}{x:AV}(H:∀b,b∈x.men->h'[b]?=h[b]?):vq h' x=vq h x:=by cases x<;>simp only[vq];rename_i b;rw[H b (by simp[AV.men])]
mutual
theorem Rep.inB{X:Ctx}:∀{a:AV} {v:Value},Rep X a v->∀b,b∈a.men->b<X.h.length
 | _,_,.undef _,b,h=>by simp[AV.men] at h
 | _,_,.skip,b,h=>by simp[AV.men] at h
 | _,_,.yld,b,h=>by simp[AV.men] at h
 | _,_,.blit _,b,h=>by simp[AV.men] at h
 | _,_,.bool _,b,h=>by simp[AV.men] at h
 | _,_,.ilit _ _,b,h=>by simp[AV.men] at h
 | _,_,.int _ _,b,h=>by simp[AV.men] at h
 | _,_,.str _,b,h=>by simp[AV.men] at h
 | _,_,.nilp,b,h=>by simp[AV.men] at h
 | _,_,.ptr _ _ _ hb _,b,h=>by simp only[AV.men,qOs] at h;rw[h];exact hb
 | _,_,.eptr _ _ _ _ _ _ _ _ _,b,h=>by simp[AV.men] at h
 | _,_,.mnil _ _ _ _,b,h=>by simp[AV.men] at h
 | _,_,.mptr _ _ _ _ _ _ _ _ _,b,h=>by simp[AV.men] at h
 | _,_,.vptr _ _ _ _ _ hb _ _,b,h=>by simp only[AV.men,qOs] at h;rw[h];exact hb
 | _,_,.vsub _ _ _ _ _ _ hb _ _,b,h=>by simp only[AV.men,qOs] at h;rw[h];exact hb
 | _,_,.aptr _ _ _ _ hb _ _,b,h=>by simp only[AV.men,qOs] at h;rw[h];exact hb
 | _,_,.asub _ _ _ _ _ _ _ _ hb _ _ _ _ _,b,h=>by simp only[AV.men,qOs] at h;rw[h];exact hb
 | _,_,.nils,b,h=>by simp[AV.men] at h
 | _,_,.imm _ _ _ _,b,h=>by simp[AV.men] at h
 | _,_,.full _ _ _ _ _,b,h=>by simp[AV.men] at h
 | _,_,.vec _ _ _ _ hb _,b,h=>by simp only[AV.men,qOs] at h;rw[h];exact hb
 | _,_,.nilf,b,h=>by simp[AV.men] at h
 | _,_,.fn _ _ _ _ _ h1 h2,b,h=>by
  simp only[AV.men,qOn] at h;exact h.elim (RepL.inB h1 b) (RepL.inB h2 b)
 | _,_,.agg _ _ h1,b,h=>by simp only[AV.men] at h;exact RepL.inB h1 b h
 | _,_,.tuple _ _ h1,b,h=>by simp only[AV.men] at h;exact RepL.inB h1 b h
 | _,_,.bagg _ _ _ _ _ h1 _,b,h=>by simp only[AV.men] at h;exact RepL.inB h1 b h
theorem RepL.inB{X:Ctx}:∀{l:List AV} {vs:List Value},RepL X l vs->∀b,b∈AV.menL l->b<X.h.length
 | _,_,.nil,b,h=>by simp[AV.menL] at h
 | _,_,.cons h1 h2,b,h=>by
  simp only[AV.menL,qOn] at h;exact h.elim (Rep.inB h1 b) (RepL.inB h2 b)
end
theorem RepLL.inB{X:Ctx}:∀{l:List (List AV)} {vs:List (List Value)},RepLL X l vs->∀b,b∈qnV l->b<X.h.length
 | _,_,.nil,b,h=>by simp[qnV] at h
 | _,_,.cons h1 h2,b,h=>by
  simp only[qnV,qOn] at h;exact h.elim (RepL.inB h1 b) (RepLL.inB h2 b)
theorem qH7{b:Nat}:∀{h:List Blk},b∈qd5 h->∃(i:Nat) (k:Blk),h[i]?=some k/\b∈k.menB
 | [],h=>by cases h
 | k::h,hb=>by
  simp only[qd5,qOn] at hb;rcases hb with hb|hb
  ·exact⟨0,k,rfl,hb⟩
  ·obtain⟨i,k',h1,h2⟩:=qH7 hb;exact⟨i+1,k',by simpa using h1,h2⟩
theorem HSim.inB (hs:HSim B X):∀b,b∈qd5 X.h->b<X.h.length:=by
 intro b hb;obtain⟨i,k,h1,h2⟩:=qH7 hb;have:=hs.blk i k h1;cases k with
 | cells cs=>obtain⟨_,_,_,_,_,hr⟩:=this;exact hr.inB b h2
 | big cs _ _ _=>obtain⟨_,_,_,_,_,_,hr,_⟩:=this;exact hr.inB b h2
 | vec _ _ _=>simp[Blk.menB] at h2
 | frz _ _ _=>simp[Blk.menB] at h2
 | dead=>simp[Blk.menB] at h2
theorem qA0 (hS:E.specs P)(h:qLv E f=some e):qpk P f e:=by
 unfold qLv at h;cases hf:E.dels.find? fun x=>x.1==f with
 | none=>rw[hf] at h;cases h
 | some x=>
  rw[hf] at h;simp only[qOz,qNY] at h;have h1:x.1=f:=by simpa using qPd hf
  have:=hS.dl x (qOU hf);rw[h1,h] at this;exact this
theorem qyW (_:E.tok P)(_:qpk P f e)(_:HSim B X){vargs:List Value}(_:RepL X args vargs){av:AV}{h':List Blk}(h:(qw8 E X.h e args k).run=some (av,h')) (_:X.h[k]?=some .dead) (_:k∉qd5 X.h) :Calls P f vargs.toArray X.w fun x w'=>∃v X',x=.returned v/\X'.w=w'/\Rep X' av v/\HSim B X'/\X'.h=h'/\Move X X' (qcA k):=by unfold qw8 at h;cases h
theorem qNg {args:Array Operand}{tys:Array TypeId}(hop:o.op=.call { callee:=.builtin .append,args:=args,argTypes:=tys }) :∃ty cs,execOp a.eval o=builtin .append tys ty cs ((args.toList.map a.eval).toArray):=by
 have hA:args.map a.eval=(args.toList.map a.eval).toArray:=by apply qPe;simp
 refine⟨o.type,args.map fun|.const _=>true|_=>false,?_⟩;unfold execOp;rw[hop,<-hA];rfl
theorem qpp {xs:List Operand}(h:qoU op=some (f,xs)):∃args tys,op=.call { callee:=.value (.func f),args:=args,argTypes:=tys }/\xs=args.toList:=by
 unfold qoU at h;split at h
 ·cases h;exact⟨_,_,rfl,rfl⟩
 ·cases h
theorem qG8 {args:Array Operand}{tys:Array TypeId}(hop:o.op=.call { callee:=.value (.func f),args:=args,argTypes:=tys })(he:∀args w,(callFunc f args).run P w=.ok (.enter f args) w) {next:Act->World->Prop} {Q:Exit->Act->World->Prop} {K:Value->World->Prop} (hc:Calls P f (args.toList.map a.eval).toArray X.w fun x w'=>∃v,x=.returned v/\K v w')(hq:∀v w',K v w'->next (a.put o.dst v) w'):o.wp P a X.w next Q:=by
 unfold Oper.wp;have hrun:(execOp a.eval o).run P X.w=.ok (.enter f (args.toList.map a.eval).toArray) X.w:=by
  simp only[execOp,hop,resolve,Act.eval,Deferred.ofValue,qO3,qOw,qOa,invoke];have:(#[]:Array Value)++args.map a.eval++#[]=(args.toList.map a.eval).toArray:=by apply qPe;simp
  have h2:=he (args.toList.map a.eval).toArray X.w;rw[<-this] at h2;rw[<-this];exact h2
 rw[hrun];refine hc.mono fun x w' ⟨v,e1,e2⟩=>?_;subst e1;exact hq v w' e2
theorem qwM (hE:E.tok P)(hS:E.specs P){callS:List Blk->q7b}(hs:Sim E B X st a){av:AV}{h':List Blk}(h:(q4w E callS st.h (E.opd st.t) o.op s).run=some (av,h')) (hl:quB E o.op=true) (h1:s∉qd5 st.h) (h2:s∉AV.menL st.t) (h3:s∉qnV st.fs) (n1:st.h.length∉qd5 st.h) (n2:st.h.length∉AV.menL st.t) (n3:st.h.length∉qnV st.fs){next:Act->World->Prop} {Q:Exit->Act->World->Prop} (hq:∀X' v,Sim E B X' { st with h:=h' } a->Rep X' av v->next (a.put o.dst v) X'.w):o.wp P a X.w next Q:=by
 unfold q4w at h;rw[hl] at h;simp only at h;cases hdd:qw2 st.h[s]? with
 | false=>rw[hdd] at h;cases h
 | true=>
  rw[hdd] at h;have hd:=qGM hdd;simp only at h;split at h
  ·
   rename_i t len parts hop;obtain⟨r,k1,k2⟩:=bind_some h;simp only[Tree.run,qNY,qOx] at k2;obtain⟨rfl,rfl⟩:=k2;obtain⟨v0,z⟩:=r;have hvz:v0=.vec st.h.length/\∃e sh l,z=.vec e sh l:=by
    have k1:=k1;rw[hop] at k1;unfold qk9 at k1;simp only at k1;split at k1
    ·split at k1
     ·split at k1
      ·split at k1
       ·split at k1
        ·cases k1;exact⟨rfl,_,_,_,rfl⟩
        ·cases k1
       ·cases k1
      ·cases k1
     ·cases k1
    ·cases k1
   obtain⟨rfl,e,sh,l,rfl⟩:=hvz;refine qjJ (qmc hE hs (qH2 k1)) fun X' v g4 g3 g5=>?_;have s1:Sim E B X' { st with h:=st.h++[.vec e sh l] } a:=hs.ext' g5.2 g4 g5.1;obtain⟨X2,e2,s2,r2⟩:=qD7 s1 g3 hd h1 h2 h3 n1 n2 n3;rw[<-e2];exact hq X2 v s2 r2
  ·
   rename_i t hop;unfold qwP at h;split at h
   case h_2=>cases h
   rename_i z hz;split at h
   case h_2=>cases h
   simp only[Tree.run,qNY,qOx] at h;obtain⟨rfl,rfl⟩:=h;exact qwQ hE hs hop hz hd h1 h2 h3 hq
  ·
   rename_i args tys hop;obtain⟨ty,cs,hrun⟩:=qNg (a:=a) hop;have hargs:=q3T hs args.toList;unfold qAS at h;generalize args.toList.map (E.opd st.t)=als at h hargs;generalize args.toList.map a.eval=avs at hrun hargs;split at h
   case h_2=>cases h
   rename_i t t' sa xa htys;by_cases htt:t=t'
   ·subst htt;rw[if_pos rfl] at h;cases hargs with
    | cons hsa hargs=>cases hargs with
     | cons hxa hargs=>
     cases hargs;rename_i vs vx;have hrun':execOp a.eval o=(do pure (.value (<-Builtin.append_ #[t,t] ty #[vs,vx])):Sem Next):=by rw[hrun];obtain⟨tys⟩:=tys;simp only at htys;subst htys;rfl
     unfold qzs at h;cases htd:(E.ty t).d<;>rw[htd] at h<;>simp only at h<;>first|(cases h;done)|skip
     rename_i e es;obtain⟨ht,rfl⟩:=q0S hE htd;split at h
     case h_2=>cases h
     rename_i sh sh' m hsh hro;by_cases hc:(sh.length=P.cellsOf e/\0<P.cellsOf e/\(E.ty e).zero.length=P.cellsOf e)/\Sh.beqL sh sh'=true
     ·rw[if_pos hc] at h;obtain⟨⟨hc1,hc2,hc4⟩,hbq⟩:=hc;obtain rfl:=Sh.beqL_eq _ _ hbq;obtain⟨i,z,he⟩:=qFS hE hc2 hc4;split at h
      ·
       obtain⟨g1,g2⟩:=brR h;simp only[Tree.run,qNY,qOx] at g2;obtain⟨rfl,rfl⟩:=g2;have hh:(qmf (quq (E.ty e).bytes) X.h e sh .nils xa).run=some (.vec X.h.length,jY X.h xa++[.vec e sh m],none):=by unfold qmf;rw[hs.h,hro];simp only;rw[if_pos hbq];simp only[Tree.run,g1]
       have hg:=qeM (ty:=ty) hs.hs ht hc2 hc1 he hsa hxa hh;rw[<-hrun'] at hg;refine qjJ hg fun X' v g4 g3 g5=>?_;have hfl:(jY st.h xa).length=st.h.length:=zo _ _;have s1:Sim E B X' { st with h:=jY st.h xa++[.vec e sh m] } a:=hs.ext' g5.2 g4 (by rw[g5.1,hs.h]);rw[hs.h,<-hfl] at g3;have hxs:s∉xa.men:=fun hm=>by
        cases xa<;>simp only[vq] at hro<;>first|(cases hro;done)|(simp[AV.men] at hm;done)|skip
        simp only[AV.men,qOs] at hm;subst hm;rw[hd] at hro;cases hro
       obtain⟨X2,e2,s2,r2⟩:=qD7 s1 g3 (by rw[q2V hxs];exact hd) (qmk h1) h2 h3 (by rw[hfl];exact qmk n1) (by rw[hfl];exact n2) (by rw[hfl];exact n3);rw[<-e2];exact hq X2 v s2 r2
      ·
       rename_i b;split at h
       case h_2=>cases h
       rename_i e' sh'' l hbk;by_cases hq2:(Sh.beqL sh sh''=true/\e=e')/\qCJ b xa=true
       ·rw[if_pos hq2] at h;obtain⟨⟨hbq2,rfl⟩,hnv⟩:=hq2;obtain rfl:=Sh.beqL_eq _ _ hbq2;obtain⟨g1,g2⟩:=brR h;simp only[Tree.run,qNY,qOx] at g2;obtain⟨rfl,rfl⟩:=g2;have hbx:=qEP hro hnv;have hxs:s∉xa.men:=fun hm=>by
         cases xa<;>simp only[vq] at hro<;>first|(cases hro;done)|(simp[AV.men] at hm;done)|skip
         simp only[AV.men,qOs] at hm;subst hm;rw[hd] at hro;cases hro
        have hbs:b≠s:=fun he=>by rw[he,hd] at hbk;cases hbk
        have hb':X.h[b]?=some (.vec e sh l):=by rw[hs.h];exact hbk
        have hd':X.h[s]?=some .dead:=by rw[hs.h];exact hd
        obtain⟨a1,a2,a3⟩:=qwh hs.hs hb' hd' (by rw[hs.h];exact h1);have hbl:=qo hbk;have hsl:=qo hd;have ag:∀x,(X.alias b s (.vec e sh l)).h[x]?=if x=s then some (.vec e sh l) else if x=b then some .dead else st.h[x]?:=fun x=>by rw[qz7 (by rw[hs.h];exact hbl) (by rw[hs.h];exact hsl),hs.h]
        have hxr:vq (X.alias b s (.vec e sh l)).h xa=some (sh,m):=by rw[qz3 (h:=st.h) fun c hc=>by have z1:c≠s:=fun e=>hxs (e▸hc);have z2:c≠b:=fun e=>hbx (e▸hc);rw[ag,if_neg z1,if_neg z2]];exact hro
        have hxrep:Rep (X.alias b s (.vec e sh l)) xa vx:=by
         have:=hxa.ren a2.toMove0
         rwa [AV.ren_void xa hxs] at this
        have hfin:(jY (X.alias b s (.vec e sh l)).h xa).set s (.vec e sh (zD l m))=((jY st.h xa).set b .dead).set s (.vec e sh (zD l m)):=by
         apply qOR;intro x;by_cases x1:x=s
         ·subst x1;rw[qOc (by rw[zo];simp[Ctx.alias,hs.h];exact hsl),qOc (by simp[zo];exact hsl)]
         ·rw[qO1 (fun e=>x1 e.symm),qO1 (fun e=>x1 e.symm)];by_cases x2:x=b
          ·subst x2;rw[qOc (by rw[zo];exact hbl),q2V hbx,ag,if_neg x1,if_pos rfl]
          ·rw[qO1 (fun e=>x2 e.symm)];cases xa<;>first|(show (X.alias b s (.vec e sh l)).h[x]?=st.h[x]?;rw[ag,if_neg x1,if_neg x2];done)|skip
           rename_i b';have y1:b'≠s:=fun e=>hxs (by simp[AV.men,e]);have y2:b'≠b:=fun e=>hbx (by simp[AV.men,e]);have y3:=ag b';rw[if_neg y1,if_neg y2] at y3;unfold jY zE;simp only[y3];cases hk:st.h[b']? with
           | none=>simp only;rw[ag,if_neg x1,if_neg x2]
           | some k=>
            cases k<;>simp only<;>first|(rw[ag,if_neg x1,if_neg x2];done)|skip
            by_cases x3:x=b'
            ·subst x3;rw[qOc (by simp[Ctx.alias,hs.h];exact qo hk),qOc (qo hk)]
            ·rw[qO1 (fun e=>x3 e.symm),qO1 (fun e=>x3 e.symm),ag,if_neg x1,if_neg x2]
        have hh:(qmf (quq (E.ty e).bytes) (X.alias b s (.vec e sh l)).h e sh (.vec s) xa).run=some (.vec s,(jY (X.alias b s (.vec e sh l)).h xa).set s (.vec e sh (zD l m)),some s):=by
         unfold qmf;rw[hxr];simp only;rw[if_pos hbq,ag,if_pos rfl];simp only;rw[if_pos ⟨hbq,trivial⟩];unfold qGI;cases xa<;>simp only[jY]<;>first|(simp only[Tree.run,g1];done)|skip
         rename_i b';rw[if_neg (fun e=>hxs (by simp[AV.men,<-e]))];simp only[Tree.run,g1]
        have hg:=qeM (ty:=ty) a1 ht hc2 hc1 he (a3 _ hsa) hxrep hh;rw[<-hrun'] at hg;have hg':qJ P B (X.alias b s (.vec e sh l)) (execOp a.eval o) (.vec s,(jY (X.alias b s (.vec e sh l)).h xa).set s (.vec e sh (zD l m)),some s):=hg;have s0:=hs.moved a1 a2 h2 h3;have hw:(X.alias b s (.vec e sh l)).w=X.w:=rfl;rw[<-hw];refine qjJ hg' fun X' v g4 g3 g5=>?_;obtain⟨g5,g6⟩:=g5;simp only at g5 g6;rw[hfin,qI5 (qnS rfl (qnS rfl (qmk h1)))] at g5;have s1:=s0.moved g4 g6 h2 h3;have:({ ({ st with h:=(X.alias b s (.vec e sh l)).h }:St) with h:=X'.h }:St)={ st with h:=((jY st.h xa).set b .dead).set s (.vec e sh (zD l m)) }:=by rw[g5]
        rw[this] at s1;exact hq X' v s1 g3
       ·rw[if_neg hq2] at h;cases h
      ·
       rename_i sh'' l;split at h
       case isFalse=>cases h
       rename_i hbq2;obtain⟨g0,h⟩:=brR h;obtain⟨g1,g2⟩:=brR h;simp only[Tree.run,qNY,qOx] at g2;obtain⟨rfl,rfl⟩:=g2;have hh:(qmf (quq (E.ty e).bytes) X.h e sh (.full sh'' l) xa).run=some (.vec X.h.length,jY X.h xa++[.vec e sh (zD l m)],none):=by unfold qmf;rw[hs.h,hro];simp only;rw[if_pos hbq,if_pos hbq2];simp only[Tree.run,g0,g1]
       have hg:=qeM (ty:=ty) hs.hs ht hc2 hc1 he hsa hxa hh;rw[<-hrun'] at hg;refine qjJ hg fun X' v g4 g3 g5=>?_;have hfl:(jY st.h xa).length=st.h.length:=zo _ _;have s1:Sim E B X' { st with h:=jY st.h xa++[.vec e sh (zD l m)] } a:=hs.ext' g5.2 g4 (by rw[g5.1,hs.h]);rw[hs.h,<-hfl] at g3;have hxs:s∉xa.men:=fun hm=>by
        cases xa<;>simp only[vq] at hro<;>first|(cases hro;done)|(simp[AV.men] at hm;done)|skip
        simp only[AV.men,qOs] at hm;subst hm;rw[hd] at hro;cases hro
       obtain⟨X2,e2,s2,r2⟩:=qD7 s1 g3 (by rw[q2V hxs];exact hd) (qmk h1) h2 h3 (by rw[hfl];exact qmk n1) (by rw[hfl];exact n2) (by rw[hfl];exact n3);rw[<-e2];exact hq X2 v s2 r2
      ·cases h
     ·rw[if_neg hc] at h;cases h
   ·rw[if_neg htt] at h;cases h
  ·
   rename_i _ _ hno;clear hno;unfold qxz at h;split at h
   case h_2=>cases h
   rename_i f xs hcf;obtain⟨args,tys,hop,rfl⟩:=qpp hcf;have hargs:=q3T hs args.toList;split at h
   ·rename_i e hdf;have hD:=qA0 hS hdf;rw[<-hs.h] at h hd h1;refine qG8 hop hD.1 (K:=fun v w'=>∃X',X'.w=w'/\Rep X' av v/\HSim B X'/\X'.h=h'/\Move X X' (qcA s)) ((qyW hE hD hs.hs hargs h hd h1).mono fun x w' ⟨v,X',e0,e1,e2,e3,e4,e5⟩=>⟨v,e0,X',e1,e2,e3,e4,e5⟩) fun v w' ⟨X',e1,e2,e3,e4,e5⟩=>?_;subst e1;have:=hs.moved e3 e5 h2 h3;rw[e4] at this;exact hq X' v this e2
   ·unfold qHz at h;split at h
    case h_2=>cases h
    rename_i G hf;split at h
    case h_2=>cases h
    rename_i hme;obtain⟨r,k1,k2⟩:=bind_some h;split at k2
    case h_2=>cases k2
    rename_i e sh l;simp only[Tree.run,qNY,qOx] at k2;obtain⟨rfl,rfl⟩:=k2;have hG:=hS.sp G (qOU hf);have hfe:G.1=f:=by simpa using qPd hf
    rw[hfe] at hG;generalize args.toList.map (E.opd st.t)=azz at *;have hmen:AV.menL (AV.lendL (qF st.h (azz.flatMap zP)) azz)=[]:=by simpa using hme
    have hcs:(q0F G.2 azz st).run=some (.vec (qF st.h (azz.flatMap zP)).length,{ st with h:=qF st.h (azz.flatMap zP)++[.vec e sh l] }):=by
     unfold q0F;have hpr:vg st.h azz=qF st.h (azz.flatMap zP):=by unfold vg;simp only[hmen,q7Q,qF,qbM]
     simp only[hpr,hmen,qm2,q6i];rw[AV.renL_of_men _ _ hmen,Tree.run_bind,k1];simp only[qOp,q0M,qOJ,List.drop_zero,qP5,List.map_nil];rfl
    have hfl:=jN (azz.flatMap zP) st.h;refine qG8 hop hG.1 (K:=fun v w'=>∃X',X'.w=w'/\Rep X' (.vec (qF st.h (azz.flatMap zP)).length) v/\Sim E B X' { st with h:=qF st.h (azz.flatMap zP)++[.vec e sh l] } a) ((q7J hG hs hargs hcs).mono fun x w' ⟨v,X',e1,e2,e3,e4⟩=>⟨v,e1,X',e2,e3,e4⟩) fun v w' ⟨X',e1,e2,e3⟩=>?_;subst e1;obtain⟨X2,e4,s2,r2⟩:=qD7 e3 e2 (qpC _ hd) (qj1 _ h1) h2 h3 (by rw[hfl];exact qj1 _ n1) (by rw[hfl];exact n2) (by rw[hfl];exact n3);rw[<-e4];exact hq X2 v s2 r2
def qej(w:List Nat)(k h:List Blk):List Blk:=h.mapIdx fun b x=>if b∈w then k.getD b .dead else x
theorem qEk (w:List Nat)(k h:List Blk):(qej w k h).length=h.length:=by simp[qej]
theorem qjx {w:List Nat}{k h:List Blk}(hb:b∉w):(qej w k h)[b]?=h[b]?:=by
 unfold qej;rw[List.getElem?_mapIdx];cases h[b]? with
 | none=>rfl
 | some x=>simp[hb]
theorem qit {w:List Nat}{k h:List Blk}(hb:b∈w)(hk:k.length=h.length):(qej w k h)[b]?=k[b]?:=by
 unfold qej;rw[List.getElem?_mapIdx];rcases qO6 b h.length with hl|hl
 ·rw[qO5 hl,qO5 (hk▸hl)];simp[hb,qO5 (hk▸hl)]
 ·rw[qOl hl,qOl (by omega)];rfl
theorem q26 {w:List Nat}{k h k':List Blk}(hk:k.length=h.length)(h1:∀b,b∈w->k'[b]?=k[b]?)(h2:∀b,b∉w->k'[b]?=h[b]?):k'=qej w k h:=by
 apply qOR;intro b;by_cases hb:b∈w
 ·rw[h1 b hb,qit hb hk]
 ·rw[h2 b hb,qjx hb]
theorem qx9 {callS:List Blk->q7b}{f g:Operand->AV}(hfg:∀x∈op.operands.toList,f x=g x):q4w E callS h f op k=q4w E callS h g op k:=by
 unfold q4w;cases hl:quB E op with
 | false=>simp only;rw[qx6 hfg,(qrk hfg).1,(qrk hfg).2]
 | true=>
  simp only;cases qw2 h[k]? with
  | false=>rfl
  | true=>
   simp only;split
   ·rw[qz6 hfg]
   ·rfl
   ·rename_i args tys;have:args.toList.map f=args.toList.map g:=qPa fun y hy=>hfg y (by simpa[Op.operands,Call.operands] using hy);rw[this]
   ·unfold qxz;cases hc:qoU op with
    | none=>rfl
    | some q=>
     obtain⟨fn,xs⟩:=q;obtain⟨args,tys,rfl,rfl⟩:=qpp hc;have:args.toList.map f=args.toList.map g:=qPa fun y hy=>hfg y (by simp[Op.operands,Call.operands];exact .inr (by simpa using hy));simp only[this]
theorem qAN {h h':List Blk}{ev:Operand->AV}{t:TypeId}{len:Nat}{ps:Array (Nat×Operand)}(hl:h'.length=h.length):qk9 E h' ev (.buildSlice t len ps)=qk9 E h ev (.buildSlice t len ps):=by
 unfold qk9;simp only;split
 ·split
  ·split
   ·split
    ·rename_i hc;rw[qsY (h':=h) _ _ hc.2,hl]
    ·rfl
   ·rfl
  ·rfl
 ·rfl
theorem qGW {h h':List Blk}{x:AV}{c:Nat}(H:∀b,b∈x.men->h'[b]?=h[b]?)(hc:h'[c]?=h[c]?)(hl:h'.length=h.length):(jY h' x)[c]?=(jY h x)[c]?:=by
 cases x<;>first|exact hc|skip
 rename_i b;have hb:=H b (by simp[AV.men]);show (zE h' b)[c]?=(zE h b)[c]?;unfold zE;rw[hb];split
 ·rename_i e sh l hv;by_cases hcb:c=b
  ·subst hcb;rw[qOc (by rw[hl];exact qo hv),qOc (qo hv)]
  ·rw[qO1 (fun e=>hcb e.symm),qO1 (fun e=>hcb e.symm)];exact hc
 ·exact hc
theorem qzo {h h':List Blk}{t:TypeId}{s x u:AV}{r:List Blk}{R:List Nat}(hR:∀b,(b=k\/b∈s.men\/b∈x.men)->b∈R)(H:∀b,b∈R->h'[b]?=h[b]?)(hl:h'.length=h.length)(hr:(qzs E h t s x k).run=some (u,r)):r.length=h.length/\(∀b,b∉R->r[b]?=h[b]?)/\∃r',(qzs E h' t s x k).run=some (u,r')/\r'.length=h.length/\(∀b,b∉R->r'[b]?=h'[b]?)/\(∀b,b∈R->r'[b]?=r[b]?):=by
 have hk:∀b,b∉R->b≠k:=fun b hb e=>hb (hR b (.inl e));have hx:∀b,b∉R->b∉x.men:=fun b hb e=>hb (hR b (.inr (.inr e)));have hro:vq h' x=vq h x:=qz3 fun b hb=>H b (hR b (.inr (.inr hb)));have hfa:∀c,c∈R->(jY h' x)[c]?=(jY h x)[c]?:=fun c hc=>qGW (fun b hb=>H b (hR b (.inr (.inr hb)))) (H c hc) hl;unfold qzs at hr ⊢;cases htd:(E.ty t).d<;>rw[htd] at hr<;>simp only at hr ⊢<;>first|(cases hr;done)|skip
 rename_i e es;rw[hro];split at hr
 case h_2=>cases hr
 rename_i sh sh' m hsh hrw;split at hr
 case isFalse=>cases hr
 rename_i hc;split at hr
 ·
  obtain⟨g1,g2⟩:=brR hr;simp only[Tree.run,qNY,qOx] at g2;obtain⟨rfl,rfl⟩:=g2;refine⟨by simp[zo],fun b hb=>?_,(jY h' x).set k (.vec e sh m),?_,by simp[zo,hl],fun b hb=>?_,fun b hb=>?_⟩
  ·rw[qO1 (fun e=>hk b hb e.symm),q2V (hx b hb)]
  ·simp only[if_pos hc,Tree.run,g1]
  ·rw[qO1 (fun e=>hk b hb e.symm),q2V (hx b hb)]
  ·exact qhH (by simp[zo,hl]) fun _=>hfa b hb
 ·rename_i b0;split at hr
  case h_2=>cases hr
  rename_i e' sh'' l hbk;split at hr
  case isFalse=>cases hr
  rename_i hq;obtain⟨g1,g2⟩:=brR hr;simp only[Tree.run,qNY,qOx] at g2;obtain⟨rfl,rfl⟩:=g2;have hb0:b0∈R:=hR b0 (.inr (.inl (by simp[AV.men])));have hs:∀b,b∉R->b≠b0:=fun b hb e=>hb (e▸hb0);refine⟨by simp[zo],fun b hb=>?_,((jY h' x).set b0 .dead).set k (.vec e sh (zD l m)),?_,by simp[zo,hl],fun b hb=>?_,fun b hb=>?_⟩
  ·rw[qO1 (fun e=>hk b hb e.symm),qO1 (fun e=>hs b hb e.symm),q2V (hx b hb)]
  ·simp only[if_pos hc,H b0 hb0,hbk,if_pos hq,Tree.run,g1]
  ·rw[qO1 (fun e=>hk b hb e.symm),qO1 (fun e=>hs b hb e.symm),q2V (hx b hb)]
  ·exact qhH (by simp[zo,hl]) fun _=>qhH (by simp[zo,hl]) fun _=>hfa b hb
 ·
  rename_i sh'' l;split at hr
  case isFalse=>cases hr
  rename_i hq;obtain⟨g0,hr⟩:=brR hr;obtain⟨g1,g2⟩:=brR hr;simp only[Tree.run,qNY,qOx] at g2;obtain⟨rfl,rfl⟩:=g2;refine⟨by simp[zo],fun b hb=>?_,(jY h' x).set k (.vec e sh (zD l m)),?_,by simp[zo,hl],fun b hb=>?_,fun b hb=>?_⟩
  ·rw[qO1 (fun e=>hk b hb e.symm),q2V (hx b hb)]
  ·simp only[if_pos hc,if_pos hq,Tree.run,g0,g1]
  ·rw[qO1 (fun e=>hk b hb e.symm),q2V (hx b hb)]
  ·exact qhH (by simp[zo,hl]) fun _=>hfa b hb
 ·cases hr
theorem qti (l m:List AV):AV.menL (l++m)=AV.menL l++AV.menL m:=by
 induction l with
 | nil=>rfl
 | cons a l ih=>simp only[qPo,AV.menL,ih,qOu]
theorem qAg {h h':List Blk}{u:AV}{r:List Blk}{R:List Nat}(_:∀b,(b=k\/b∈AV.menL args)->b∈R)(_:∀b,b∈R->h'[b]?=h[b]?)(_:h'.length=h.length)(hr:(qw8 E h e args k).run=some (u,r)):r.length=h.length/\(∀b,b∉R->r[b]?=h[b]?)/\∃r',(qw8 E h' e args k).run=some (u,r')/\(∀b,b∉R->r'[b]?=h'[b]?)/\(∀b,b∈R->r'[b]?=r[b]?):=by unfold qw8 at hr;cases hr
theorem qIf {h h':List Blk}{ev:Operand->AV}{R:List Nat}(hR:qLB E ev op=some R)(H:∀b,b∈R->h'[b]?=h[b]?):qmE E h' ev op=qmE E h ev op:=by
 unfold qmE;unfold qLB at hR;cases hv:qhq op with
 | false=>rfl
 | true=>
  rw[hv] at hR;simp only at hR ⊢;cases hc:jr ev op with
  | none=>rfl
  | some q=>
   obtain⟨f,args⟩:=q;rw[hc] at hR;simp only at hR ⊢;cases hs:qhQ E f with
   | none=>rfl
   | some G=>
    rw[hs] at hR;simp only[qNY] at hR ⊢;subst hR;rw[q1A args H];have:(args.flatMap zP).all (qlq h')=(args.flatMap zP).all (qlq h):=qBD fun b hb=>by unfold qlq;rw[H b (qxK hb)]
    rw[this]
theorem qxQ {callS:List Blk->q7b}(hmo:q5o E callS){h h':List Blk}{ev:Operand->AV}{u:AV}{r:List Blk}{R:List Nat}(hR:(vC E h ev op k u r).r=some R)(H:∀b,b∈R->h'[b]?=h[b]?) (hl:h'.length=h.length) (hr:(q4w E callS h ev op k).run=some (u,r)) :r.length=h.length/\(∀b,b∉(vC E h ev op k u r).w->r[b]?=h[b]?)/\(q4w E callS h' ev op k).run=some (u,qej (vC E h ev op k u r).w r h'):=by
 unfold q4w vC at *;cases hloc:quB E op with
 | false=>
  rw[hloc] at hr hR;simp only at hr hR ⊢;cases heff:qmE E h ev op with
  | true=>
   rw[heff] at hr hR;simp only[qNY] at hr hR ⊢;subst hR;obtain⟨q,k1,k2⟩:=bind_some hr;split at k2
   case h_2=>cases k2
   rename_i hbq;cases k2;have hg:=qP0 hbq;obtain⟨g',q1,q2,q3,q4⟩:=qAM k1 hl H hg;have heff':qmE E h' ev op=true:=qII heff H;refine⟨hg,fun b hb=>?_,?_⟩
   ·rcases qO6 b h.length with hlt|hge
    ·exact qrY k1 hlt hb
    ·rw[qOl hge,qOl (by simp only at hg;omega)]
   ·rw[heff'];simp only;rw[Tree.run_bind,q1];simp only[qOp];rw[show Nat.beq g'.length h'.length=true from by rw[q2];exact Nat.beq_refl _];simp only[Tree.run];rw[<-q26 (k':=g') (by simp only at hg;omega) q3 q4]
  | false=>
   rw[heff] at hr hR;simp only at hr hR ⊢;obtain⟨v,k1,k2⟩:=bind_some hr;simp only[Tree.run,qNY,qOx] at k2;obtain⟨rfl,rfl⟩:=k2;refine⟨rfl,fun _ _=>rfl,?_⟩;rw[qIf hR H,heff];simp only;rw[Tree.run_bind,qza hmo hR H k1];simp only[qOp,Tree.run];rw[<-q26 (k':=h') hl.symm (fun b hb=>by cases hb) (fun _ _=>rfl)]
 | true=>
  rw[hloc] at hr hR;simp only[qNY] at hr hR ⊢;subst hR;have hk:=H k qOm;cases hdd:qw2 h[k]? with
  | false=>rw[hdd] at hr;cases hr
  | true=>
   rw[hdd] at hr;rw[hk,hdd];simp only at hr ⊢;split at hr
   ·rename_i t len parts;obtain⟨q,k1,k2⟩:=bind_some hr;simp only[Tree.run,qNY,qOx] at k2;obtain⟨rfl,rfl⟩:=k2;refine⟨by simp,fun b hb=>?_,?_⟩
    ·simp only[qOj,not_or] at hb;rw[qO1 (fun e=>hb.1 e.symm)]
    ·rw[qAN hl,Tree.run_bind,k1];simp only[qOp,Tree.run];rw[<-q26 (k':=h'.set k q.2) (by simp[hl]) (fun b hb=>qhH hl fun _=>H b hb) (fun b hb=>by simp only[qOj,not_or] at hb;rw[qO1 (fun e=>hb.1 e.symm)])]
   ·rename_i t;unfold qwP at hr ⊢;split at hr
    case h_2=>cases hr
    split at hr
    case h_2=>cases hr
    simp only[Tree.run,qNY,qOx] at hr;obtain⟨rfl,rfl⟩:=hr;rename_i _ z hz _ hzm;refine⟨by simp,fun b hb=>?_,?_⟩
    ·simp only[qOj,not_or] at hb;rw[qO1 (fun e=>hb.1 e.symm)]
    ·simp only[Tree.run];rw[<-q26 (k':=h'.set k z) (by simp[hl]) (fun b hb=>qhH hl fun _=>H b hb) (fun b hb=>by simp only[qOj,not_or] at hb;rw[qO1 (fun e=>hb.1 e.symm)])]
   ·rename_i args tys;have hmen:qv6 ev (.call { callee:=.builtin .append,args:=args,argTypes:=tys })=AV.menL (args.toList.map ev):=by unfold qv6 jr;simp[Op.operands,Call.operands]
    rw[hmen] at H ⊢;unfold qAS at hr ⊢;generalize args.toList.map ev=als at *;split at hr
    case h_2=>cases hr
    rename_i t t' sa xa htys;split at hr
    case isFalse=>cases hr
    rename_i htt;have hR':∀b,(b=k\/b∈sa.men\/b∈xa.men)->b∈k::AV.menL [sa,xa]:=by intro b hb;simp only[AV.menL,qOZ,qOj,qOn];exact hb
    obtain⟨q1,q2,r',q3,q4,q5,q6⟩:=qzo hR' H hl hr;refine⟨q1,q2,?_⟩;simp only[if_pos htt];rw[q3,<-q26 (k':=r') (by rw[q1,hl]) q6 q5]
   ·unfold qxz at hr ⊢;cases hc:qoU op with
    | none=>rw[hc] at hr;cases hr
    | some q=>
    obtain⟨fn,xs⟩:=q;rw[hc] at hr;obtain⟨args,tys,rfl,rfl⟩:=qpp hc;have hmen:qv6 ev (.call { callee:=.value (.func fn),args:=args,argTypes:=tys })=AV.menL (args.toList.map ev)\/AV.menL (args.toList.map ev) ⊆ qv6 ev (.call { callee:=.value (.func fn),args:=args,argTypes:=tys }):=by
     right;unfold qv6;cases hco:jr ev (.call { callee:=.value (.func fn),args:=args,argTypes:=tys }) with
     | none=>
      simp only[Op.operands,Call.operands,qQ0,qOk];intro b hb;rw[qti];exact qOH _ hb
     | some q=>
      obtain⟨g,azz⟩:=q;unfold jr at hco;simp only at hco;split at hco
      ·cases hco;intro b hb;simp only[qti];exact qOT _ (qOH _ hb)
      ·cases hco
    have hsub:∀b,b∈AV.menL (args.toList.map ev)->b∈k::qv6 ev (.call { callee:=.value (.func fn),args:=args,argTypes:=tys }):=by
     intro b hb;rcases hmen with e|e
     ·rw[e];exact qOo _ hb
     ·exact qOo _ (e hb)
    generalize qv6 ev (.call { callee:=.value (.func fn),args:=args,argTypes:=tys })=M at *;simp only at hr ⊢;split at hr
    ·rename_i e hde;obtain⟨q1,q2,r',q3,q4,q5⟩:=qAg (R:=k::M) (fun b hb=>hb.elim (fun e=>e▸qOm) (hsub b)) H hl hr;refine⟨q1,q2,?_⟩;rw[q3,<-q26 (k':=r') (by rw[q1,hl]) q5 q4]
    ·unfold qHz at hr ⊢;split at hr
     case h_2=>cases hr
     split at hr
     case h_2=>cases hr
     rename_i hme;obtain⟨q,k1,k2⟩:=bind_some hr;split at k2
     case h_2=>cases k2
     rename_i e sh l;simp only[Tree.run,qNY,qOx] at k2;obtain⟨rfl,rfl⟩:=k2;have hfr:∀c,c∈k::M->(qF h' ((args.toList.map ev).flatMap zP))[c]?=(qF h ((args.toList.map ev).flatMap zP))[c]?:=fun c hc=>qjA _ _ _ hl (H c hc);have hle:=q1A (args.toList.map ev) fun b hb=>hfr b (hsub b hb);have out:∀(g:List Blk) (c:Nat),c∉k::M->((qF g ((args.toList.map ev).flatMap zP)).set k (.vec e sh l))[c]?=g[c]?:=fun g c hc'=>by rw[qO1 (fun e'=>hc' (by rw[<-e'];exact qOm)),qfs _ _ fun hm=>hc' (hsub c (qxK hm))]
     refine⟨by simp[jN],out h,?_⟩;rw[hle,hme];simp only;rw[Tree.run_bind,k1];simp only[qOp,Tree.run];rw[<-q26 (k':=(qF h' ((args.toList.map ev).flatMap zP)).set k (.vec e sh l)) (by simp[jN,hl]) (fun c hc'=>qhH (by simp[jN,hl]) fun _=>hfr c hc') (out h')]
def inR(r:Option (List Nat))(b:Nat):Prop:=∀R,r=some R->b∈R
theorem qzl {callS:List Blk->q7b}{h g:List Blk}{ev:Operand->AV}{u:AV}(hR:(vC E h ev op k u g).r=none)(hr:(q4w E callS h ev op k).run=some (u,g)):(vC E h ev op k u g).w=[]/\g=h:=by
 unfold vC at *;unfold q4w at hr;cases hl:quB E op with
 | true=>rw[hl] at hR;cases hR
 | false=>
  rw[hl] at hR hr;simp only at hR hr ⊢;cases he:qmE E h ev op with
  | true=>rw[he] at hR;cases hR
  | false=>
   rw[he] at hr;obtain⟨v,k1,k2⟩:=bind_some hr;cases k2;exact⟨rfl,rfl⟩
theorem qkC {callS:List Blk->q7b}(hmo:q5o E callS){h h':List Blk}{ev:Operand->AV}{u:AV}{r:List Blk}(H:∀b,inR (vC E h ev op k u r).r b->h'[b]?=h[b]?) (hl:h'.length=h.length) (hr:(q4w E callS h ev op k).run=some (u,r)) :r.length=h.length/\(∀b,b∉(vC E h ev op k u r).w->r[b]?=h[b]?)/\(q4w E callS h' ev op k).run=some (u,qej (vC E h ev op k u r).w r h'):=by
 cases hR:(vC E h ev op k u r).r with
 | some R=>exact qxQ hmo hR (fun b hb=>H b fun R' e=>by rw[hR] at e;cases e;exact hb) hl hr
 | none=>
  have e:h'=h:=qOR fun b=>H b fun R e=>by rw[hR] at e;cases e
  subst e;obtain⟨hw,hg⟩:=qzl hR hr;rw[hw];have:qej [] r h'=r:=by rw[hg];exact(q26 (k':=h') rfl (fun _ hb=>by cases hb) fun _ _=>rfl).symm
  rw[this];exact⟨by rw[hg],fun b _=>by rw[hg],hr⟩
theorem qA8 (_:E.tok P)(_:qpk P f e)(_:Sim E B X st a){vargs:List Value}(_:RepL X args vargs){r:AV×St}(h:(qGZ E e args st).run=some r):Calls P f vargs.toArray X.w fun x w'=>∃v X',x=.returned v/\X'.w=w'/\Rep X' r.1 v/\Sim E B X' r.2 a:=by unfold qGZ at h;cases h
end Go.Eng

namespace Go.Eng
variable {E:Env}{k:Nat}{op:Op}
inductive LocOK (E:Env) (callS:List Blk->q7b) (all:Array Oper) (c:Nat) (i:Nat) (o:Oper) (T:List AV) (v:AV) (h h':List Blk) (d:Option LDesc):Prop
 | out (h1:q66 all o T=some false) (h2:v=.skip) (h3:h'=h) (h4:d=none)
 | op (u:AV) (h1:q66 all o T=some true) (h2:(q4w E callS h (E.opd T) o.op c).run=some (u,h')) (h3:v=qAH all i u) (h4:d=some (vC E h (E.opd T) o.op c u h'))
   (h5:∀b,b∈(vC E h (E.opd T) o.op c u h').v->b<h.length)
theorem qHp {h g:List Blk}{ev:Operand->AV}{u:AV}{b:Nat}(hb:b∈u.men):b∈(vC E h ev op k u g).v:=by
 unfold vC;split
 ·exact qOT _ hb
 ·split
  ·exact qOT _ hb
  ·exact hb
theorem qHu {h g:List Blk}{ev:Operand->AV}{u:AV}{b c:Nat}{z:Blk}(hb:b∈(vC E h ev op k u g).w)(hz:g[b]?=some z)(hc:c∈z.menB):c∈(vC E h ev op k u g).v:=by
 unfold vC at *;split at hb
 ·exact qOH _ (qna hz hc _ hb)
 ·split at hb
  ·exact qOH _ (qna hz hc _ hb)
  ·cases hb
theorem qAr {h g:List Blk}{ev:Operand->AV}{u:AV}(hl:quB E op=true):(vC E h ev op k u g).s=some k:=by unfold vC;rw[hl]
theorem qwj{E:Env}{callS:List Blk->q7b}{all:Array Oper}{anc:List Nat}:∀(l:List Oper) (k c:Nat) (ds:List (Nat×LDesc)) (st st':St),
  (qAE E callS all anc k l c ds st).run=some st' ->
  ∃(V:Nat->AV) (H:Nat->List Blk) (D:Nat->Option LDesc) (S:Nat->Nat),(∀j,c<=S (k+j))/\H k=st.h/\st'={ st with t:=qe3 V k l st.t,h:=H (k+l.length) } /\
   (∀j o,l[j]?=some o->LocOK E callS all (S (k+j)) (k+j) o (qe3 V k (l.take j) st.t) (V (k+j)) (H (k+j)) (H (k+j+1)) (D (k+j))) /\
   (∀j d,j<l.length->D (k+j)=some d->∀x,x∈ds->qib anc x (k+j) d=true) /\
   (∀j j' d d',j<j'->j'<l.length->D (k+j)=some d->D (k+j')=some d'->qib anc (k+j,d) (k+j') d'=true)
 | [],k,c,ds,st,st',h=>by
  simp only[qAE,Tree.run,qNY] at h;subst h;exact⟨fun _=>.undef,fun _=>st.h,fun _=>none,fun _=>c,fun _=>qO0 _,rfl,rfl,fun j o hj=>by simp at hj,fun j d hj=>by simp at hj,fun j j' _ _ _ hj=>by simp at hj⟩
 | o::rest,k,c,ds,st,st',h=>by
  have fin:∀(v:AV) (h':List Blk) (d:Option LDesc) (c':Nat) (ds':List (Nat×LDesc)),c<=c'->LocOK E callS all c k o st.t v st.h h' d->(∀d0,d=some d0->∀x,x∈ds->qib anc x k d0=true)->(∀x,x∈ds->x∈ds')->(∀d0,d=some d0->(k,d0)∈ds') ->
    (qAE E callS all anc (k+1) rest c' ds' { st with t:=qkf st.t o.dst v,h:=h' }).run=some st' ->
    ∃(V:Nat->AV) (H:Nat->List Blk) (D:Nat->Option LDesc) (S:Nat->Nat),(∀j,c<=S (k+j))/\H k=st.h/\st'={ st with t:=qe3 V k (o::rest) st.t,h:=H (k+(o::rest).length) } /\
   (∀j o',(o::rest)[j]?=some o'->LocOK E callS all (S (k+j)) (k+j) o' (qe3 V k ((o::rest).take j) st.t) (V (k+j)) (H (k+j)) (H (k+j+1)) (D (k+j))) /\
   (∀j d,j<(o::rest).length->D (k+j)=some d->∀x,x∈ds->qib anc x (k+j) d=true) /\
   (∀j j' d d',j<j'->j'<(o::rest).length->D (k+j)=some d->D (k+j')=some d'->qib anc (k+j,d) (k+j') d'=true):=by
   intro v h' d c' ds' hcc hmx hcr hds hd hr;obtain⟨V,H,D,S,e0,e1,e2,e3,e4,e5⟩:=qwj rest (k+1) c' ds' _ st' hr;have hfold:∀(l:List Oper) (t:List AV),qe3 (fun j=>if j=k then v else V j) (k+1) l t=qe3 V (k+1) l t:=fun l t=>qsc l (k+1) t fun j hj=>if_neg (by omega);refine⟨fun j=>if j=k then v else V j,fun j=>if j=k then st.h else H j,fun j=>if j=k then d else D j,fun j=>if j=k then c else S j,fun j=>?_,by simp,?_,?_,?_,?_⟩
   ·cases j with
    | zero=>simp
    | succ j=>
     have:=e0 j;simp only[show k+(j+1)=k+1+j by omega,show ¬k+1+j=k by omega,if_false];omega
   ·rw[e2];simp only[qe3,if_true,qOt];rw[hfold,if_neg (by omega),show k+(rest.length+1)=k+1+rest.length by omega]
   ·intro j o' hj;cases j with
    | zero=>
     simp only[qPf,qNY] at hj;subst hj;simp only[qOQ,if_true,List.take_zero,qe3];rw[if_neg (by omega),e1];exact hmx
    | succ j=>
     have:=e3 j o' (by simpa using hj);simp only[List.take_succ_cons,qe3,if_true];rw[hfold,show k+(j+1)=k+1+j by omega,if_neg (by omega),if_neg (by omega),if_neg (by omega),if_neg (by omega),if_neg (by omega)];exact this
   ·intro j d0 hj hdj x hx;cases j with
    | zero=>simp only[qOQ,if_true] at hdj ⊢;exact hcr d0 hdj x hx
    | succ j=>
     simp only at hdj;rw[show k+(j+1)=k+1+j by omega,if_neg (by omega)] at hdj;have:=e4 j d0 (by simpa using hj) hdj x (hds x hx);rw[show k+(j+1)=k+1+j by omega];exact this
   ·intro j j' d0 d0' hjj hj' hdj hdj';obtain⟨j'',rfl⟩:∃x,j'=x+1:=⟨j'-1,by omega⟩;have hl:j''<rest.length:=by simpa using hj'
    simp only at hdj hdj';rw[show k+(j''+1)=k+1+j'' by omega,if_neg (by omega)] at hdj';rw[show k+(j''+1)=k+1+j'' by omega];cases j with
    | zero=>
     simp only[qOQ,if_true] at hdj ⊢;exact e4 j'' d0' hl hdj' _ (hd d0 hdj)
    | succ j=>
     rw[show k+(j+1)=k+1+j by omega,if_neg (by omega)] at hdj;rw[show k+(j+1)=k+1+j by omega];exact e5 j j'' d0 d0' (by omega) hl hdj hdj'
  simp only[qAE] at h;cases hw:q66 all o st.t with
  | none=>rw[hw] at h;cases h
  | some b=>
   rw[hw] at h;cases b with
   | true=>
    simp only at h;obtain⟨r,h1,h2⟩:=bind_some h;split at h2
    ·rename_i hall;simp only[qOd,qOy] at hall;obtain⟨c2,c3⟩:=hall;obtain⟨s,h3,h4⟩:=bind_some h2;obtain⟨u,h'⟩:=r;obtain rfl:=qGA (st:={ st with h:=h' }) h3;exact fin _ h' (some (vC E st.h (E.opd st.t) o.op c u h')) _ _ (by split<;>omega) (.op u hw h1 rfl rfl fun b hb=>Nat.blt_eq.mp (c2 b hb)) (fun d0 he x hx=>by cases he;exact c3 x hx) (fun x hx=>qOT _ hx) (fun d0 he=>by cases he;exact qOH _ qOm) h4
    ·cases h2
   | false=>
    simp only at h;exact fin .skip st.h none c ds (qO0 _) (.out hw rfl rfl rfl) (fun d0 he=>by cases he) (fun x hx=>hx) (fun d0 he=>by cases he) h
section
variable (W:Nat->List Nat) (H:Nat->List Blk) (h0:List Blk)
def hLp(L:Nat->Bool):Nat->List Blk
 | 0=>h0
 | m+1=>if L m=true then qej (W m) (H (m+1)) (hLp L m) else hLp L m
variable {W H h0}
theorem qai(L:Nat->Bool):∀m,(hLp W H h0 L m).length=h0.length
 | 0=>rfl
 | m+1=>by simp only[hLp];split<;>simp[qEk,qai L m]
theorem qC6{L:Nat->Bool}{b lo:Nat}:∀m,lo<=m->(∀j,lo<=j->j<m->L j=true->b∉W j)->(hLp W H h0 L m)[b]?=(hLp W H h0 L lo)[b]?
  | 0, h, _ => by have : lo = 0 := by omega
                  rw[this]
  | m+1,h,hj=>by
    rcases qPx h with rfl|h
    · rfl
    · rw[<-qC6 m (by omega) fun j h1 h2=>hj j h1 (by omega)]
      simp only[hLp];split
      · rename_i hl
        exact qjx (hj m (by omega) (by omega) hl)
      · rfl
theorem qxW{L L':Nat->Bool}{b:Nat}(hH:∀m,(H m).length=h0.length):∀m,(∀j,j<m->b∈W j->L j=L' j)->(hLp W H h0 L m)[b]?=(hLp W H h0 L' m)[b]?
 | 0,_=>rfl
 | m+1,hj=>by
  have ih:=qxW (L:=L) (L':=L') hH m fun j h1=>hj j (by omega);by_cases hb:b∈W m
  ·have:=hj m (by omega) hb;simp only[hLp];rw[this];split
   ·rw[qit hb (by rw[qai,hH]),qit hb (by rw[qai,hH])]
   ·exact ih
  ·have out:∀L:Nat->Bool,(hLp W H h0 L (m+1))[b]?=(hLp W H h0 L m)[b]?:=fun L=>by
    simp only[hLp];split
    ·exact qjx hb
    ·rfl
   rw[out,out,ih]
theorem qrz{L L':Nat->Bool}:∀m,(∀j,j<m->L j=L' j)->hLp W H h0 L m=hLp W H h0 L' m
 | 0,_=>rfl
 | m+1,h=>by
  simp only[hLp];rw[h m (qPM m),qrz m fun j hj=>h j (by omega)]
theorem qGb(hk:∀i,(H (i+1)).length=(H i).length/\∀b,b∉W i->(H (i+1))[b]?=(H i)[b]?)(h1:H 0=h0):∀m,hLp W H h0 (fun _=>true) m=H m
 | 0=>h1.symm
 | m+1=>by
  simp only[hLp,if_true];rw[qGb hk h1 m];exact(q26 (hk m).1 (fun _ _=>rfl) (hk m).2).symm
theorem qFH {L:Nat->Bool}{i m:Nat}(hi:i<m)(hL:L i=false)(hH:∀m,(H m).length=h0.length)(hu:∀j,i<j->j<m->L j=true->∀b,b∈W i->b∉W j) :hLp W H h0 (fun j=>if j=i then true else L j) m=qej (W i) (H (i+1)) (hLp W H h0 L m):=by
 refine q26 (by rw[hH,qai]) (fun b hb=>?_) (fun b hb=>?_)
 ·rw[qC6 (lo:=i+1) m (by omega) fun j h1 h2 h3=>hu j (by omega) h2 (by rwa [if_neg (by omega)] at h3) b hb];simp only[hLp,if_true];exact qit hb (by rw[qai,hH])
 ·refine qxW hH m fun j _ hbj=>if_neg fun e=>?_;subst e;exact hb hbj
theorem qKm {h:List Blk}{c:Nat}(hb:∀(b:Nat) (k:Blk),h[b]?=some k->c∉k.menB):c∉qd5 h:=by
 induction h with
 | nil=>intro h;cases h
 | cons k h ih=>
  simp only[qd5,qOn,not_or];exact⟨hb 0 k rfl,ih fun b k' hk=>hb (b+1) k' (by simpa using hk)⟩
theorem qFT{L:Nat->Bool}{c:Nat}(hH:∀m,(H m).length=h0.length)(h1:c∉qd5 h0):∀m,(∀j,j<m->L j=true->∀b z,b∈W j->(H (j+1))[b]?=some z->c∉z.menB)->c∉qd5 (hLp W H h0 L m)
 | 0,_=>h1
 | m+1,h2=>by
  have ih:=qFT (L:=L) hH h1 m fun j hj=>h2 j (by omega);simp only[hLp];split
  ·rename_i hL;refine qKm fun b k hk=>?_;by_cases hb:b∈W m
   ·rw[qit hb (by rw[qai,hH])] at hk;exact h2 m (qPM m) hL b k hb hk
   ·rw[qjx hb] at hk;exact qr8 ih hk
  ·exact ih
end
theorem qwa {w:List Nat}{r:Option (List Nat)}(h:qIa w r=true):∀b,b∈w->¬inR r b:=by
 intro b hb hi;cases w with
 | nil=>cases hb
 | cons a w=>
  cases r with
  | none=>cases h
  | some R=>
   simp only[qIa,qOy,qPy,List.contains_eq_mem,decide_eq_false_iff_not] at h;exact h b hb (hi R rfl)
def wOf(D:Nat->Option LDesc)(j:Nat):List Nat:=match D j with
 | some d=>d.w
 | none=>[]
theorem qDt {v:List Nat}(h:qN5 (some k) v=false):k∉v:=by simpa[qN5] using h
theorem qMG {h g:List Blk}{ev:Operand->AV}{u:AV}{R:List Nat}(hR:(vC E h ev op k u g).r=some R):∀b,b∈(vC E h ev op k u g).w->b∈R:=by
 unfold vC at *;split at hR
 ·simp only[qNY] at hR;subst hR;exact fun b hb=>hb
 ·split at hR
  ·simp only[qNY] at hR;subst hR;exact fun b hb=>qOH _ hb
  ·intro b hb;cases hb
section
variable {E:Env} {P:Program} {callS:List Blk->q7b} {B:Base} {all:Array Oper} {V:Nat->AV} {T0:List AV} {H:Nat->List Blk} {D:Nat->Option LDesc} {fs:List (List AV)} {pd:Option Ex} {Q:Exit->Act->World->Prop} {n0 m base:Nat} {S:Nat->Nat}
theorem qFO (hE:E.tok P)(hS:E.specs P)(hc:qlw E P callS)(hmo:q5o E callS)(hd:DrawOk all)(hms:m<=all.size)(hV:∀i o,all[i]?=some o->i<m->LocOK E callS all (S i) i o (TLp (yC all) V T0 (fun _=>true) i) (V i) (H i) (H (i+1)) (D i))(hX:∀i j d d',i<j->j<m->D i=some d->D j=some d'->qib (qh6 all.toList) (i,d) j d'=true)(hcon:∀i,m<=i->H i=H m) (_:∀i,m<=i->D i=none)(hlen:base<=(H 0).length) (hSb:∀i,base<=S i) (hT0:∀c,base<=c->c∉AV.menL T0) (hfs:∀c,base<=c->c∉qnV fs) (hH0:∀c,base<=c->c∉qd5 (H 0))(hq:all.size<=m->∀X a,Sim E B X { t:=TLp (yC all) V T0 (fun _=>true) all.size,fs:=fs,pend:=pd,h:=H m } a->Q .normal a X.w)(hlast:∀i fuel listed X a,i<all.size->m<=i->listed.size=all.size->i∈Region.ready .any all listed->qqd all (fun j=>listed.getD j false)->(∀j,m<=j->j<all.size->listed.getD j false=false)->(∀j,j<m->listed.getD j false=true) ->Sim E B X { t:=TLp (yC all) V T0 (fun j=>listed.getD j false) all.size,fs:=fs,pend:=pd,h:=H m } a ->unl listed all.size<=fuel+1->wpOpIn (q4B B.ro) n0 P all Q i (wpAnyIn (q4B B.ro) n0 P .any all Q fuel (listed.setIfInBounds i true)) a X.w)(hsuf:∀i j,m<=i->i<all.size->j<i->((qh6 all.toList).getD i 0).testBit j=true) :∀(fuel:Nat) (listed:Array Bool) (X:Ctx) (a:Act),listed.size=all.size->qqd all (fun j=>listed.getD j false)->(∀i,m<=i->i<all.size->listed.getD i false=false) ->unl listed all.size<=fuel->Sim E B X { t:=TLp (yC all) V T0 (fun j=>listed.getD j false) all.size,fs:=fs,pend:=pd,h:=hLp (wOf D) H (H 0) (fun j=>listed.getD j false) m } a->wpAnyIn (q4B B.ro) n0 P .any all Q fuel listed a X.w:=by
 intro fuel;have step:∀i,(H (i+1)).length=(H i).length/\∀b,b∉wOf D i->(H (i+1))[b]?=(H i)[b]?:=by
  intro i;rcases qO6 i m with him|him
  ·have hi:i<all.size:=by omega
   cases hV i _ (qPE hi) him with
   | out h1 h2 h3 h4=>rw[h3];exact⟨rfl,fun _ _=>rfl⟩
   | op u h1 h2 h3 h4 h5=>
    obtain⟨q1,q2,_⟩:=qkC (h':=H i) hmo (fun _ _=>rfl) rfl h2;refine⟨q1,?_⟩;unfold wOf;rw[h4];exact q2
  ·rw[hcon i him,hcon (i+1) (by omega)];exact⟨rfl,fun _ _=>rfl⟩
 have hlenA:∀i,(H i).length=(H 0).length:=by
  intro i;induction i with
  | zero=>rfl
  | succ i ih=>rw[(step i).1,ih]
 have hall:∀i,hLp (wOf D) H (H 0) (fun _=>true) i=H i:=qGb step rfl;have toEnd:∀(listed:Array Bool),(∀j,j<m->listed.getD j false=true)->hLp (wOf D) H (H 0) (fun j=>listed.getD j false) m=H m:=by intro listed h;rw[<-hall m];exact qrz m h
 have fin:∀(listed:Array Bool) (X:Ctx) (a:Act),listed.size=all.size->(∀i,m<=i->i<all.size->listed.getD i false=false)->Region.ready .any all listed=[] ->
   Sim E B X { t:=TLp (yC all) V T0 (fun j=>listed.getD j false) all.size,fs:=fs,pend:=pd,h:=hLp (wOf D) H (H 0) (fun j=>listed.getD j false) m } a->Q .normal a X.w:=by
  intro listed X a hsz hm hr hs;have hal:=qzE hd hsz hr;rcases qO6 m all.size with hlt|hge
  ·have:=hm m (qO0 _) hlt;rw[hal m hlt] at this;cases this
  ·rw[toEnd listed fun j hj=>hal j (by omega)] at hs;rw[stL (L':=fun _=>true) all.size fun j hj=>hal j hj] at hs;exact hq hge X a hs
 induction fuel with
 | zero=>
  intro listed X a hsz hcl hm hu hs;have hr:Region.ready .any all listed=[]:=by
   apply List.eq_nil_iff_forall_not_mem.2;intro j hj;rw[mem_ready] at hj;obtain⟨h1,o,h2,_⟩:=hj;have hj':=(qO4.1 h2).1;have:=qxH (listed:=listed) (Nat.le_zero.1 hu) j hj';have hj2:j<listed.size:=by omega
   simp[hj2] at this h1;rw[this] at h1;cases h1
  exact⟨hr,fin listed X a hsz hm hr hs⟩
 | succ fuel ih=>
  intro listed X a hsz hcl hm hu hs;refine⟨fun hr=>fin listed X a hsz hm hr hs,fun i hi=>?_⟩;have hri:=hi;rw[mem_ready] at hi;obtain⟨h1,o,ho,hedge⟩:=hi;have hin:=(qO4.1 ho).1;have hil:i<listed.size:=by omega
  have hLi:listed.getD i false=false:=by simpa[qPh,hil] using h1
  have hedge':∀e,e∈o.after.toList->Region.binds .any e=true->listed.getD e.on false=true:=fun e he hb=>hedge e (by simpa using he) hb;have hcl':=qoH hsz ho hcl hedge';have before:∀k,k≠i->qMo (qh6 all.toList) i k=true->listed.getD k false=true:=by
   intro k hki hk;have:=qvI hd hcl' i k (by show (listed.setIfInBounds i true).getD i false=true;rw[q0w hil,if_pos rfl]) hk;have h':(listed.setIfInBounds i true).getD k false=true:=this
   rwa [q0w hil,if_neg hki] at h'
  have behind:∀k,qMo (qh6 all.toList) k i=true->listed.getD k false=false:=by
   intro k hk;cases hl:listed.getD k false with
   | false=>rfl
   | true=>
    have:=qvI hd hcl k i hl hk;have h':listed.getD i false=true:=this;rw[hLi] at h';cases h'
  rcases qO6 i m with him|him
  ·have hv:=hV i o ho him;have hsame:∀t,t∈qDP all o->(TLp (yC all) V T0 (fun j=>listed.getD j false) all.size)[t]?=(TLp (yC all) V T0 (fun _=>true) i)[t]?:=fun t ht=>
    qKS hd hcl ho (Nat.le_of_lt hin) hLi hedge' ht
   have hopd:∀x,x∈o.op.operands.toList->E.opd (TLp (yC all) V T0 (fun j=>listed.getD j false) all.size) x=E.opd (TLp (yC all) V T0 (fun _=>true) i) x:=fun x hx=>by
    cases x with
    | tmp t=>
     have:=hsame t (qOT _ (List.mem_filterMap.2 ⟨.tmp t,hx,rfl⟩));simp only[Env.opd,qNZ];rw[this]
    | const v=>rfl
    | global g=>rfl
    | func f=>rfl
   have hwant:q66 all o (TLp (yC all) V T0 (fun j=>listed.getD j false) all.size)=q66 all o (TLp (yC all) V T0 (fun _=>true) i):=by
    unfold q66;cases hg:o.guard with
    | none=>rfl
    | some p=>
     obtain⟨j,want⟩:=p;simp only;cases hj:(all[j]?).bind (·.dst) with
     | none=>rfl
     | some d=>
      simp only;rw[hsame d (by simp[qDP,hg,hj])]
   have hun:unl (listed.setIfInBounds i true) all.size<=fuel:=by have:=(qB4 hil hLi all.size).2 hin;omega
   have hdi:yC all i=o.dst:=by simp[yC,ho]
   have hnext:∀(X':Ctx) (u:Value),Sim E B X' { t:=TLp (yC all) V T0 (fun j=>listed.getD j false) all.size,fs:=fs,pend:=pd,h:=hLp (wOf D) H (H 0) (fun j=>(listed.setIfInBounds i true).getD j false) m } a->Rep X' (V i) u ->
     wpAnyIn (q4B B.ro) n0 P .any all Q fuel (listed.setIfInBounds i true) (a.put o.dst u) X'.w:=by
    intro X' u hs' hu';refine ih _ X' _ (by simp[hsz]) hcl' ?_ hun ?_
    ·intro k hk1 hk2;rw[q0w hil,if_neg (by omega)];exact hm k hk1 hk2
    ·have hput:=hs'.put hu' o.dst;have hT:TLp (yC all) V T0 (fun j=>(listed.setIfInBounds i true).getD j false) all.size=qkf (TLp (yC all) V T0 (fun j=>listed.getD j false) all.size) o.dst (V i):=by
      rw[<-hdi,<-qL8 hin hLi]
      ·exact stL all.size fun j _=>q0w hil
      ·intro k hk hki t ht he;cases hk':all[k]? with
       | none=>simp[yC,hk'] at he
       | some ok=>
        simp only[yC,hk',qOp] at he;rw[hdi] at ht;exact(hd.dst i k o ok ho hk' hki t he).1 ht
     rw[hT];exact hput
   have hLset:hLp (wOf D) H (H 0) (fun j=>(listed.setIfInBounds i true).getD j false) m=hLp (wOf D) H (H 0) (fun j=>if j=i then true else listed.getD j false) m:=qrz m fun j _=>q0w hil;unfold wpOpIn;rw[ho];simp only;cases hv with
   | out w1 w2 w3 w4=>
    rw[q9t hs.t (hwant.trans w1)];simp only[qOC,if_false];refine⟨fun _ _=>trivial,hnext X _ ?_ (by rw[w2];exact .skip)⟩;rw[hLset,qFH him hLi hlenA (fun j _ _ _ b hb=>by unfold wOf at hb;rw[w4] at hb;cases hb)];have:wOf D i=[]:=by unfold wOf;rw[w4]
    rw[this,<-q26 (k':=hLp (wOf D) H (H 0) (fun j=>listed.getD j false) m) (by rw[hlenA,qai]) (fun b hb=>by cases hb) (fun _ _=>rfl)];exact hs
   | op u w1 w2 w3 w4 w5=>
    rw[q9t hs.t (hwant.trans w1)];simp only[if_true];have hwi:wOf D i=(vC E (H i) (E.opd (TLp (yC all) V T0 (fun _=>true) i)) o.op (S i) u (H (i+1))).w:=by unfold wOf;rw[w4]
    obtain⟨d0,hd0⟩:∃d0,d0=(vC E (H i) (E.opd (TLp (yC all) V T0 (fun _=>true) i)) o.op (S i) u (H (i+1))):=⟨_,rfl⟩;have wr:∀j b,inR d0.r b->b∈wOf D j->j<m->j≠i->(j<i->qMo (qh6 all.toList) i j=true)/\(i<j->qMo (qh6 all.toList) j i=true):=by
     intro j b hb hbj hjm hji;cases hDj:D j with
     | none=>unfold wOf at hbj;rw[hDj] at hbj;cases hbj
     | some dj=>
      have hbj':b∈dj.w:=by unfold wOf at hbj;rw[hDj] at hbj;exact hbj
      refine⟨fun hlt=>?_,fun hlt=>?_⟩
      ·have:=hX j i dj _ hlt him hDj w4;unfold qib at this;simp only[qOd,qPp] at this;rcases this.2 with h3|h3
       ·exact h3
       ·rw[<-hd0] at h3;exact absurd hb (qwa h3.2.1 b hbj')
      ·have:=hX i j _ dj hlt hjm w4 hDj;unfold qib at this;simp only[qOd,qPp] at this;rcases this.2 with h3|h3
       ·exact h3
       ·rw[<-hd0] at h3;exact absurd hb (qwa h3.2.2 b hbj')
    have hat:∀b,inR d0.r b->(hLp (wOf D) H (H 0) (fun j=>listed.getD j false) m)[b]?=(H i)[b]?:=by
     intro b hb;rw[<-hall i,qC6 (lo:=i) m (by omega) fun j h3 h4 h5 h6=>?_]
     ·refine qxW hlenA i fun j h3 h4=>?_;exact before j (by omega) ((wr j b hb h4 (by omega) (by omega)).1 h3)
     ·have hji:j≠i:=fun e=>by rw[e,hLi] at h5;cases h5
      have:=behind j ((wr j b hb h6 h4 hji).2 (by omega));rw[this] at h5;cases h5
    have hln:(hLp (wOf D) H (H 0) (fun j=>listed.getD j false) m).length=(H i).length:=by rw[qai];exact(hlenA i).symm
    obtain⟨_,_,hrun⟩:=qkC hmo (hd0▸hat) hln w2;have hnew:hLp (wOf D) H (H 0) (fun j=>(listed.setIfInBounds i true).getD j false) m=qej (wOf D i) (H (i+1)) (hLp (wOf D) H (H 0) (fun j=>listed.getD j false) m):=by rw[hLset,qFH him hLi hlenA fun j h3 h4 h5 b hb hbj=>?_];have:=behind j ((wr j b (fun R hR=>qMG (hd0▸hR) b (hwi▸hb)) hbj h4 (by omega)).2 h3);rw[this] at h5;cases h5
    rw[<-hwi,<-hnew,<-qx9 hopd] at hrun;have ups:∀j,j<all.size->listed.getD j false=true->j<m/\j≠i:=fun j hj hLj=>by
     refine⟨?_,fun e=>by rw[e,hLi] at hLj;cases hLj⟩;rcases qO6 j m with h|h
     ·exact h
     ·rw[hm j h hj] at hLj;cases hLj
    have free:∀c,base<=c->(∀j d,j<m->listed.getD j false=true->D j=some d->c∉d.v)->c∉AV.menL (TLp (yC all) V T0 (fun j=>listed.getD j false) all.size)/\c∉qd5 (hLp (wOf D) H (H 0) (fun j=>listed.getD j false) m):=by
     intro c hbc hno;refine⟨qHd (hT0 _ hbc) _ fun j hj hLj=>?_,qFT hlenA (hH0 _ hbc) m fun j hj hLj b z hb hz=>?_⟩
     ·have hjm:=(ups j hj hLj).1;cases hV j _ (qPE hj) hjm with
      | out _ q2 _ _=>rw[q2];simp[AV.men]
      | op uj _ _ q3 q4 _=>
       rw[q3];exact qFJ fun hmm=>hno j _ hjm hLj q4 (qHp hmm)
     ·cases hV j _ (qPE (by omega)) hj with
      | out _ _ _ q4=>unfold wOf at hb;rw[q4] at hb;cases hb
      | op uj _ _ _ q4 _=>
       unfold wOf at hb;rw[q4] at hb;exact fun hmm=>hno j _ hj hLj q4 (qHu hb hz hmm)
    cases hloc:quB E o.op with
    | true=>
     obtain⟨f1,f2⟩:=free (S i) (hSb i) fun j d hj hLj q4 hmm=>by
      obtain⟨_,hji⟩:=ups j (by omega) hLj;rcases qO6 j i with h3|h3
      ·have:=hX j i _ _ h3 him q4 w4;unfold qib at this;rw[qAr hloc] at this;simp only[qOd,qPy] at this;exact qDt this.1 hmm
      ·have:=hX i j _ _ (by omega) hj w4 q4;unfold qib at this;simp only[qAr hloc] at this;simp only[qOd,qPp,qPy] at this;rcases this.2 with h4|h4
       ·rw[behind j h4] at hLj;cases hLj
       ·exact qDt h4.1 hmm
     obtain⟨g1,g2⟩:=free (H 0).length hlen fun j d hj hLj q4 hmm=>by
      cases hV j _ (qPE (show j<all.size by omega)) hj with
      | out _ _ _ q5=>rw[q5] at q4;cases q4
      | op uj _ _ _ q5 q6=>
       rw[q5] at q4;cases q4;have:=q6 _ hmm;rw[hlenA j] at this;omega
     refine qtj B.ro n0 (qwM hE hS hs hrun hloc f2 f1 (hfs _ (hSb i)) ?_ ?_ ?_ fun X' v hs' hv'=>hnext X' v hs' (by rw[w3];exact qtv hv')) (fun c hcc=>by rw[hcc] at hloc;cases hloc)
     ·rw[qai];exact g2
     ·rw[qai];exact g1
     ·rw[qai];exact hfs _ hlen
    | false=>
     unfold q4w at hrun;rw[hloc] at hrun;simp only at hrun;split at hrun
     ·obtain⟨q,k1,k2⟩:=bind_some hrun;split at k2
      case h_2=>cases k2
      cases k2;obtain⟨p1,p2⟩:=qBY hE hS hs k1 fun X' v hs' hv'=>hnext X' v hs' (by rw[w3];exact qtv hv');exact qtj B.ro n0 p1 p2
     obtain⟨av,k1,k2⟩:=bind_some hrun;simp only[Tree.run,qNY,qOx] at k2;obtain⟨rfl,k2⟩:=k2;refine qtj B.ro n0 (qxF hE hc hs k1 fun X' v hs' hv'=>hnext X' v (by rw[<-k2];exact hs') (by rw[w3];exact qtv hv')) (fun c hcc=>by rw[hcc] at k1;simp[qcS,qdC,Tree.run] at k1)
  ·have hallb:∀j,j<m->listed.getD j false=true:=fun j hj=>before j (by omega) (hsuf i j him hin (by omega));rw[toEnd listed hallb] at hs;exact hlast i fuel listed X a hin him hsz hri hcl hm hallb hs hu
end
theorem qyX {P:Program}(hm:P.follows .mixedOrders=true)(hE:E.tok P)(hS:E.specs P){callH:q8q}{B:Base}(hcH:CallOK E P callH B){callS:List Blk->q7b}(hc:qlw E P callS)(hmo:q5o E callS){id:Nat}{all:Array Oper}{X:Ctx}{st st':St}{a:Act}(hs:Sim E B X st a) (h:(qG1 E callH callS all st).run=some st') {Q:Exit->Act->World->Prop} {n0:Nat} (hq:∀X' a',Sim E B X' st' a'->Q .normal a' X'.w):(Code.region id all true).wpIn (q4B B.ro) n0 P Q a X.w:=by
 apply wpIn_region_any hm;have hs1:=hs.drawn (X.w.drawn+1);generalize hX1:({ X with w:={ X.w with drawn:=X.w.drawn+1 } }:Ctx)=X1 at hs1;have hw:({ X.w with drawn:=X.w.drawn+1 }:World)=X1.w:=by rw[<-hX1]
 rw[hw];obtain⟨T0,fs,hb,pd⟩:=st;unfold qG1 at h;by_cases hdb:qFu all=false
 ·rw[if_pos hdb] at h;cases h
 ·rw[if_neg hdb] at h;have hd:=qIH (by simpa using hdb:qFu all=true);have hcl0:qqd all fun j=>(Array.replicate all.size false).getD j false:=by intro i o _ hL;have hL':(Array.replicate all.size false).getD i false=true:=hL;rw[qxc] at hL';cases hL'
  have hdst:yC all=fun i=>(all.toList[i]?).bind (·.dst):=by funext i;simp[yC]
  have hsl:=qIC all;have lt:∀b,(b∈AV.menL T0\/b∈qnV fs)\/b∈qd5 hb->b<hb.length:=fun b hb'=>by
   have hh:X.h=hb:=hs.h;rw[<-hh];rcases hb' with (h'|h')|h'
   ·exact hs.t.inB _ h'
   ·exact hs.fs.inB _ h'
   ·exact hs.hs.inB _ (by rw[hh];exact h')
  obtain⟨r,h1,h2⟩:=bind_some h;obtain⟨V,H0,D0,S,eS,e0,e1,e2,_,e5⟩:=qwj _ 0 _ [] _ r h1;simp only[qOS] at eS e1 e2 e5;have htlen:(all.toList.take (kl all)).length=kl all:=by simp;omega
  obtain⟨H,hH1,hH2⟩:∃H:Nat->List Blk,(∀i,i<=kl all->H i=H0 i)/\∀i,kl all<=i->H i=H (kl all):=
   ⟨fun i=>if i<=kl all then H0 i else H0 (kl all),fun i hi=>if_pos hi,fun i hi=>by
    simp only[qO0,if_true];split
    ·rw[show i=kl all by omega]
    ·rfl⟩
  obtain⟨D,hD1,hD2⟩:∃D:Nat->Option LDesc,(∀i,i<kl all->D i=D0 i)/\∀i,kl all<=i->D i=none:=
   ⟨fun i=>if i<kl all then D0 i else none,fun i hi=>if_pos hi,fun i hi=>if_neg (by omega)⟩
  have htk:∀i,i<kl all->(all.toList.take (kl all))[i]?=all[i]?:=by intro i hi;rw[qP3,if_pos hi];simp
  have hTm:∀i,i<=kl all->TLp (yC all) V T0 (fun _=>true) i=qe3 V 0 ((all.toList.take (kl all)).take i) T0:=by intro i hi;rw[hdst,qJ9 i (by simp;omega),List.take_take,qOY hi]
  have hVA:∀i o,all[i]?=some o->i<kl all->LocOK E callS all (S i) i o (TLp (yC all) V T0 (fun _=>true) i) (V i) (H i) (H (i+1)) (D i):=by intro i o ho hi;rw[hTm i (by omega),hH1 i (by omega),hH1 (i+1) (by omega),hD1 i hi];exact e2 i o (by rw[htk i hi];exact ho)
  have hs0:∀(X':Ctx) (a':Act),Sim E B X' { t:=TLp (yC all) V T0 (fun _=>true) (kl all),fs:=fs,pend:=pd,h:=H (kl all) } a'->Sim E B X' r a':=by
   intro X' a' hs';have:r={ t:=TLp (yC all) V T0 (fun _=>true) (kl all),fs:=fs,pend:=pd,h:=H (kl all) }:=by rw[hTm _ (qO0 _),e1,List.take_of_length_le (i:=kl all) (l:=all.toList.take (kl all)) (by simp;omega),htlen,hH1 _ (qO0 _)]
   rw[this];exact hs'
  have hH00:H 0=hb++List.replicate (qNE E (all.toList.take (kl all))) .dead:=by rw[hH1 0 (qPl _)];exact e0
  obtain⟨X2,hX2,hs2⟩:=Sim.padN (qNE E (all.toList.take (kl all))) hs1;rw[<-hX2];have start:Sim E B X2 { t:=TLp (yC all) V T0 (fun j=>(Array.replicate all.size false).getD j false) all.size,fs:=fs,pend:=pd,h:=hLp (wOf D) H (H 0) (fun j=>(Array.replicate all.size false).getD j false) (kl all) } a:=by
   have q1:TLp (yC all) V T0 (fun j=>(Array.replicate all.size false).getD j false) all.size=T0:=by
    have:∀n,TLp (yC all) V T0 (fun j=>(Array.replicate all.size false).getD j false) n=T0:=by
     intro n;induction n with
     | zero=>rfl
     | succ n ih=>simp only[TLp];rw[if_neg (by rw[qxc];simp),ih]
    exact this _
   have q2:∀n,hLp (wOf D) H (H 0) (fun j=>(Array.replicate all.size false).getD j false) n=H 0:=by
    intro n;induction n with
    | zero=>rfl
    | succ n ih=>simp only[hLp];rw[if_neg (by rw[qxc];simp),ih]
   rw[q1,q2,hH00];exact hs2
  refine qFO (m:=kl all) (V:=V) (T0:=T0) (H:=H) (D:=D) (fs:=fs) (base:=hb.length) hE hS hc hmo hd hsl hVA (fun i j d d' hij hj q1 q2=>?_) hH2 hD2 (by rw[hH00];simp) eS (fun c hc hm'=>?_) (fun c hc hm'=>?_) (fun c hc hm'=>?_) ?_ ?_ (fun i j h1 h2 h3=>qoN all h1 h2 h3) all.size _ X2 a (by simp) hcl0 (fun i _ _=>qxc i) (qK4 _ _) start
  ·rw[hD1 i (by omega)] at q1;rw[hD1 j hj] at q2;exact e5 i j d d' hij (by rw[htlen];exact hj) q1 q2
  ·have:=lt c (.inl (.inl hm'));omega
  ·have:=lt c (.inl (.inr hm'));omega
  ·rw[hH00,qDD] at hm';rcases qOn.1 hm' with hm'|hm'
   ·have:=lt c (.inr hm');omega
   ·exact qEp (fun z hz=>by rw[qQ9] at hz;rw[hz.2];rfl) hm'
  ·intro hge X' a' hs';have hsz:kl all=all.size:=by omega
   rw[show TLp (yC all) V T0 (fun _=>true) all.size=TLp (yC all) V T0 (fun _=>true) (kl all) by rw[hsz]] at hs';have h3:=hs0 X' a' hs';rw[qPD (by simp;omega)] at h2;simp only[ql3,Tree.run,qNY] at h2;rw[h2] at h3;exact hq X' a' h3
  ·intro i fuel listed X' a' hin him hsz hri hcl hlm hallm hs' hun;have hri':=hri;rw[mem_ready] at hri';obtain⟨g1,o,ho,gedge⟩:=hri';have hil:i<listed.size:=by omega
   have hLi:listed.getD i false=false:=by simpa[qPh,hil] using g1
   have hedge':∀e,e∈o.after.toList->Region.binds .any e=true->listed.getD e.on false=true:=fun e he hb=>gedge e (by simpa using he) hb;have hcl':=qoH hsz ho hcl hedge';have hallb:∀j,j<i->listed.getD j false=true:=by intro j hj;have hb':=qoN all him hin hj;have:=qvI hd hcl' i j (by show (listed.setIfInBounds i true).getD i false=true;rw[q0w hil,if_pos rfl]) hb';have h':(listed.setIfInBounds i true).getD j false=true:=this;rw[q0w hil,if_neg (by omega)] at h';exact h'
   have him2:i=kl all:=by
    rcases qPx him with h3|h3
    ·exact h3.symm
    ·have h4:=hallb _ h3;rw[hlm _ (qO0 _) (by omega)] at h4;cases h4
   have hcut:∀n,kl all<=n->n<=all.size->TLp (yC all) V T0 (fun j=>listed.getD j false) n=TLp (yC all) V T0 (fun _=>true) (kl all):=by
    intro n;induction n with
    | zero=>
     intro h3 _;have h0:kl all=0:=by omega
     rw[h0];rfl
    | succ n ihn=>
     intro h3 h4;rcases qPx h3 with h5|h5
     ·rw[<-h5];exact stL (kl all) fun j hj=>hallb j (by omega)
     ·simp only[TLp];rw[if_neg (by rw[hlm n (by omega) (by omega)];simp)];exact ihn (by omega) (by omega)
   rw[hcut _ hsl (qO0 _)] at hs';have h3:=hs0 X' a' hs';subst him2;exact(qHr hE hcH hd hq _ (kl all) rfl (qO0 _) (fuel+1) listed X' a' _ hsz (fun j hj _=>hallb j hj) (fun j hj=>by
    rcases qO6 j all.size with h5|h5
    ·exact hlm j hj h5
    ·simp[show listed.size<=j by omega]) hun h3 h2).2 _ hri
end Go.Eng

namespace Go.Eng
variable {B:Base}{X:Ctx}{n:Nat}
theorem HSim.base {B B':Base}(h:HSim B X)(h0:B'.w0=B.w0)(h1:B'.imps=B.imps)(h2:B'.M0=B.M0):HSim B' X:=by obtain⟨w0,imps,M0,fs,ro,y,pin⟩:=B;obtain⟨w0',imps',M0',fs',ro',y',pin'⟩:=B';simp only at h0 h1 h2;subst h0 h1 h2;exact⟨h.blk,h.inj,h.notM,h.ltM,h.M0,h.newM,h.os,h.tape,h.output,h.size,h.frame,h.imps,h.impc,h.fresh,h.kept⟩
def qmP(o:Obj):Prop:=∀c T fr,o≠.cells c T fr
def qcv(n:Nat)(o:Obj)(l:List (Nat×Obj)):List (Nat×Obj):=l.map fun p=>if p.1=n then (n,o) else p
theorem q0C {p:Nat×Obj}{o:Obj}{l:List (Nat×Obj)}(h:p∈l)(hne:p.1≠n):p∈qcv n o l:=qOP.2 ⟨p,h,if_neg hne⟩
theorem qiG {o o':Obj}{l:List (Nat×Obj)}(h:(n,o)∈l):(n,o')∈qcv n o' l:=qOP.2 ⟨(n,o),h,if_pos rfl⟩
theorem qlC {p:Nat×Obj}{o:Obj}{l:List (Nat×Obj)}(h:p∈qcv n o l):p=(n,o)\/(p∈l/\p.1≠n):=by
 obtain⟨q,h1,h2⟩:=qOP.1 h;by_cases hq:q.1=n
 ·rw[if_pos hq] at h2;exact .inl h2.symm
 ·rw[if_neg hq] at h2;subst h2;exact .inr ⟨h1,hq⟩
structure SameCells (w w':World):Prop where
 cells:∀(n:Nat) c T fr,w.heap[n]?=some (.cells c T fr)->w'.heap[n]?=some (.cells c T fr)
 cell:∀a:Addr,a.block<w.heap.size->w'.cell? a=w.cell? a
theorem SameCells.blk {X X':Ctx}(hw:SameCells X.w X'.w)(hm:Move0 X X' some){b:Nat}{k:Blk}(hσ:X'.σ b=X.σ b)(h:jf X b k):jf X' b k:=by
 cases k with
 | cells cs=>
  obtain⟨n,c,T,e1,e2,e3⟩:=h;exact⟨n,c,T,by rw[hσ];exact e1,hw.cells _ _ _ _ e2,e3.ext0 hm⟩
 | big cs k N l=>
  obtain⟨n,c,T,vs,e1,e2,e3,e4,e5⟩:=h;exact⟨n,c,T,vs,by rw[hσ];exact e1,hw.cells _ _ _ _ e2,e3.ext0 hm,e4,e5⟩
 | vec e sh l=>
  rcases h with⟨e1,e2⟩|⟨n,c,e1,e2,e3⟩
  ·exact .inl ⟨by rw[hσ];exact e1,e2⟩
  ·exact .inr ⟨n,c,by rw[hσ];exact e1,hw.cells _ _ _ _ e2,e3.mono hm.M hm.w⟩
 | frz e sh l=>
  rcases h with⟨e1,e2⟩|⟨n,c,e1,e2,e3,e4⟩
  ·exact .inl ⟨by rw[hσ];exact e1,e2⟩
  ·exact .inr ⟨n,c,by rw[hσ];exact e1,hw.cells _ _ _ _ e2,e3.mono hm.M hm.w,hm.M n e4⟩
 | dead=>trivial
theorem qzd (hs:HSim B X){w':World}{kept':List (Nat×Obj)}(hw:SameCells X.w w')(hsz:X.w.heap.size<=w'.heap.size)(ho:w'.os=X.w.os)(ht:w'.tape=X.w.tape)(hp:w'.output=X.w.output)(hf:∀n,n<B.w0.heap.size->w'.heap[n]?=X.w.heap[n]?) (hk:∀p,p∈kept'->w'.heap[p.1]?=some p.2/\qmP p.2/\B.w0.heap.size<=p.1) :HSim B { X with w:=w',kept:=kept' }/\Move0 X { X with w:=w',kept:=kept' } some:=by
 have hm:Move0 X { X with w:=w',kept:=kept' } some:=
  ⟨fun _ h=>h,fun a ha=>hw.cell a (hs.ltM _ ha),fun b b' hb h=>by cases h;exact⟨hb,rfl,fun _ _ h=>h,fun _ _ _ n _ c T fr h=>⟨c,T,fr,hw.cells n c T fr h,rfl⟩⟩,rfl⟩
 refine⟨⟨fun b k hb=>SameCells.blk hw hm rfl (hs.blk b k hb),hs.inj,hs.notM,fun n hn=>qOG (hs.ltM n hn) hsz,hs.M0,hs.newM,ho.trans hs.os,ht.trans hs.tape,hp.trans hs.output,
  qO2 hs.size hsz,fun n hn hi=>(hf n hn).trans (hs.frame n hn hi),hs.imps,hs.impc,hs.fresh,hk⟩,hm⟩
theorem qwv {w:World}{o o':Obj}(h:w.heap[n]?=some o)(ho:qmP o)(ho':qmP o'):SameCells w (w.putObj n o'):=by
 have hn:=(qO4.1 h).1;refine⟨fun m c T fr hm=>?_,fun a _=>?_⟩
 ·by_cases e:m=n
  ·subst e;rw[h] at hm;exact absurd (qOE hm) (ho _ _ _)
  ·rw[World.putObj_heap_other e];exact hm
 ·by_cases e:a.block=n
  ·unfold World.cell?;rw[e,h,World.putObj_heap_same hn];cases o'<;>cases o<;>first|rfl|exact absurd rfl (ho _ _ _)|exact absurd rfl (ho' _ _ _)
  ·exact qP2 (World.putObj_heap_other e)
theorem qbI (hs:HSim B X){o o':Obj}(hk:(n,o)∈X.kept)(ho':qmP o') :HSim B { X with w:=X.w.putObj n o',kept:=qcv n o' X.kept }/\Move0 X { X with w:=X.w.putObj n o',kept:=qcv n o' X.kept } some:=by
 obtain⟨h1,h2,h3⟩:=hs.kept _ hk;simp only at h1 h2 h3;have hn:=(qO4.1 h1).1;refine qzd hs (qwv h1 h2 ho') (by simp) rfl rfl rfl (fun m hm=>World.putObj_heap_other (by omega)) fun p hp=>?_;rcases qlC hp with rfl|⟨hp,hne⟩
 ·exact⟨World.putObj_heap_same hn,ho',h3⟩
 ·obtain⟨g1,g2,g3⟩:=hs.kept p hp;exact⟨by rw[World.putObj_heap_other hne];exact g1,g2,g3⟩
theorem qnA (hs:HSim B X){o:Obj}(ho:qmP o) :HSim B { X with w:=X.w.alloc o,kept:=(X.w.heap.size,o)::X.kept }/\Move0 X { X with w:=X.w.alloc o,kept:=(X.w.heap.size,o)::X.kept } some:=by
 refine qzd hs ⟨fun m c T fr hm=>?_,fun a ha=>qP2 (zW _ _ ha)⟩ (by simp) rfl rfl rfl (fun m hm=>zW _ _ (qOG hm hs.size)) fun p hp=>?_
 ·rw[zW _ _ (qO4.1 hm).1];exact hm
 ·rcases qOj.1 hp with rfl|hp
  ·exact⟨zS _ _,ho,hs.size⟩
  ·obtain⟨g1,g2,g3⟩:=hs.kept p hp;exact⟨by rw[zW _ _ (qO4.1 g1).1];exact g1,g2,g3⟩
theorem qAD (hs:HSim B X){p:Nat×Obj}(h:p∈X.kept):p.1<X.w.heap.size:=(qO4.1 (hs.kept p h).1).1
mutual
theorem Rep.setY'{X:Ctx}(l:Nat):∀{av:AV} {v:Value},Rep X av v->av.noY=true->Rep { X with y:=l } av v
 | _,_,.undef v,_=>.undef v
 | _,_,.skip,_=>.skip
 | _,_,.yld,h=>by cases h
 | _,_,.blit b,_=>.blit b
 | _,_,.bool b,_=>.bool b
 | _,_,.ilit k n,_=>.ilit k n
 | _,_,.int k n,_=>.int k n
 | _,_,.str s,_=>.str s
 | _,_,.nilp,_=>.nilp
 | _,_,.ptr b off n hb hσ,_=>.ptr b off n hb hσ
 | _,_,.eptr sh l i off a hsp h0 h1 hr,_=>.eptr sh l i off a hsp h0 h1 hr
 | _,_,.mnil sh l i off,_=>.mnil sh l i off
 | _,_,.mptr sh l i off a hsp h0 h1 hr,_=>.mptr sh l i off a hsp h0 h1 hr
 | _,_,.vptr b i off n k hb hσ h,_=>.vptr b i off n k hb hσ h
 | _,_,.vsub b i n k m c hb hσ h,_=>.vsub b i n k m c hb hσ h
 | _,_,.aptr b o i n hb hσ h0,_=>.aptr b o i n hb hσ h0
 | _,_,.asub b o N i m n k c hb hσ h0 h1 h2 h3,_=>.asub b o N i m n k c hb hσ h0 h1 h2 h3
 | _,_,.nils,_=>.nils
 | _,_,.imm sh l v h,_=>.imm sh l v h
 | _,_,.full sh l p n h,_=>.full sh l p n h
 | _,_,.vec b p nn cc hb h,_=>.vec b p nn cc hb h
 | _,_,.nilf,_=>.nilf
 | _,_,.fn g first caps vf vc h1 h2,h=>by
  simp only[AV.noY,qOd] at h;exact .fn g _ _ vf vc (RepL.setY' l h1 h.1) (RepL.setY' l h2 h.2)
 | _,_,.agg cs vs h1,h=>.agg _ vs (RepL.setY' l h1 (by simpa only [AV.noY] using h))
 | _,_,.tuple cs vs h1,h=>.tuple _ vs (RepL.setY' l h1 (by simpa only [AV.noY] using h))
 | _,_,.bagg cs k n r vs h1 hl,h=>.bagg _ k n r vs (RepL.setY' l h1 (by simpa only [AV.noY] using h)) hl
theorem RepL.setY'{X:Ctx}(l:Nat):∀{av:List AV} {v:List Value},RepL X av v->AV.noYL av=true->RepL { X with y:=l } av v
 | _,_,.nil,_=>.nil
 | _,_,.cons h1 t,h=>by
  simp only[AV.noYL,qOd] at h;exact .cons (Rep.setY' l h1 h.1) (RepL.setY' l t h.2)
end
theorem Rep.setY (l:Nat){av:AV}{v:Value}(h:av.noY=true)(hr:Rep X av v):Rep { X with y:=l } av v:=hr.setY' l h
theorem RepL.setY (l:Nat){av:List AV}{v:List Value}(h:AV.noYL av=true)(hr:RepL X av v):RepL { X with y:=l } av v:=hr.setY' l h
theorem HSim.setY (h:HSim B X)(l:Nat)(hy:X.h.all Blk.noY=true):HSim B { X with y:=l }:=by
 refine⟨fun b k hb=>?_,h.inj,h.notM,h.ltM,h.M0,h.newM,h.os,h.tape,h.output,h.size,h.frame,h.imps,h.impc,h.fresh,h.kept⟩;have h1:=h.blk b k hb;cases k with
 | cells cs=>
  obtain⟨n,c,T,e1,e2,e3⟩:=h1;have:(Blk.cells cs).noY=true:=qOy.1 hy _ (qON hb);exact⟨n,c,T,e1,e2,e3.setY l this⟩
 | big cs k N r=>
  obtain⟨n,c,T,vs,e1,e2,e3,e4,e5⟩:=h1;have:(Blk.big cs k N r).noY=true:=qOy.1 hy _ (qON hb);exact⟨n,c,T,vs,e1,e2,e3.setY l this,e4,e5⟩
 | vec e sh l=>exact h1
 | frz e sh l=>exact h1
 | dead=>trivial
theorem qAd {gl:List (Nat×AV)}(h:q3b gl X)(l:Nat):q3b gl { X with y:=l }:=by intro x hx;obtain⟨⟨sh,r,i,off,he⟩,hr⟩:=h x hx;refine⟨⟨sh,r,i,off,he⟩,hr.move (fun _ h=>h) (fun _ _=>rfl) (Rep.setY l (by rw[he];rfl) hr.1)⟩
theorem qje {gl:List (Nat×AV)}{X X':Ctx}(hm:Move0 X X' some)(h:q3b gl X):q3b gl X':=fun x hx=>⟨(h x hx).1,(h x hx).2.move hm.M hm.w ((h x hx).2.1.ext0 hm)⟩
theorem Sim.moveB {E:Env}{B B':Base}{X X':Ctx}{st:St}{a:Act}(hs:Sim E B X st a)(h1:HSim B' X')(h2:Move0 X X' some)(h3:X'.h=X.h)(hfs:B'.fs=B.fs)(hy:B'.y=B.y)(hi:B'.imps=B.imps){ds:List Deferred} (h4:qCk X'.kept (B'.pin st.pend) ds) (h5:∀p,p∈B'.pin st.pend->p∈X'.kept):Sim E B' X' st { a with defers:=ds }:=⟨h1,h3.trans hs.h,hs.t.ext0 h2,hfs▸hs.fs.ext0 h2,qje h2 hs.glob,h4,hi▸hs.ni,(h2.y.trans hs.y).trans hy.symm,h5⟩
def Ex.out:Ex->Exit
 | .normal=>.normal
 | .exit i=>.exit i
 | .ret=>.ret
def qB9(E:Env)(B:Base)(r:Ex×St):Exit->Act->World->Prop:=fun e a w=>e=r.1.out/\∃X',X'.w=w/\Sim E B X' r.2 a
def Ex.code:Ex->Code
 | .normal=>.skip
 | .exit i=>.exit i
 | .ret=>.ret
def q78(fid:FuncId)(ct:Array Value)(ps:Array Tmp)(a b:Code)(D:Nat)(e:Option Ex):Loop:={ state:=if e.isNone then .ready else .done,pending:=e.map Ex.code,fn:=fid,tmps:=ct,params:=ps,assign:=a,body:=b,defers:=D }
def qZ:Code->List Code
 | .seq a b=>.seq a b::(qZ a++qZ b)
 | .cond _ a b=>qZ a++qZ b
 | .block _ c=>qZ c
 | .scope c=>qZ c
 | .loop c=>.loop c::qZ c
 | .rangeFunc x ps a b=>.rangeFunc x ps a b::(qZ a++qZ b)
 | _=>[]
def qBJ(P:Program)(yc:FuncId×Nat)(B:Base):Prop:=
 ∃(fn:Func) (c:Code) (x:Operand) (ps:Array Tmp) (a b:Code),P.funcs[yc.1]?=some fn/\fn.body=some c/\(qZ c)[yc.2]?=some (.rangeFunc x ps a b) /\
  ∃(ct:Array Value) (rest:List (List Value)) (D fid:Nat) (more:List (Nat×Obj)),B.fs=ct.toList::rest/\(∀e,B.pin e=(B.y,.loop (q78 fid ct ps a b D e))::more)/\(∀p,p∈more->p.1≠B.y)/\B.ro=none
def qH(P:Program)(it:List (FuncId×FuncId×Nat))(f:FuncId)(B:Base):Prop:=
 (B.ro.isSome=true->2<=B.fs.length)/\match qjv it f with
  | none=>True
  | some yc=>qBJ P yc B
structure SimF (E:Env) (B:Base) (X:Ctx) (st:St):Prop where
 hs:HSim B X
 h:X.h=st.h
 fs:RepLL X (st.t::st.fs) B.fs
 glob:q3b E.glob X
 ni:B.imps.length<=E.nimp
 y:X.y=B.y
 pin:∀p,p∈B.pin st.pend->p∈X.kept
def YOK(E:Env)(P:Program)(y:qEF)(B:Base):Prop:=
 ∀(args:List AV) (st:St) (r:AV×St) (X:Ctx) (a:Act) (vargs:List Value),Sim E B X st a->RepL X args vargs->(y args st).run=some r ->
  ∃(l:Nat) (f:FuncId) (tmps:Array Value) (assign body:Code),(Instr.yield X.y vargs.toArray).run P X.w=.ok (.round l f tmps assign body) X.w /\
  ∀n,RoundIn (q4B B.ro) n P l f tmps assign body X.w fun e w'=>∃v X',e=.returned v/\X'.w=w'/\Rep X' r.1 v/\Sim E B X' r.2 a
def qlJ(E:Env)(P:Program)(rangeH:qdW):Prop:=
 ∀(g:FuncId) (y:qEF) (args:List AV) (st:St) (r:AV×St) (B:Base) (X:Ctx) (vargs:List Value),SimF E B X st->qH P E.iter g B->(∀B',qH P E.iter g B'->YOK E P y B')->B.ro=none ->
  RepL X args vargs->(rangeH g y args st).run=some r ->
  (∀w,(callFunc g vargs.toArray).run P w=.ok (.enter g vargs.toArray) w) /\
  Calls P g vargs.toArray X.w fun e w'=>∃v X',e=.returned v/\X'.w=w'/\Rep X' r.1 v/\SimF E B X' r.2
theorem qw5{X:Ctx}:∀(ps:List Tmp) {ct:List AV} {tmps:Array Value} {args:List AV} {vargs:List Value},RepL X ct tmps.toList->RepL X args vargs ->
  RepL X (qsU ct ps args) ((ps.zip vargs).foldl (fun (tmps:Array Value) (p:Tmp×Value)=>tmps.setIfInBounds p.1 p.2) tmps).toList
 | [],_,_,args,_,h,_=>by cases args<;>simpa[qsU] using h
 | p::ps,ct,tmps,_,_,h,.nil=>by simpa[qsU] using h
 | p::ps,ct,tmps,_,_,h,.cons h1 h2=>by
  simp only[qsU,List.zip_cons_cons,qPN];exact qw5 ps (by rw[Array.toList_setIfInBounds];exact RepL.set h1 h p) h2
theorem qDx {E:Env}{P:Program}{f:FuncId}{k:Nat}{fn:Func}{cb:Code}(hf:P.funcs[f]?=some fn)(hb:fn.body=some cb){x:Operand}{ps:Array Tmp}{a b:Code}(hk:(qZ cb)[k]?=some (.rangeFunc x ps a b)){evA evB:St->Tree (Ex×St)} (hni:q80 E.iter f=true)(hA:∀(B:Base) (X:Ctx) (st:St) (act:Act) (r:Ex×St),qH P E.iter f B->Sim E B X st act->(evA st).run=some r->∀n,a.wpIn (q4B B.ro) n P (qB9 E B r) act X.w)(hB:∀(B:Base) (X:Ctx) (st:St) (act:Act) (r:Ex×St),qH P E.iter f B->Sim E B X st act->(evB st).run=some r->∀n,b.wpIn (q4B B.ro) n P (qB9 E B r) act X.w){B:Base} (hI:qBJ P (f,k) B):YOK E P (qzw evA evB ps.toList) B:=by
 intro args st r X act vargs hs hargs hr;obtain⟨fn',c',x',ps',a',b',q1,q2,q3,ct,rest,D,fid,more,q4,q5,q6,q7⟩:=hI;simp only at q1 q3;rw[hf] at q1;cases q1;rw[hb] at q2;cases q2;rw[hk] at q3;cases q3;unfold qzw at hr;cases hp:st.pend with
 | some e=>rw[hp] at hr;cases hr
 | none=>
 rw[hp] at hr;cases hfs:st.fs with
 | nil=>rw[hfs] at hr;cases hr
 | cons ctA fsA=>
 rw[hfs] at hr;simp only at hr;cases hlen:Nat.beq args.length ps.toList.length with
 | false=>rw[hlen] at hr;cases hr
 | true=>
 rw[hlen] at hr;simp only at hr;have hlen':=qP0 hlen;obtain⟨rA,h1,h2⟩:=bind_some hr;obtain⟨xA,sA⟩:=rA;cases xA with
 | exit i=>cases h2
 | ret=>cases h2
 | normal=>
 simp only at h2;obtain⟨rB,h3,h4⟩:=bind_some h2;have hpin:=hs.pin;have hdf:=hs.df;rw[hp,q5] at hpin hdf;have hrec:(B.y,.loop (q78 fid ct ps a b D none))∈X.kept:=hpin _ qOm;have hheap:=(hs.hs.kept _ hrec).1;simp only at hheap;have hfsR:=hs.fs;rw[hfs,q4] at hfsR;have hct:RepL X ctA ct.toList:=by cases hfsR with|cons g1 g2=>exact g1
 refine⟨B.y,fid,((ps.zip vargs.toArray).foldl (fun (tmps:Array Value) (p:Tmp×Value)=>tmps.setIfInBounds p.1 p.2) ct),a,b,?_,fun n=>?_⟩
 ·rw[hs.y];exact run_yield (r:=q78 fid ct ps a b D none) hheap (by simp only[q78,List.size_toArray];rw[<-hargs.length,hlen',Array.length_toList])
 rw[q7];apply roundIn_of_wpIn (F:=q4B none) trivial
 let BR:Base:={ B with ro:=some B.y,fs:=act.tmps.toList::B.fs,pin:=fun _=>X.kept }
 have hbR:∀pin,qH P E.iter f { BR with pin:=pin }:=by
  intro pin;refine⟨fun _=>?_,?_⟩
  ·show 2<=(act.tmps.toList::B.fs).length;rw[q4];simp
  ·unfold q80 at hni;split at hni
   ·cases hni
   ·rename_i hn;rw[hn];trivial
 have hsR:Sim E BR X { t:=qsU ctA ps.toList args,fs:=st.t::ctA::fsA,h:=st.h,pend:=none } { tmps:=((ps.zip vargs.toArray).foldl (fun (tmps:Array Value) (p:Tmp×Value)=>tmps.setIfInBounds p.1 p.2) ct),defers:=[] }:=by
  refine⟨hs.hs.base rfl rfl rfl,hs.h,?_,?_,hs.glob,qCk.nil,hs.ni,hs.y,fun p hp=>hp⟩
  ·have:=qw5 ps.toList hct hargs;rw[<-Array.foldl_toList,Array.toList_zip];exact this
  ·show RepLL X _ (act.tmps.toList::B.fs);rw[<-hfs];exact .cons hs.t hs.fs
 refine wpIn_mono (hA BR X _ _ _ (hbR _) hsR h1 n) fun e a1 w1 ⟨he,X1,hw1,hs1⟩=>?_;subst he hw1;have hrec1:(B.y,.loop (q78 fid ct ps a b D none))∈X1.kept:=hs1.pin _ hrec;obtain⟨g1,g2⟩:=qbI hs1.hs (o':=.loop { q78 fid ct ps a b D none with state:=.busy }) hrec1 (fun _ _ _ h=>by cases h);refine⟨_,run_beginRound (r:=q78 fid ct ps a b D none) (hs1.hs.kept _ hrec1).1 rfl,?_⟩
 let pinB:List (Nat×Obj):=qcv B.y (.loop { q78 fid ct ps a b D none with state:=.busy }) X.kept
 obtain⟨Ds1,d1,d2,d3⟩:=hs1.df;have hsB:Sim E { BR with pin:=fun _=>pinB } { X1 with w:=X1.w.putObj B.y (.loop { q78 fid ct ps a b D none with state:=.busy }),kept:=qcv B.y (.loop { q78 fid ct ps a b D none with state:=.busy }) X1.kept } sA a1:=by
  refine hs1.moveB (B':={ BR with pin:=fun _=>pinB }) (ds:=a1.defers) (g1.base rfl rfl rfl) g2 rfl rfl rfl rfl ⟨Ds1,d1,d2,fun D' hD'=>⟨q0C (d3 D' hD').1 (fun e=>(d3 D' hD').2 _ hrec e.symm),fun p hp=>?_⟩⟩ fun p hp=>?_
  ·rcases qlC hp with hp|⟨hp,_⟩
   ·rw[hp];exact fun e=>(d3 D' hD').2 _ hrec e
   ·exact(d3 D' hD').2 _ hp
  ·rcases qlC hp with rfl|⟨hp,hne⟩
   ·exact qiG hrec1
   ·exact q0C (hs1.pin _ hp) hne
 refine wpIn_mono (hB _ _ _ _ _ (hbR _) hsB h3 n) fun e2 a2 w2 ⟨he2,X2,hw2,hs2⟩=>?_;subst he2 hw2;obtain⟨xB,sB⟩:=rB;have hrec2:(B.y,.loop { q78 fid ct ps a b D none with state:=.busy })∈X2.kept:=hs2.pin _ (qiG hrec);have hlie2:=(hs2.hs.kept _ hrec2).1;simp only at hlie2;simp only at h4;cases hfs2:sB.fs with
 | nil=>rw[hfs2] at h4;cases h4
 | cons itA fs'=>
 rw[hfs2] at h4;simp only at h4;have fin:∀(e:Option Ex) (_:r=(.blit e.isNone,{ t:=itA,fs:=fs',h:=sB.h,pend:=e })) (_:e=none\/∃x,e=some x),
   ∃v w',(Instr.endRound B.y (e.map Ex.code)).run P X2.w=.ok v w'/\∃v' X',Ending.returned v=.returned v'/\X'.w=w'/\Rep X' r.1 v'/\Sim E B X' r.2 act:=by
  intro e hre _;have hend:=run_endRound (P:=P) (r:={ q78 fid ct ps a b D none with state:=.busy }) (e.map Ex.code) hlie2;have hobj:({ ({ q78 fid ct ps a b D none with state:=.busy }:Loop) with state:=if (e.map Ex.code).isNone then .ready else .done,pending:=e.map Ex.code }:Loop)=q78 fid ct ps a b D e:=by cases e<;>rfl
  rw[hobj] at hend;obtain⟨k1,k2⟩:=qbI hs2.hs (o':=.loop (q78 fid ct ps a b D e)) hrec2 (fun _ _ _ h=>by cases h);refine⟨_,_,hend,_,{ X2 with w:=X2.w.putObj B.y (.loop (q78 fid ct ps a b D e)),kept:=qcv B.y (.loop (q78 fid ct ps a b D e)) X2.kept },rfl,rfl,?_,?_⟩
  ·rw[hre];have:(e.map Ex.code).isNone=e.isNone:=by cases e<;>rfl
   rw[this];exact .blit _
  ·have hfs3:=hs2.fs;rw[hfs2] at hfs3;have hfs4:=hfs3.ext0 k2;have hold:∀p,p∈X.kept->p.1≠B.y->p∈qcv B.y (.loop (q78 fid ct ps a b D e)) X2.kept:=fun p hp hne=>
    q0C (hs2.pin p (q0C hp hne)) hne
   rw[hre];refine⟨k1.base rfl rfl rfl,hs2.h,?_,?_,qje k2 hs2.glob,?_,hs.ni,hs2.y,?_⟩
   ·cases hfs4 with|cons z1 z2=>exact z1
   ·cases hfs4 with|cons z1 z2=>exact z2
   ·obtain⟨Ds,m1,m2,m3⟩:=hdf;refine⟨Ds,m1,m2,fun D' hD'=>⟨hold _ (m3 D' hD').1 (fun e'=>(m3 D' hD').2 _ qOm e'.symm),fun p hp=>?_⟩⟩;rw[q5] at hp;rcases qOj.1 hp with rfl|hp
    ·exact(m3 D' hD').2 (B.y,.loop (q78 fid ct ps a b D none)) qOm
    ·exact(m3 D' hD').2 p (qOo _ hp)
   ·intro p hp;rw[q5] at hp;rcases qOj.1 hp with rfl|hp
    ·exact qiG hrec2
    ·exact hold p (hpin p (qOo _ hp)) (q6 p hp)
 cases xB with
 | normal=>
  simp only[Tree.run,qNY] at h4;exact fin none h4.symm (.inl rfl)
 | ret=>
  simp only[Tree.run,qNY] at h4;exact fin (some .ret) h4.symm (.inr ⟨_,rfl⟩)
 | exit i=>
  simp only[Tree.run,qNY] at h4;exact fin (some (.exit i)) h4.symm (.inr ⟨_,rfl⟩)
theorem qzS{E:Env}{P:Program}{B:Base}{fn:Func}{st:St}{R:Ending->World->Prop}{n:Nat}:∀(Ds:List Nat) {X:Ctx} {a:Act},Sim E B X st a->a.defers=Ds.map qkN ->
  (∀X',Sim E B X' st { a with defers:=[] }->∃v,(results fn a.tmps).run P X'.w=.ok v X'.w/\R (.returned v) X'.w)->LeavesInM (q4B none) n P fn a.tmps R (Ds.map qkN) .returning X.w
 | [],X,a,hs,hd,h=>by
  have:({ a with defers:=[] }:Act)=a:=by obtain⟨t,d⟩:=a;simp only[List.map_nil] at hd;rw[hd]
  rw[this] at h;exact h X hs
 | D::Ds,X,a,hs,hd,h=>by
  obtain⟨Ds',d1,d2,d3⟩:=hs.df;have hDs:Ds'=D::Ds:=by
   rw[hd] at d1;have inj:∀(l m:List Nat),l.map qkN=m.map qkN->m=l:=by
    intro l;induction l with
    | nil=>intro m hm;cases m with
     | nil=>rfl
     | cons _ _=>cases hm
    | cons x l ih=>intro m hm;cases m with
     | nil=>cases hm
     | cons y m=>
      simp only[qP5,qPF,qkN,Deferred.mk.injEq,Target.collected.injEq,and_true] at hm;rw[ih m hm.2,hm.1]
   exact inj _ _ d1
  subst hDs;obtain⟨m1,m2⟩:=d3 D qOm;have hlie:=(hs.hs.kept _ m1).1;simp only at hlie;obtain⟨g1,g2⟩:=qbI hs.hs (o':=.deferred none) m1 (fun _ _ _ h=>by cases h);have hnd:=List.nodup_cons.1 d2;have hs':=hs.moveB (B':=B) (ds:=Ds.map qkN) g1 g2 rfl rfl rfl rfl ⟨Ds,rfl,hnd.2,fun D' hD'=>⟨q0C (d3 D' (qOo _ hD')).1 (fun e=>hnd.1 (e▸hD')),(d3 D' (qOo _ hD')).2⟩⟩
   (fun p hp=>q0C (hs.pin p hp) (m2 p hp))
  refine⟨by simp,.inl ⟨D,_,rfl,run_takeDeferred hlie,?_⟩⟩;exact qzS Ds (a:={ a with defers:=Ds.map qkN }) hs' rfl h
end Go.Eng

