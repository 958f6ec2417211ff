/- Texts of the proof, merged: what the code computes, and plain laws. No statement stands here. -/
import Derived.Shelf.Strings.SlTrimAscii
import Derived.Shelf.Strings.Search2
import Derived.Shelf.Small.Strs
import Derived.Shelf.Strconv.Itoa3
import Derived.Shelf.Strconv.Atoi
import Derived.Shelf.Strings.BuilderK
import Derived.Shelf.LaysM
import Derived.Test.YtehgceikghodkaaGreatDoorProg
import Derived.WalkKit
import Derived.BigCall
import Derived.Deep.RegionWith
import Derived.Laws.Externs
import Derived.Lib.Builder
import Derived.Lib.AppendStr
import Derived.KernelRfl
import Derived.Test.YtehgceikghodkaaGreatDoorM2
namespace Go.Eng
open Go.Shelf Go.RowKit Go.Proofs Go.Sort
theorem qji(w:World)(q:Nat)(os:Array Obj):Below w.heap.size w (grow (w.drewN q) os):=
 ⟨rfl,rfl,rfl,by simp[grow],fun i hi=>by
  show ((w.drewN q).heap++os)[i]?=_
  rw[Array.getElem?_append_left (by show i<w.heap.size;omega)]
  rfl⟩
theorem qqh(w:World)(e:TypeId)(s:ByteArray):Below w.heap.size w (Lib.bytesWorld w e s):=
 ⟨rfl,rfl,rfl,by rw[Lib.bytesWorld_size];omega,fun k hk=>Lib.bytesWorld_at_old w e s k (by omega)⟩
theorem HSim.grow{B:Base}{X:Ctx}(hs:HSim B X){w':World}(hb:Below X.w.heap.size X.w w'):HSim B { X with w:=w' }∧Ext X { X with w:=w' }:=by
 have hold:∀n (o:Obj),X.w.heap[n]?=some o→w'.heap[n]?=some o:=fun n o h=>(hb.block n (Array.getElem?_eq_some_iff.1 h).1).trans h
 have hx:Ext X { X with w:=w' }:=Move.of (fun _ h=>h) (fun a ha=>World.cell?_of_block (hb.block _ (hs.ltM _ ha))) (fun b b' hb' h=>by
  cases h
  exact⟨hb',rfl,fun _ _ h=>h,fun _ _ _ n _ c T fr h=>⟨c,T,fr,hold n _ h,rfl⟩⟩)
 refine⟨⟨fun b k hk=>?_,hs.inj,hs.notM,fun n hn=>Nat.lt_of_lt_of_le (hs.ltM n hn) hb.size,hs.M0,hs.newM,hb.os.trans hs.os,hb.tape.trans hs.tape,hb.output.trans hs.output,Nat.le_trans hs.size hb.size,
  fun n hn hni=>?_,hs.imps,hs.impc,hs.fresh,fun p hp=>?_⟩,hx⟩
 ·by_cases hd:k=.dead
  ·subst hd;trivial
  ·exact yl.ext hx rfl (fun n hn=>hb.block n (hs.lt hk hd hn)) (hs.blk b k hk)
 ·show w'.heap[n]?=_
  rw[hb.block n (Nat.lt_of_lt_of_le hn hs.size)]
  exact hs.frame n hn hni
 ·obtain⟨q1,q2,q3⟩:=hs.kept p hp
  exact⟨hold _ _ q1,q2,q3⟩
theorem qek{P:Program}{gl:List (Nat×AV)}{f:FuncId}{i:FIn}{o:FOut}{T:List PV→TR}(he:qhW P f)(hi:i.h.all BP.isCells=true)
  (h:∀(B:Base) (X:Ctx) (ps:List PV) (j:Nat) (qs:List PV) (vargs:List Value),HSim B X→qaA gl X→X.h=(i.make ps).2→RepL X (i.make ps).1 vargs→ps.map PV.kind=i.kinds→(T ps).run=some (j,qs) →
   j=0∧qs.map PV.kind=o.kinds∧(o.make qs).2=(i.make ps).2∧Calls P f vargs.toArray X.w fun e w'=>∃v,e=.returned v∧Below X.w.heap.size X.w w'∧Rep X (o.make qs).1 v) :
  zh P gl f (q9 i [o] T):=by
 refine⟨he,fun B X args vargs r hs hen hgl ha hr=>?_⟩
 obtain⟨ps,j,qs,h1,h2,h3⟩:=qpy hr
 unfold FIn.take at h1
 obtain⟨x,y,g1,g2,rfl⟩:=q2N h1
 obtain⟨a1,a2,a3⟩:=AP.takeL_ok (X:=X) _ _ x y g1
 obtain⟨b1,b2,b3,b4,b5⟩:=BP.takeL_ok (X:=X) _ _ y [] g2
 rw[List.append_nil] at b3 b5
 have himp:B.imps.length=X.h.length:=by rw[hen.imps];simp
 obtain⟨d1,d2⟩:=qb1 hs (h':=(BP.makeL i.h y).1) b3 (fun b k' hb=>by obtain⟨k0,e1,e2,_⟩:=b5 b k' hb;exact⟨k0,e1,e2⟩)
  (fun b hb k' hk'=>by
   obtain⟨k0,_,_,e3⟩:=b5 b k' hk'
   have hlt:b<i.h.length:=by omega
   exact e3 i.h[b] (List.getElem?_eq_getElem hlt) (List.all_eq_true.1 hi _ (List.getElem_mem hlt)))
 have hkd:(x++y).map PV.kind=i.kinds:=by simp[FIn.kinds,a2,b2]
 have hgl1:qaA gl ({ X with h:=(BP.makeL i.h y).1 }:Ctx):=fun z hz=>⟨(hgl z hz).1,(hgl z hz).2.move d2.M d2.w ((hgl z hz).2.1.ext d2)⟩
 have hmk:i.make (x++y)=((AP.makeL i.args (x++y)).1,(BP.makeL i.h y).1):=by simp only[FIn.make,a1]
 obtain⟨k1,k2,k3,k4⟩:=h B _ (x++y) j qs vargs d1 hgl1 (by rw[hmk]) (by rw[hmk];exact(a3 _ ha).ext d2) hkd h2
 subst k1
 refine k4.mono fun e w' ⟨v,e1,e2,e3⟩=>?_
 obtain⟨m1,m2⟩:=d1.grow e2
 have hre:=qp8 h2 [o] 0 o r (Nat.zero_le _) rfl k2 h3
 subst hre
 exact⟨v,_,e1,rfl,e3.ext m2,by rw[k3,hmk],m1,rfl⟩
theorem qsH{X:Ctx}{s:List UInt8}{vs:List Value}(h:RepL X [.str s] vs):vs=[.string ⟨s.toArray⟩]:=by
 cases h with
 | cons h t=>cases h;cases t;rfl
theorem qsQ{X:Ctx}{k:IntKind}{n:Int}{vs:List Value}(h:RepL X [.int k n] vs):vs=[.int k n]:=by
 cases h with
 | cons h t=>cases h;cases t;rfl
theorem qkz{X:Ctx}{s t:List UInt8}{vs:List Value}(h:RepL X [.str s,.str t] vs):vs=[.string ⟨s.toArray⟩,.string ⟨t.toArray⟩]:=by
 cases h with
 | cons h t=>cases h;rw[qsH t]
theorem qyq{ps:List PV}(h:ps.map PV.kind=[.s]):∃s,ps=[.s s]:=by
 match ps,h with
 | [.s s],_=>exact⟨s,rfl⟩
theorem qys{ps:List PV}(h:ps.map PV.kind=[.i]):∃s,ps=[.i s]:=by
 match ps,h with
 | [.i s],_=>exact⟨s,rfl⟩
theorem qoN{ps:List PV}(h:ps.map PV.kind=[.s,.s]):∃s t,ps=[.s s,.s t]:=by
 match ps,h with
 | [.s s,.s t],_=>exact⟨s,t,rfl⟩
def qpm:List PV→TR
 | [.s s,.s [c]]=>.leaf (0,[.i (Lib.indexByte s c)])
 | _=>.fail
theorem qrU{P:Program}{ρ:Ren}(L:Lays.n219 P ρ)(he:qhW P (ρ.f 219)){gl:List (Nat×AV)} :
  zh P gl (ρ.f 219) (q9 { args:=[.str,.str],h:=[] } [{ res:=.int .i64,h:=[] }] qpm):=
 qek he rfl fun B X ps j qs vargs hs hg hh ha hk hT=>by
  obtain⟨s,t,rfl⟩:=qoN hk
  unfold qpm at hT
  split at hT
  ·rename_i s' c hps
   simp only[List.cons.injEq,PV.s.injEq,and_true] at hps
   obtain⟨rfl,rfl⟩:=hps
   cases hT
   have:=qkz ha
   subst this
   refine⟨rfl,rfl,rfl,(Any.stringslite_Index_one L ⟨s.toArray⟩ c X.w).mono fun e w' ⟨h1,h2⟩=>?_⟩
   subst h2
   exact⟨_,h1,Below.refl _ _,.int _ _⟩
  ·cases hT
def qke:List PV→TR
 | [.s s,.s t]=>.leaf (0,[.i (Lib.compareBytes s t)])
 | _=>.fail
theorem qoS{P:Program}{ρ:Ren}(L:Lays.n106 P ρ)(he:qhW P (ρ.f 106)){gl:List (Nat×AV)} :
  zh P gl (ρ.f 106) (q9 { args:=[.str,.str],h:=[] } [{ res:=.int .i64,h:=[] }] qke):=
 qek he rfl fun B X ps j qs vargs hs hg hh ha hk hT=>by
  obtain⟨s,t,rfl⟩:=qoN hk
  cases hT
  have:=qkz ha
  subst this
  refine⟨rfl,rfl,rfl,(Any.strings_Compare L ⟨s.toArray⟩ ⟨t.toArray⟩ X.w).mono fun e w' ⟨h1,h2⟩=>?_⟩
  subst h2
  exact⟨_,h1,Below.refl _ _,.int _ _⟩
def quK:List PV→TR
 | [.s s,.s t]=>if s.length≤9223372036854775807∧t.length<4294967281∧t.all (fun b=>decide (b.toNat<128))=true then .leaf (0,[.s (Lib.trimS s t)]) else .fail
 | _=>.fail
theorem qt7{P:Program}{ρ:Ren}(L:Lays.n160 P ρ)(he:qhW P (ρ.f 160))(h116:(P.info? (ρ.t 116)).map (fun i=>(i.zero,i.size))=some (some (.agg (Array.replicate 256 (.bool false))),256)){gl:List (Nat×AV)} :
  zh P gl (ρ.f 160) (q9 { args:=[.str,.str],h:=[] } [{ res:=.str,h:=[] }] quK):=
 qek he rfl fun B X ps j qs vargs hs hg hh ha hk hT=>by
  obtain⟨s,t,rfl⟩:=qoN hk
  simp only[quK] at hT
  split at hT
  ·rename_i hc
   cases hT
   have:=qkz ha
   subst this
   refine⟨rfl,rfl,rfl,(Any.strings_Trim_laid L h116 ⟨s.toArray⟩ ⟨t.toArray⟩ X.w (by simpa[ByteArray.size] using hc.1) (by simpa[ByteArray.size] using hc.2.1) (fun j b hj=>?_)).mono fun e w' ⟨h1,h2⟩=>⟨_,h1,h2,.str _⟩⟩
   have h3:=hc.2.2
   rw[List.all_eq_true] at h3
   simpa using h3 b (List.mem_of_getElem? hj)
  ·cases hT
def qxz:R:=[Lib.pow10Tab.map U.i]
def qvx:List PV→TR
 | [.i n]=>if -9223372036854775808≤n∧n≤9223372036854775807 then .leaf (0,[.s (Lib.itoa n)]) else .fail
 | _=>.fail
theorem qm5{P:Program}{X:Ctx}{g:Nat}{k:IntKind}{zs:List Int}{name:String}(hn:P.globalNamed name=some g)(hz:zs≠[])
  (h:qwS X (g,.eptr (zs.map fun _=>.int k) [zs.map U.i] 0 0)):Lib.TabIs P X.w name k zs:=by
 obtain⟨h1,h2,h3⟩:=h
 simp only at h1 h2 h3
 have hcell:∀j (hj:j<zs.length),X.w.cell? ⟨g,j,none⟩=some (.int k zs[j]):=by
  intro j hj
  generalize hv:(Value.pointer (some ⟨g,0,none⟩))=vv at h1
  cases h1 with
  | eptr _ _ _ _ a hsp h0 hl hr=>
   simp only[Value.pointer.injEq,Option.some.injEq,Addr.mk.injEq] at hv
   obtain⟨v1,v2,_⟩:=hv
   obtain⟨hM,v,e1,e2⟩:=hr 0 j (by simpa using hj) (by simp)
   have ho:a.off=0:=by omega
   have e1':X.w.cell? ⟨g,j,none⟩=some v:=by
    rw[Nat.zero_mul,Nat.add_zero,ho,Nat.zero_add,←v1] at e1
    exact e1
   rw[e1']
   have e2':RepU X.w X.M (.int k) (U.i zs[j]) v:=by
    simpa[wY,List.getD_eq_getElem?_getD,hj] using e2
   cases e2'
   rfl
 unfold Lib.TabIs World.var?
 rw[hn]
 simp only[Option.bind_some]
 have h0:=hcell 0 (List.length_pos_iff.2 hz)
 unfold World.cell? at h0
 simp only at h0
 split at h0
 ·rename_i cs T fr hheap
  rw[hheap]
  simp only
  congr 1
  have hsz:cs.size≤zs.length:=by
   have h4:X.w.cell? ⟨g,zs.length,none⟩=none:=by
    simpa[AV.span] using h3
   unfold World.cell? at h4
   simp only[hheap] at h4
   simpa using h4
  apply Array.ext
  ·simp
   rcases Nat.lt_or_ge cs.size zs.length with hlt|hge
   ·have:=hcell cs.size hlt
    unfold World.cell? at this
    simp[hheap] at this
   ·omega
  ·intro j hj hj2
   have hjz:j<zs.length:=by omega
   have:=hcell j hjz
   unfold World.cell? at this
   simp only[hheap] at this
   simp[hj] at this
   simp[this]
 ·cases h0
theorem qtL {P:Program} {ρ:Ren} (L:LaysM.n171 P ρ) (he:qhW P (ρ.f 171)) {gl:List (Nat×AV)} {g:Nat} (hn:P.globalNamed "internal/strconv.uint64pow10" = some g)
  (hg:(g,AV.eptr (Lib.pow10Tab.map fun _=>.int .u64) qxz 0 0)∈gl) :
  zh P gl (ρ.f 171) (q9 { args:=[.int .i64],h:=[] } [{ res:=.str,h:=[] }] qvx):=
 qek he rfl fun B X ps j qs vargs hs hgl hh ha hk hT=>by
  obtain⟨n,rfl⟩:=qys hk
  simp only[qvx] at hT
  split at hT
  ·rename_i hc
   cases hT
   have:=qsQ ha
   subst this
   refine⟨rfl,rfl,rfl,(Any.strconv_Itoa L n hc.1 hc.2 X.w (qm5 hn (by decide) (hgl _ hg).2)).mono fun e w' ⟨h1,k,os,h2⟩=>⟨_,h1,?_,.str _⟩⟩
   subst h2
   exact qji _ _ _
  ·cases hT
def qvJ:List PV→TR
 | [.s s]=>if s.length≤18 then (match Lib.atoi s with|some n=>.leaf (0,[.i n])|none=>.fail) else .fail
 | _=>.fail
theorem qtq{P:Program}{ρ:Ren}(L:Lays.n172 P ρ)(he:qhW P (ρ.f 172)){gl:List (Nat×AV)} :
  zh P gl (ρ.f 172) (q9 { args:=[.str],h:=[] } [{ res:=.tuple [.int .i64,.any],h:=[] }] qvJ):=
 qek he rfl fun B X ps j qs vargs hs hg hh ha hk hT=>by
  obtain⟨s,rfl⟩:=qyq hk
  simp only[qvJ] at hT
  split at hT
  ·rename_i hc
   split at hT
   ·rename_i n hn
    cases hT
    have:=qsH ha
    subst this
    refine⟨rfl,rfl,rfl,(Any.strconv_Atoi L ⟨s.toArray⟩ n (by simpa[ByteArray.size] using hc) (by simpa using hn) X.w).mono fun e w' ⟨h1,t,h2⟩=>⟨_,h1,?_,.tuple _ _ (.cons (.int _ _) (.cons (.undef _) .nil))⟩⟩
    subst h2
    exact qqh _ _ _
   ·cases hT
  ·cases hT
def qvn(s:List UInt8):List UInt8:=qaw (q9J [48,48,48,48,48,48,48,48,48] (ql s) 9) s
def qhg(w:R):Nat→List UInt8
 | 0=>[]
 | i+1=>qvn (Lib.itoa (cI w i 0))++qhg w i
def quQ(b:Bool)(n:Int)(w:R):List UInt8:=if n=0 then [48] else (if b then [45] else [])++Lib.itoa (cI w (n-1) 0)++qhg w (n-1).toNat
def qp2(n:Int)(w:R):Bool:=decide (0≤n)&&decide (n≤232)&&(List.range n.toNat).all fun i=>decide (0≤cI w i 0∧cI w i 0<1000000000)
def qvr:List PV→TR
 | [.b b,.i n,.r w]=>if qp2 n w then .leaf (0,[.s (quQ b n w),.b b,.i n,.r w]) else .fail
 | _=>.fail
end Go.Eng

namespace Go.Proofs
open Go.Shelf
def Tryz.lays219_ren:Go.Shelf.Ren:=⟨fun|219=>217|217=>237|225=>238|224=>239|267=>240|266=>262|314=>263|n=>n,fun|9=>9|3=>3|4=>4|5=>5|46=>272|146=>289|51=>288|n=>n,fun|1=>1|n=>n⟩
theorem Tryz.lays219:Go.Proofs.Lays.n219 Tryz.prog Tryz.lays219_ren:={
 mixed:=by kernel_rfl
 f217:=Tryz.func237.trans (congrArg some (by kernel_rfl))
 f219:=Tryz.func217.trans (congrArg some (by kernel_rfl))
 f224:=Tryz.func239.trans (congrArg some (by kernel_rfl))
 f225:=Tryz.func238.trans (congrArg some (by kernel_rfl))
 f266:=Tryz.func262.trans (congrArg some (by kernel_rfl))
 f267:=Tryz.func240.trans (congrArg some (by kernel_rfl))
 f314:=Tryz.func263.trans (congrArg some (by kernel_rfl))
 t3:=Tryz.underlying3
 a3:=Tryz.isAgg3
 z3:=Tryz.sizeOf3
 v3:=Tryz.zeroValue3
 t4:=Tryz.underlying4
 a4:=Tryz.isAgg4
 z4:=Tryz.sizeOf4
 v4:=Tryz.zeroValue4
 t5:=Tryz.underlying5
 a5:=Tryz.isAgg5
 z5:=Tryz.sizeOf5
 v5:=Tryz.zeroValue5
 t9:=Tryz.underlying9
 a9:=Tryz.isAgg9
 z9:=Tryz.sizeOf9
 v9:=Tryz.zeroValue9
 t46:=Tryz.underlying272
 a46:=Tryz.isAgg272
 z46:=Tryz.sizeOf272
 v46:=Tryz.zeroValue272
 t51:=Tryz.underlying288
 a51:=Tryz.isAgg288
 z51:=Tryz.sizeOf288
 v51:=Tryz.zeroValue288
 t146:=Tryz.underlying289
 a146:=Tryz.isAgg289
 z146:=Tryz.sizeOf289
 v146:=Tryz.zeroValue289
 g1:=by kernel_rfl }
def Tryz.lays106_ren:Go.Shelf.Ren:=⟨fun|106=>193|213=>223|265=>244|n=>n,fun|9=>9|3=>3|n=>n,fun|n=>n⟩
theorem Tryz.lays106:Go.Proofs.Lays.n106 Tryz.prog Tryz.lays106_ren:={
 mixed:=by kernel_rfl
 f106:=Tryz.func193.trans (congrArg some (by kernel_rfl))
 f213:=Tryz.func223.trans (congrArg some (by kernel_rfl))
 f265:=Tryz.func244.trans (congrArg some (by kernel_rfl))
 t3:=Tryz.underlying3
 a3:=Tryz.isAgg3
 z3:=Tryz.sizeOf3
 v3:=Tryz.zeroValue3
 t9:=Tryz.underlying9
 a9:=Tryz.isAgg9
 z9:=Tryz.sizeOf9
 v9:=Tryz.zeroValue9 }
def Tryz.lays160_ren:Go.Shelf.Ren:=⟨fun|160=>154|232=>187|231=>186|227=>188|234=>190|233=>189|236=>192|235=>191|228=>219|271=>222|151=>221|197=>220|120=>243|152=>242|260=>241|137=>264|119=>265|224=>239|225=>238|217=>237|266=>262|n=>n,fun|9=>9|4=>4|3=>3|5=>5|117=>232|116=>231|0=>0|124=>235|21=>21|105=>260|46=>272|119=>291|139=>294|138=>293|n=>n,fun|3=>2|4=>3|n=>n⟩
theorem Tryz.lays160:Go.Proofs.Lays.n160 Tryz.prog Tryz.lays160_ren:={
 mixed:=by kernel_rfl
 f119:=Tryz.func265.trans (congrArg some (by kernel_rfl))
 f120:=Tryz.func243.trans (congrArg some (by kernel_rfl))
 f137:=Tryz.func264.trans (congrArg some (by kernel_rfl))
 f151:=Tryz.func221.trans (congrArg some (by kernel_rfl))
 f152:=Tryz.func242.trans (congrArg some (by kernel_rfl))
 f160:=Tryz.func154.trans (congrArg some (by kernel_rfl))
 f197:=Tryz.func220.trans (congrArg some (by kernel_rfl))
 f217:=Tryz.func237.trans (congrArg some (by kernel_rfl))
 f224:=Tryz.func239.trans (congrArg some (by kernel_rfl))
 f225:=Tryz.func238.trans (congrArg some (by kernel_rfl))
 f227:=Tryz.func188.trans (congrArg some (by kernel_rfl))
 f228:=Tryz.func219.trans (congrArg some (by kernel_rfl))
 f231:=Tryz.func186.trans (congrArg some (by kernel_rfl))
 f232:=Tryz.func187.trans (congrArg some (by kernel_rfl))
 f233:=Tryz.func189.trans (congrArg some (by kernel_rfl))
 f234:=Tryz.func190.trans (congrArg some (by kernel_rfl))
 f235:=Tryz.func191.trans (congrArg some (by kernel_rfl))
 f236:=Tryz.func192.trans (congrArg some (by kernel_rfl))
 f260:=Tryz.func241.trans (congrArg some (by kernel_rfl))
 f266:=Tryz.func262.trans (congrArg some (by kernel_rfl))
 f271:=Tryz.func222.trans (congrArg some (by kernel_rfl))
 t0:=Tryz.underlying0
 a0:=Tryz.isAgg0
 z0:=Tryz.sizeOf0
 v0:=Tryz.zeroValue0
 t3:=Tryz.underlying3
 a3:=Tryz.isAgg3
 z3:=Tryz.sizeOf3
 v3:=Tryz.zeroValue3
 t4:=Tryz.underlying4
 a4:=Tryz.isAgg4
 z4:=Tryz.sizeOf4
 v4:=Tryz.zeroValue4
 t5:=Tryz.underlying5
 a5:=Tryz.isAgg5
 z5:=Tryz.sizeOf5
 v5:=Tryz.zeroValue5
 t9:=Tryz.underlying9
 a9:=Tryz.isAgg9
 z9:=Tryz.sizeOf9
 v9:=Tryz.zeroValue9
 t21:=Tryz.underlying21
 a21:=Tryz.isAgg21
 z21:=Tryz.sizeOf21
 v21:=Tryz.zeroValue21
 t46:=Tryz.underlying272
 a46:=Tryz.isAgg272
 z46:=Tryz.sizeOf272
 v46:=Tryz.zeroValue272
 t105:=Tryz.underlying260
 a105:=Tryz.isAgg260
 z105:=Tryz.sizeOf260
 v105:=Tryz.zeroValue260
 t116:=Tryz.underlying231
 a116:=Tryz.isAgg231
 z116:=Tryz.sizeOf231
 t117:=Tryz.underlying232
 a117:=Tryz.isAgg232
 z117:=Tryz.sizeOf232
 v117:=Tryz.zeroValue232
 t119:=Tryz.underlying291
 a119:=Tryz.isAgg291
 z119:=Tryz.sizeOf291
 t124:=Tryz.underlying235
 a124:=Tryz.isAgg235
 z124:=Tryz.sizeOf235
 v124:=Tryz.zeroValue235
 t138:=Tryz.underlying293
 a138:=Tryz.isAgg293
 z138:=Tryz.sizeOf293
 v138:=Tryz.zeroValue293
 t139:=Tryz.underlying294
 a139:=Tryz.isAgg294
 z139:=Tryz.sizeOf294
 v139:=Tryz.zeroValue294
 g3:=by kernel_rfl
 g4:=by kernel_rfl }
def Tryz.lays172_ren:Go.Shelf.Ren:=⟨fun|172=>194|244=>224|245=>225|247=>245|279=>246|280=>247|281=>248|282=>249|287=>266|316=>267|171=>196|205=>268|321=>275|322=>276|243=>226|246=>250|283=>269|284=>270|285=>271|286=>272|129=>278|317=>277|318=>279|319=>280|320=>281|337=>282|338=>283|n=>n,fun|9=>9|3=>3|75=>237|76=>238|4=>4|5=>5|167=>274|37=>162|0=>0|85=>275|2=>2|168=>277|53=>296|175=>297|46=>272|210=>300|127=>265|145=>314|143=>312|21=>21|171=>302|173=>305|212=>316|51=>288|20=>20|213=>317|232=>320|233=>321|80=>249|n=>n,fun|15=>4|16=>5|17=>6|18=>7|19=>8|n=>n⟩
theorem Tryz.lays172:Go.Proofs.Lays.n172 Tryz.prog Tryz.lays172_ren:={
 mixed:=by kernel_rfl
 f129:=Tryz.func278.trans (congrArg some (by kernel_rfl))
 f171:=Tryz.func196.trans (congrArg some (by kernel_rfl))
 f172:=Tryz.func194.trans (congrArg some (by kernel_rfl))
 f205:=Tryz.func268.trans (congrArg some (by kernel_rfl))
 f243:=Tryz.func226.trans (congrArg some (by kernel_rfl))
 f244:=Tryz.func224.trans (congrArg some (by kernel_rfl))
 f245:=Tryz.func225.trans (congrArg some (by kernel_rfl))
 f246:=Tryz.func250.trans (congrArg some (by kernel_rfl))
 f247:=Tryz.func245.trans (congrArg some (by kernel_rfl))
 f279:=Tryz.func246.trans (congrArg some (by kernel_rfl))
 f280:=Tryz.func247.trans (congrArg some (by kernel_rfl))
 f281:=Tryz.func248.trans (congrArg some (by kernel_rfl))
 f282:=Tryz.func249.trans (congrArg some (by kernel_rfl))
 f283:=Tryz.func269.trans (congrArg some (by kernel_rfl))
 f284:=Tryz.func270.trans (congrArg some (by kernel_rfl))
 f285:=Tryz.func271.trans (congrArg some (by kernel_rfl))
 f286:=Tryz.func272.trans (congrArg some (by kernel_rfl))
 f287:=Tryz.func266.trans (congrArg some (by kernel_rfl))
 f316:=Tryz.func267.trans (congrArg some (by kernel_rfl))
 f317:=Tryz.func277.trans (congrArg some (by kernel_rfl))
 f318:=Tryz.func279.trans (congrArg some (by kernel_rfl))
 f319:=Tryz.func280.trans (congrArg some (by kernel_rfl))
 f320:=Tryz.func281.trans (congrArg some (by kernel_rfl))
 f321:=Tryz.func275.trans (congrArg some (by kernel_rfl))
 f322:=Tryz.func276.trans (congrArg some (by kernel_rfl))
 f337:=Tryz.func282.trans (congrArg some (by kernel_rfl))
 f338:=Tryz.func283.trans (congrArg some (by kernel_rfl))
 t0:=Tryz.underlying0
 a0:=Tryz.isAgg0
 z0:=Tryz.sizeOf0
 v0:=Tryz.zeroValue0
 t2:=Tryz.underlying2
 a2:=Tryz.isAgg2
 z2:=Tryz.sizeOf2
 v2:=Tryz.zeroValue2
 t3:=Tryz.underlying3
 a3:=Tryz.isAgg3
 z3:=Tryz.sizeOf3
 v3:=Tryz.zeroValue3
 t4:=Tryz.underlying4
 a4:=Tryz.isAgg4
 z4:=Tryz.sizeOf4
 v4:=Tryz.zeroValue4
 t5:=Tryz.underlying5
 a5:=Tryz.isAgg5
 z5:=Tryz.sizeOf5
 v5:=Tryz.zeroValue5
 t9:=Tryz.underlying9
 a9:=Tryz.isAgg9
 z9:=Tryz.sizeOf9
 v9:=Tryz.zeroValue9
 t20:=Tryz.underlying20
 a20:=Tryz.isAgg20
 z20:=Tryz.sizeOf20
 v20:=Tryz.zeroValue20
 t21:=Tryz.underlying21
 a21:=Tryz.isAgg21
 z21:=Tryz.sizeOf21
 v21:=Tryz.zeroValue21
 t37:=Tryz.underlying162
 a37:=Tryz.isAgg162
 z37:=Tryz.sizeOf162
 v37:=Tryz.zeroValue162
 t46:=Tryz.underlying272
 a46:=Tryz.isAgg272
 z46:=Tryz.sizeOf272
 v46:=Tryz.zeroValue272
 t51:=Tryz.underlying288
 a51:=Tryz.isAgg288
 z51:=Tryz.sizeOf288
 v51:=Tryz.zeroValue288
 t53:=Tryz.underlying296
 a53:=Tryz.isAgg296
 z53:=Tryz.sizeOf296
 v53:=Tryz.zeroValue296
 t75:=Tryz.underlying237
 a75:=Tryz.isAgg237
 z75:=Tryz.sizeOf237
 v75:=Tryz.zeroValue237
 t76:=Tryz.underlying238
 a76:=Tryz.isAgg238
 z76:=Tryz.sizeOf238
 v76:=Tryz.zeroValue238
 t85:=Tryz.underlying275
 a85:=Tryz.isAgg275
 z85:=Tryz.sizeOf275
 v85:=Tryz.zeroValue275
 t127:=Tryz.underlying265
 a127:=Tryz.isAgg265
 z127:=Tryz.sizeOf265
 v127:=Tryz.zeroValue265
 t143:=Tryz.underlying312
 a143:=Tryz.isAgg312
 z143:=Tryz.sizeOf312
 v143:=Tryz.zeroValue312
 t145:=Tryz.underlying314
 a145:=Tryz.isAgg314
 z145:=Tryz.sizeOf314
 v145:=Tryz.zeroValue314
 t167:=Tryz.underlying274
 a167:=Tryz.isAgg274
 z167:=Tryz.sizeOf274
 v167:=Tryz.zeroValue274
 t168:=Tryz.underlying277
 a168:=Tryz.isAgg277
 z168:=Tryz.sizeOf277
 v168:=Tryz.zeroValue277
 t171:=Tryz.underlying302
 a171:=Tryz.isAgg302
 z171:=Tryz.sizeOf302
 v171:=Tryz.zeroValue302
 t173:=Tryz.underlying305
 a173:=Tryz.isAgg305
 z173:=Tryz.sizeOf305
 v173:=Tryz.zeroValue305
 t175:=Tryz.underlying297
 a175:=Tryz.isAgg297
 z175:=Tryz.sizeOf297
 v175:=Tryz.zeroValue297
 t210:=Tryz.underlying300
 a210:=Tryz.isAgg300
 z210:=Tryz.sizeOf300
 v210:=Tryz.zeroValue300
 t212:=Tryz.underlying316
 a212:=Tryz.isAgg316
 z212:=Tryz.sizeOf316
 v212:=Tryz.zeroValue316
 t213:=Tryz.underlying317
 a213:=Tryz.isAgg317
 z213:=Tryz.sizeOf317
 t232:=Tryz.underlying320
 a232:=Tryz.isAgg320
 z232:=Tryz.sizeOf320
 v232:=Tryz.zeroValue320
 t233:=Tryz.underlying321
 a233:=Tryz.isAgg321
 z233:=Tryz.sizeOf321
 v233:=Tryz.zeroValue321
 g15:=by kernel_rfl
 g16:=by kernel_rfl
 g17:=by kernel_rfl
 g18:=by kernel_rfl
 g19:=by kernel_rfl }
def Tryz.lays169_ren:Go.Shelf.Ren:=⟨fun|169=>202|n=>n,fun|70=>245|9=>9|0=>0|72=>247|37=>162|127=>265|3=>3|5=>5|n=>n,fun|n=>n⟩
theorem Tryz.lays169:Go.Proofs.Lays.n169 Tryz.prog Tryz.lays169_ren:={
 mixed:=by kernel_rfl
 f169:=Tryz.func202.trans (congrArg some (by kernel_rfl))
 t0:=Tryz.underlying0
 a0:=Tryz.isAgg0
 z0:=Tryz.sizeOf0
 v0:=Tryz.zeroValue0
 t3:=Tryz.underlying3
 a3:=Tryz.isAgg3
 z3:=Tryz.sizeOf3
 v3:=Tryz.zeroValue3
 t9:=Tryz.underlying9
 a9:=Tryz.isAgg9
 z9:=Tryz.sizeOf9
 v9:=Tryz.zeroValue9
 t37:=Tryz.underlying162
 a37:=Tryz.isAgg162
 z37:=Tryz.sizeOf162
 v37:=Tryz.zeroValue162
 t70:=Tryz.underlying245
 a70:=Tryz.isAgg245
 z70:=Tryz.sizeOf245
 v70:=Tryz.zeroValue245
 t72:=Tryz.underlying247
 a72:=Tryz.isAgg247
 z72:=Tryz.sizeOf247
 v72:=Tryz.zeroValue247
 t127:=Tryz.underlying265
 a127:=Tryz.isAgg265
 z127:=Tryz.sizeOf265
 v127:=Tryz.zeroValue265 }
def Tryz.laysM171_ren:Go.Shelf.Ren:=⟨fun|171=>196|243=>226|246=>250|283=>269|284=>270|285=>271|286=>272|129=>278|317=>277|318=>279|319=>280|320=>281|337=>282|338=>283|n=>n,fun|3=>3|9=>9|2=>2|4=>4|171=>302|0=>0|53=>296|37=>162|5=>5|173=>305|212=>316|51=>288|20=>20|213=>317|46=>272|232=>320|233=>321|n=>n,fun|17=>6|18=>7|19=>8|n=>n⟩
theorem Tryz.laysM171:Go.Proofs.LaysM.n171 Tryz.prog Tryz.laysM171_ren:={
 mixed:=by kernel_rfl
 f129:=Tryz.func278.trans (congrArg some (by kernel_rfl))
 f171:=Tryz.func196.trans (congrArg some (by kernel_rfl))
 f243:=Tryz.func226.trans (congrArg some (by kernel_rfl))
 f246:=Tryz.func250.trans (congrArg some (by kernel_rfl))
 f283:=Tryz.func269.trans (congrArg some (by kernel_rfl))
 f284:=Tryz.func270.trans (congrArg some (by kernel_rfl))
 f285:=Tryz.func271.trans (congrArg some (by kernel_rfl))
 f286:=Tryz.func272.trans (congrArg some (by kernel_rfl))
 f317:=Tryz.func277.trans (congrArg some (by kernel_rfl))
 f318:=Tryz.func279.trans (congrArg some (by kernel_rfl))
 f319:=Tryz.func280.trans (congrArg some (by kernel_rfl))
 f320:=Tryz.func281.trans (congrArg some (by kernel_rfl))
 f337:=Tryz.func282.trans (congrArg some (by kernel_rfl))
 f338:=Tryz.func283.trans (congrArg some (by kernel_rfl))
 t0:=Tryz.underlying0
 a0:=Tryz.isAgg0
 z0:=Tryz.sizeOf0
 v0:=Tryz.zeroValue0
 t2:=Tryz.underlying2
 a2:=Tryz.isAgg2
 z2:=Tryz.sizeOf2
 v2:=Tryz.zeroValue2
 t3:=Tryz.underlying3
 a3:=Tryz.isAgg3
 z3:=Tryz.sizeOf3
 v3:=Tryz.zeroValue3
 t4:=Tryz.underlying4
 a4:=Tryz.isAgg4
 z4:=Tryz.sizeOf4
 v4:=Tryz.zeroValue4
 t5:=Tryz.underlying5
 a5:=Tryz.isAgg5
 z5:=Tryz.sizeOf5
 v5:=Tryz.zeroValue5
 t9:=Tryz.underlying9
 a9:=Tryz.isAgg9
 z9:=Tryz.sizeOf9
 v9:=Tryz.zeroValue9
 t20:=Tryz.underlying20
 a20:=Tryz.isAgg20
 z20:=Tryz.sizeOf20
 v20:=Tryz.zeroValue20
 t37:=Tryz.underlying162
 a37:=Tryz.isAgg162
 z37:=Tryz.sizeOf162
 v37:=Tryz.zeroValue162
 t46:=Tryz.underlying272
 a46:=Tryz.isAgg272
 z46:=Tryz.sizeOf272
 v46:=Tryz.zeroValue272
 t51:=Tryz.underlying288
 a51:=Tryz.isAgg288
 z51:=Tryz.sizeOf288
 v51:=Tryz.zeroValue288
 t53:=Tryz.underlying296
 a53:=Tryz.isAgg296
 z53:=Tryz.sizeOf296
 v53:=Tryz.zeroValue296
 t171:=Tryz.underlying302
 a171:=Tryz.isAgg302
 z171:=Tryz.sizeOf302
 v171:=Tryz.zeroValue302
 t173:=Tryz.underlying305
 a173:=Tryz.isAgg305
 z173:=Tryz.sizeOf305
 v173:=Tryz.zeroValue305
 t212:=Tryz.underlying316
 a212:=Tryz.isAgg316
 z212:=Tryz.sizeOf316
 v212:=Tryz.zeroValue316
 t213:=Tryz.underlying317
 a213:=Tryz.isAgg317
 z213:=Tryz.sizeOf317
 t232:=Tryz.underlying320
 a232:=Tryz.isAgg320
 z232:=Tryz.sizeOf320
 v232:=Tryz.zeroValue320
 t233:=Tryz.underlying321
 a233:=Tryz.isAgg321
 z233:=Tryz.sizeOf321
 v233:=Tryz.zeroValue321
 g17:=by kernel_rfl
 g18:=by kernel_rfl
 g19:=by kernel_rfl
 i0:=by kernel_rfl
 i2:=by kernel_rfl
 i3:=by kernel_rfl
 i4:=by kernel_rfl
 i5:=by kernel_rfl
 i9:=by kernel_rfl
 i20:=by kernel_rfl
 i37:=by kernel_rfl
 i46:=by kernel_rfl
 i51:=by kernel_rfl
 i53:=by kernel_rfl
 i171:=by kernel_rfl
 i173:=by kernel_rfl
 i212:=by kernel_rfl
 i232:=by kernel_rfl
 i233:=by kernel_rfl
 m17:=by kernel_rfl
 m18:=by kernel_rfl
 m19:=by kernel_rfl }
end Go.Proofs

namespace Go.Eng
open Go.Shelf Go.RowKit Go.Proofs
set_option maxHeartbeats 2000000 in
set_option maxRecDepth 100000 in
theorem qwV(b:Nat)(w:World)(h0:w.cell? ⟨b,0,none⟩=some (.pointer (some ⟨b,0,none⟩))) :
  Calls Tryz.prog 228 #[.pointer (some ⟨b,0,none⟩)] w fun e w'=>e=.returned (.tuple #[])∧w'=w:=by
 obtain⟨j,hj,_⟩:=Option.map_eq_some_iff.1 (show (Tryz.prog.info? 247).map (·.size)=some 2 by kernel_rfl)
 go_enter Tryz.func228,Tryz.ntmps228
 go_wp2
 rw[Lib.run_neq_ptr_same w ⟨b,0,none⟩ Tryz.underlying245 hj]
 go_wp2
 go_end0
 exact⟨rfl,rfl⟩
set_option maxHeartbeats 2000000 in
set_option maxRecDepth 100000 in
theorem qve(b:Nat)(w:World)(h0:w.cell? ⟨b,0,none⟩=some (.pointer none))(hsh:w.shape? b=some (247,2))(hfz:w.frozen? ⟨b,0,none⟩=false) :
  Calls Tryz.prog 228 #[.pointer (some ⟨b,0,none⟩)] w fun e w'=>e=.returned (.tuple #[])∧w'=w.setCell ⟨b,0,none⟩ (.pointer (some ⟨b,0,none⟩)):=by
 obtain⟨j,hj,hjs⟩:=Option.map_eq_some_iff.1 (show (Tryz.prog.info? 247).map (·.size)=some 2 by kernel_rfl)
 go_enter Tryz.func228,Tryz.ntmps228
 go_wp2
 rw[Lib.run_to_unsafe w ⟨b,0,none⟩ Tryz.underlying245 Tryz.underlying281 hj (by rw[hjs];decide) hsh (Nat.zero_lt_succ 1)]
 simp only[Result.andThen]
 rw[Oper.upon_value]
 go_wp2
 rw[run_callFunc_extern Tryz.func251 (by kernel_rfl) (by kernel_rfl) (by kernel_rfl) (e:=Extern.AbiNoEscape.same) (by kernel_rfl)]
 rw[Lib.run_noEscape]
 simp only[Result.andThen]
 rw[Oper.upon_value]
 go_wp2
 rw[Lib.run_from_unsafe w ⟨b,0,none⟩ Tryz.underlying281 Tryz.underlying245 hj hsh (by kernel_rfl)]
 simp only[Result.andThen]
 rw[Oper.upon_value]
 go_wp2
 go_end0
 exact⟨rfl,rfl⟩
abbrev BtB(B b:Nat)(bs:List Value)(w:World):Prop:=Lib.IsBuilder 247 5 B b bs w
set_option maxHeartbeats 2000000 in
set_option maxRecDepth 100000 in
theorem qqy(B b:Nat)(bs:List Value)(w:World)(h:BtB B b bs w) :
  Calls Tryz.prog 228 #[.pointer (some ⟨b,0,none⟩)] w fun e w'=>e=.returned (.tuple #[])∧Lib.BuilderAt 247 5 B b (.pointer (some ⟨b,0,none⟩)) bs w'∧Below B w w':=by
 rcases h with h|h
 ·refine(qve b w h.cell0 h.shape h.frozen0).mono ?_
  rintro e w' ⟨rfl,rfl⟩
  exact⟨rfl,h.used _,(Below.refl B w).setCell (p:=⟨b,0,none⟩) h.1 _⟩
 ·refine(qwV b w h.cell0).mono ?_
  rintro e w' ⟨rfl,rfl⟩
  exact⟨rfl,h,Below.refl B _⟩
set_option maxHeartbeats 2000000 in
set_option maxRecDepth 100000 in
theorem qx7(B b:Nat)(bs:List Value)(c:Int)(w:World)(h:BtB B b bs w)(hlen:bs.length+1≤140737488355328)(hBw:B≤w.heap.size) :
  Calls Tryz.prog 200 #[.pointer (some ⟨b,0,none⟩),.int .u8 c] w fun e w'=>e=.returned .nilIface∧BtB B b (bs++[.int .u8 c]) w'∧Below B w w':=by
 obtain⟨i0,hi,hz0,hz1,hz2⟩:=info_parts (show (Tryz.prog.info? 5).map (fun i=>(i.zero,i.size,i.bytes))=some (some (.int .u8 0),1,1) by kernel_rfl)
 go_enter Tryz.func200,Tryz.ntmps200
 go_wp2_with (go_at_call 228;refine(qqy B b bs _ h).mono ?_)
 rintro e w1 ⟨rfl,h1,hb1⟩
 obtain⟨hB,v,hbk,hown,hne⟩:=h1
 have c0:w1.cell? ⟨b,0,none⟩=some (.pointer (some ⟨b,0,none⟩)):=by rw[Lib.cell_of_heap hbk];rfl
 have c1:w1.cell? ⟨b,1,none⟩=some v:=by rw[Lib.cell_of_heap hbk];rfl
 have hsz1:=hb1.size
 go_wp2_with (at_builtin;refine wpList_append_own _ rfl _ _ 162 rfl B 5 i0 (.int .u8 0) 1 1 Tryz.underlying162 hi hz0 hz1 hz2 rfl (by decide) _ _ _ rfl (hown.alloc _) ⟨w1.heap.size,0,none⟩ 1 1 [.int .u8 c] rfl rfl ?c1 ?c2 ?c3 ?c4 ?c5 ?_)
 case c1=>
  intro j u hj
  match j,hj with
  | 0,hj=>simp at hj;subst hj;simp[Addr.add]
 case c2=>intro u hu;simp at hu;subst hu;rfl
 case c3=>unfold maxLen;omega
 case c4=>omega
 case c5=>simp;omega
 intro v' w2 hown' hgrow _
 have hlt:b<w1.heap.size:=by
  rcases Nat.lt_or_ge b w1.heap.size with h'|h'
  ·exact h'
  ·simp[Array.getElem?_eq_none h'] at hbk
 have hb2:w2.heap[b]?=some (.cells #[.pointer (some ⟨b,0,none⟩),v] 247 (0,0)):=by
  rw[hgrow.block b (by simp;omega) (fun e=>hne e.symm),Lib.alloc_old w1 _ b hlt]
  exact hbk
 have d0:w2.cell? ⟨b,0,none⟩=some (.pointer (some ⟨b,0,none⟩)):=by rw[Lib.cell_of_heap hb2];rfl
 have d1:w2.cell? ⟨b,1,none⟩=some v:=by rw[Lib.cell_of_heap hb2];rfl
 have f1:w2.frozen? ⟨b,1,none⟩=false:=Lib.frozen_of_heap hb2 1
 obtain⟨ao,n',cap,rfl⟩:∃ao n' cap,v'=.slice ao n' cap:=by
  rcases hown'.2 with⟨hv,_⟩|⟨g,cap,cur,hv,_⟩
  ·exact⟨_,_,_,hv⟩
  ·exact⟨_,_,_,hv⟩
 go_wp2
 go_ret
 refine⟨rfl,.inr ?_,?_⟩
 ·exact Lib.BuilderAt.put (T:=247) (e:=5) hB hb2 (bs':=bs++[.int .u8 c]) (by simpa using hown') (by decide)
 ·exact((hb1.alloc (by omega) _).grown hgrow (by simp;omega) (fun k hk=>(hown.lt k hk).1)).setCell (p:=⟨b,1,none⟩) hB _
set_option maxHeartbeats 2000000 in
set_option maxRecDepth 100000 in
theorem qvD(B b:Nat)(bs:List Value)(s:ByteArray)(w:World)(h:BtB B b bs w)(hlen:bs.length+s.size≤140737488355328)(hBw:B≤w.heap.size) :
  Calls Tryz.prog 201 #[.pointer (some ⟨b,0,none⟩),.string s] w fun e w'=>e=.returned (.tuple #[.int .i64 s.size,.nilIface])∧BtB B b (bs++Lib.strCells s) w'∧Below B w w':=by
 obtain⟨i0,hi,hz0,hz1,hz2⟩:=info_parts (show (Tryz.prog.info? 5).map (fun i=>(i.zero,i.size,i.bytes))=some (some (.int .u8 0),1,1) by kernel_rfl)
 go_enter Tryz.func201,Tryz.ntmps201
 go_wp2_with (go_at_call 228;refine(qqy B b bs _ h).mono ?_)
 rintro e w1 ⟨rfl,h1,hb1⟩
 obtain⟨hB,v,hbk,hown,hne⟩:=h1
 have c0:w1.cell? ⟨b,0,none⟩=some (.pointer (some ⟨b,0,none⟩)):=by rw[Lib.cell_of_heap hbk];rfl
 have c1:w1.cell? ⟨b,1,none⟩=some v:=by rw[Lib.cell_of_heap hbk];rfl
 have hsz1:=hb1.size
 go_wp2_with (at_builtin;refine Lib.wpList_append_own_string _ rfl _ _ 162 9 rfl B 5 i0 Tryz.underlying162 Tryz.underlying9 hi hz0 hz1 hz2 _ _ _ rfl hown s rfl ?c3 ?c4 ?c5 ?_)
 case c3=>unfold maxLen;omega
 case c4=>omega
 case c5=>omega
 intro v' w2 hown' hgrow _
 have hlt:b<w1.heap.size:=by
  rcases Nat.lt_or_ge b w1.heap.size with h'|h'
  ·exact h'
  ·simp[Array.getElem?_eq_none h'] at hbk
 have hb2:w2.heap[b]?=some (.cells #[.pointer (some ⟨b,0,none⟩),v] 247 (0,0)):=by
  rw[hgrow.block b hlt (fun e=>hne e.symm)]
  exact hbk
 have d0:w2.cell? ⟨b,0,none⟩=some (.pointer (some ⟨b,0,none⟩)):=by rw[Lib.cell_of_heap hb2];rfl
 have d1:w2.cell? ⟨b,1,none⟩=some v:=by rw[Lib.cell_of_heap hb2];rfl
 have f1:w2.frozen? ⟨b,1,none⟩=false:=Lib.frozen_of_heap hb2 1
 obtain⟨ao,n',cap,rfl⟩:∃ao n' cap,v'=.slice ao n' cap:=by
  rcases hown'.2 with⟨hv,_⟩|⟨g,cap,cur,hv,_⟩
  ·exact⟨_,_,_,hv⟩
  ·exact⟨_,_,_,hv⟩
 go_wp2
 go_ret2
 refine⟨rfl,.inr ?_,?_⟩
 ·exact Lib.BuilderAt.put (T:=247) (e:=5) hB hb2 (bs':=bs++Lib.strCells s) (by simpa[Lib.strCells_length] using hown') (by decide)
 ·exact(hb1.grown hgrow (by omega) (fun k hk=>(hown.lt k hk).1)).setCell (p:=⟨b,1,none⟩) hB _
theorem qvB:Builder.Extra Tryz.prog Tryz.lays169_ren where
 sizeBuilder:=by kernel_rfl
 liesBuilder:=by kernel_rfl
 t5:=Tryz.underlying5
 a5:=Tryz.isAgg5
 z5:=Tryz.sizeOf5
 v5:=Tryz.zeroValue5
 infoByte:=by kernel_rfl
 cellsByte:=by kernel_rfl
 sizeByte:=by kernel_rfl
 neB5:=by decide
set_option maxHeartbeats 2000000 in
set_option maxRecDepth 100000 in
theorem qu2(B b:Nat)(l:List UInt8)(w:World)(h:BtB B b (Lib.byteCells l) w)(h0:l≠[]) :
  Calls Tryz.prog 202 #[.pointer (some ⟨b,0,none⟩)] w fun e w'=>e=.returned (.string ⟨l.toArray⟩)∧Below B w w':=
 Any.Builder_String Tryz.lays169 qvB B b l w h h0
def qh2(f:Nat→Int):Nat→List UInt8
 | 0=>[]
 | i+1=>qvn (Lib.itoa (f i))++qh2 f i
def qsV(b:Bool)(n:Nat)(f:Nat→Int):List UInt8:=if n=0 then [48] else (if b then [45] else [])++Lib.itoa (f (n-1))++qh2 f (n-1)
theorem qsP (n:Int) (h:-9223372036854775808≤n∧n≤9223372036854775807) (w:World) (ht:Lib.TabIs Tryz.prog w "internal/strconv.uint64pow10" .u64 Lib.pow10Tab) :
  Calls Tryz.prog 196 #[.int .i64 n] w fun e w'=>e=.returned (.string ⟨(Lib.itoa n).toArray⟩)∧Below w.heap.size w w':=
 (Any.strconv_Itoa Tryz.laysM171 n h.1 h.2 w ht).mono fun e w' ⟨h1,k,os,h2⟩=>⟨h1,by subst h2;exact qji _ _ _⟩
theorem qlR{P:Program}{w w':World}{name:String}{k:IntKind}{zs:List Int}(h:Lib.TabIs P w name k zs)(hb:Below w.heap.size w w'):Lib.TabIs P w' name k zs:=by
 unfold Lib.TabIs World.var? at *
 cases hg:P.globalNamed name with
 | none=>rw[hg] at h;cases h
 | some g=>
  rw[hg] at h
  simp only[Option.bind_some] at h ⊢
  by_cases hlt:g<w.heap.size
  ·rw[hb.block g hlt];exact h
  ·rw[Array.getElem?_eq_none (by omega)] at h;cases h
theorem qen{w w':World}(hb:Below w.heap.size w w'){n:Nat}(hn:n<w.heap.size)(o:Nat):w'.cell? ⟨n,o,none⟩=w.cell? ⟨n,o,none⟩:=World.cell?_of_block (hb.block n hn)
theorem qpk{B b:Nat}{bs:List Value}{w w':World}(h:BtB B b bs w)(hb:Below w.heap.size w w'):BtB B b bs w':=by
 have key:∀p,Lib.BuilderAt 247 5 B b p bs w→Lib.BuilderAt 247 5 B b p bs w':=by
  intro p h
  have hlt:=h.lt
  obtain⟨hB,v,hbk,⟨hl,hown⟩,hne⟩:=h
  refine⟨hB,v,(hb.block b hlt).trans hbk,⟨hl,?_⟩,hne⟩
  rcases hown with h|⟨g,cap,cur,h1,h2,h3,h4⟩
  ·exact .inl h
  ·exact .inr ⟨g,cap,cur,h1,h2,(hb.block g (Array.getElem?_eq_some_iff.1 h3).1).trans h3,h4⟩
 exact h.elim (fun x=>.inl (key _ x)) (fun x=>.inr (key _ x))
theorem qwn{B b:Nat}{bs:List Value}{w:World}(h:BtB B b bs w):BtB B b bs w.drew:=h.elim (fun x=>.inl x.drew) (fun x=>.inr x.drew)
theorem qv3:∀(k n:Nat),n<10^(k+1)→(Lib.decDigits n).length≤k+1
 | 0,n,h=>by rw[Lib.decDigits,dif_pos (by omega)];simp
 | k+1,n,h=>by
  rw[Lib.decDigits]
  split
  ·simp
  ·have:=qv3 k (n/10) (by rw[Nat.pow_succ] at h;omega)
   simp;omega
theorem qx1{pre l:List UInt8}{k:Nat}(hp:pre.length≤k)(hl:l.length≤9)(hk:k≤100000:=by omega):(Lib.byteCells pre).length+(⟨l.toArray⟩:ByteArray).size≤140737488355328:=by
 rw[Lib.byteCells_length]
 have:(⟨l.toArray⟩:ByteArray).size=l.length:=by simp[ByteArray.size]
 omega
theorem qsI{x:Int}(h:0≤x∧x<1000000000):(Lib.itoa x).length≤9:=by
 unfold Lib.itoa
 rw[if_neg (by omega)]
 exact qv3 8 _ (by omega)
theorem qsm{l:List UInt8}(h:l.length≤9):(qvn l).length=9:=by
 unfold qvn qaw q9J ql
 simp;omega
theorem qw8{l:List UInt8}(h:l.length≤9):(⟨#[48,48,48,48,48,48,48,48,48]⟩:ByteArray).extract l.length 9++⟨l.toArray⟩=⟨(qvn l).toArray⟩:=by
 have key:∀k:Nat,k≤9→(⟨#[48,48,48,48,48,48,48,48,48]⟩:ByteArray).extract k 9=⟨(q9J [48,48,48,48,48,48,48,48,48] (k:Int) 9).toArray⟩:=by
  intro k hk
  have:k=0∨k=1∨k=2∨k=3∨k=4∨k=5∨k=6∨k=7∨k=8∨k=9:=by omega
  rcases this with rfl|rfl|rfl|rfl|rfl|rfl|rfl|rfl|rfl|rfl<;>rfl
 rw[key _ h]
 unfold qvn qaw ql
 apply ByteArray.ext
 simp
theorem qvU(l:List UInt8):Lib.strCells ⟨l.toArray⟩=Lib.byteCells l:=rfl
theorem qwP(x:Int):0<(Lib.itoa x).length:=by
 unfold Lib.itoa
 split
 ·simp
 ·rw[Lib.decDigits];split<;>simp
set_option maxHeartbeats 4000000 in
set_option maxRecDepth 1000000 in
theorem qwQ(n0:Nat)(b:Bool)(n:Nat)(f:Nat→Int)(w:World)(hlt:n0<w.heap.size)(h0:w.cell? ⟨n0,0,none⟩=some (.bool b))(h1:w.cell? ⟨n0,1,none⟩=some (.int .i64 (n:Int)))(hw:∀i,i<232→w.cell? ⟨n0,2+i,none⟩=some (.int .i64 (f i)))
  (hn:n≤232) (hf:∀i,i<n→0≤f i∧f i<1000000000) (ht:Lib.TabIs Tryz.prog w "internal/strconv.uint64pow10" .u64 Lib.pow10Tab) :
  Calls Tryz.prog 161 #[.pointer (some ⟨n0,0,none⟩)] w fun e w'=>e=.returned (.string ⟨(qsV b n f).toArray⟩)∧Below w.heap.size w w':=by
 rcases Nat.eq_zero_or_pos n with rfl|hpos
 ·go_enter Tryz.func161,Tryz.ntmps161
  go_wp2
  go_ret
  exact⟨rfl,Below.refl _ _⟩
 obtain⟨m,rfl⟩:∃m,n=m+1:=⟨n-1,by omega⟩
 have hne:(((m+1:Nat):Int)==0)=false:=by simp;omega
 have w1:IntKind.i64.wrap (((m+1:Nat):Int)-1)=(m:Int):=by unfold IntKind.wrap;simp[IntKind.signed,IntKind.bits];omega
 have w1':IntKind.i64.wrap (m:Int)=(m:Int):=by unfold IntKind.wrap;simp[IntKind.signed,IntKind.bits];omega
 have hi:0≤(m:Int)∧(m:Int)<232:=by omega
 have hwm:=hw m (by omega)
 have w2:IntKind.i64.wrap (((m+1:Nat):Int)-2)=(m:Int)-1:=by unfold IntKind.wrap;simp[IntKind.signed,IntKind.bits];omega
 have hitm:=qsI (hf m (by omega))
 cases b
 case' false=>
  go_enter Tryz.func161,Tryz.ntmps161
  go_wp2
  have hB0:=Lib.fresh_isBuilder 247 5 w
  have hb0:=(Below.refl w.heap.size w).alloc (Nat.le_refl _) (.cells #[.pointer none,.slice none 0 0] 247)
  generalize w.alloc (.cells #[.pointer none,.slice none 0 0] 247)=W0 at *
  obtain⟨pre,hpre⟩:∃pre:List UInt8,pre=if false=true then [45] else []:=⟨_,rfl⟩
  replace hB0:BtB w.heap.size w.heap.size (Lib.byteCells pre) W0:=by subst hpre;exact hB0
 case' true=>
  go_enter Tryz.func161,Tryz.ntmps161
  go_wp2_with (go_at_call 200;refine(qx7 w.heap.size w.heap.size [] 45 _ (Lib.fresh_isBuilder 247 5 w) (by simp) (by simp)).mono ?_)
  rintro e W0 ⟨rfl,hB0,hb0⟩
  replace hb0:=((Below.refl w.heap.size w).alloc (Nat.le_refl _) (.cells #[.pointer none,.slice none 0 0] 247)).trans hb0
  obtain⟨pre,hpre⟩:∃pre:List UInt8,pre=if true=true then [45] else []:=⟨_,rfl⟩
  replace hB0:BtB w.heap.size w.heap.size (Lib.byteCells pre) W0:=by subst hpre;exact hB0
  go_wp2
 all_goals
  have hp1:pre.length≤1:=by subst hpre;split<;>simp
  have hs0:=hb0.size
  have d1:=(qen hb0 hlt 1).trans h1
  have dm:=(qen hb0 hlt (2+m)).trans hwm
  go_region_with (first
   | (go_at_call 196;refine(qsP (f m) (by have:=hf m (by omega);omega) _ (qlR ht hb0.drew)).mono ?_;rintro e W1 ⟨rfl,b1⟩)
   | (go_at_call 201;refine(qvD w.heap.size w.heap.size _ _ _ (qpk (qwn hB0) b1) (qx1 hp1 hitm) (Nat.le_trans hs0 b1.size)).mono ?_;rintro e W2 ⟨rfl,hB2,b2⟩))
  have b02:Below w.heap.size w W2:=(hb0.drew.trans (b1.mono hs0)).trans b2
  have e1:=(qen b02 hlt 1).trans h1
  replace hB2:BtB w.heap.size w.heap.size (Lib.byteCells (pre++Lib.itoa (f m))) W2:=by rw[Lib.byteCells_append];exact hB2
  go_wp2
  go_loopw [4] (fun vi wr=>∃(k:Nat) (acc:List UInt8),vi=.int .i64 ((k:Int)-1)∧k≤m∧BtB w.heap.size w.heap.size (Lib.byteCells acc) wr∧Below w.heap.size w wr∧acc++qh2 f k=pre++Lib.itoa (f m)++qh2 f m∧acc.length≤10+9*(m-k)) (fun vi _=>(intOf vi+1).toNat)
  case atStart=>exact⟨m,_,by congr 1<;>omega,Nat.le_refl _,hB2,b02,rfl,by simp;omega⟩
  case round=>
   obtain⟨k,acc,rfl,hkm,hI,hbw,hacc,hal⟩:=hrel
   have hbs:=hbw.size
   rcases Nat.eq_zero_or_pos k with rfl|hk0
   ·go_wp2_with (go_at_call 202;refine(qu2 w.heap.size w.heap.size acc _ hI ?hne).mono ?_)
    case hne=>
     intro h0
     subst h0
     have:=congrArg List.length hacc
     have h9:=qwP (f m)
     simp[qh2] at this
     omega
    rintro e W3 ⟨rfl,b3⟩
    go_wp2
    go_ret
    refine⟨?_,hbw.trans b3⟩
    simp only[qh2,List.append_nil] at hacc
    rw[hacc,hpre]
    simp[qsV]
   ·obtain⟨q,rfl⟩:∃q,k=q+1:=⟨k-1,by omega⟩
    have x1:(((q+1:Nat):Int)-1)=(q:Int):=by omega
    have x2:(0:Int)≤(q:Int)∧(q:Int)<232:=by omega
    have x3:(q:Int).toNat=q:=Int.toNat_natCast q
    have dq:=(qen hbw hlt (2+q)).trans (hw q (by omega))
    have hq9:=qsI (hf q (by omega))
    rw[x1]
    go_wp2_with (go_at_call 196;refine(qsP (f q) (by have:=hf q (by omega);omega) _ (qlR ht hbw)).mono ?_)
    rintro e W3 ⟨rfl,b3⟩
    clear w1 w1' w2 hi hwm hne h1 hf hw ht
    have hl9:((⟨(Lib.itoa (f q)).toArray⟩:ByteArray).size:Int)≤9:=by simp[ByteArray.size];omega
    go_wp2_with (go_at_call 201;refine(qvD w.heap.size w.heap.size (Lib.byteCells acc) _ _ (qpk hI b3) ?hl (Nat.le_trans hbs b3.size)).mono ?_)
    case hl=>rw[qw8 hq9,Lib.byteCells_length];have:=qsm hq9;simp[ByteArray.size];omega
    rintro e W4 ⟨rfl,hB4,b4⟩
    rw[qw8 hq9,qvU,←Lib.byteCells_append] at hB4
    go_wp2
    go_roundw
    case rel=>
     refine⟨q,_,by congr 1<;>omega,by omega,hB4,(hbw.trans (b3.mono hbs)).trans b4,?_,?_⟩
     ·rw[←hacc];simp[qh2]
     ·have:=qsm hq9
      simp;omega
    case measure=>simp[intOf]
theorem qss(w:R):∀i,qhg w i=qh2 (fun i=>cI w i 0) i
 | 0=>rfl
 | i+1=>by unfold qhg qh2;rw[qss w i]
theorem qwK(b:Bool)(n:Nat)(w:R):quQ b (n:Int) w=qsV b n (fun i=>cI w i 0):=by
 unfold quQ qsV
 by_cases h:n=0
 ·subst h;rfl
 ·rw[if_neg (by omega),if_neg h,qss]
  have e:((n:Int)-1)=((n-1:Nat):Int):=by omega
  rw[e,Int.toNat_natCast]
theorem qw5{ps:List PV}(h:ps.map PV.kind=[.b,.i,.r]):∃b n w,ps=[.b b,.i n,.r w]:=by
 match ps,h with
 | [.b b,.i n,.r w],_=>exact⟨b,n,w,rfl⟩
theorem qtg{gl:List (Nat×AV)}(hg:(6,AV.eptr (Lib.pow10Tab.map fun _=>.int .u64) qxz 0 0)∈gl) :
  zh Tryz.prog gl 161 (q9 { args:=[.ptr 0 0],h:=[.big [.bool,.int .i64] .i64 232] } [{ res:=.str,h:=[.big [.bool,.int .i64] .i64 232] }] qvr):=
 qek (q1B Tryz.func161 (by kernel_rfl) (by kernel_rfl)) rfl fun B X ps j qs vargs hs hgl hh ha hk hT=>by
  obtain⟨b,n,r,rfl⟩:=qw5 hk
  simp only[qvr] at hT
  split at hT
  ·rename_i hc
   cases hT
   unfold qp2 at hc
   simp only[Bool.and_eq_true,decide_eq_true_eq,List.all_eq_true,List.mem_range] at hc
   obtain⟨⟨c1,c2⟩,c3⟩:=hc
   obtain⟨m,rfl⟩:∃m:Nat,n=(m:Int):=⟨n.toNat,by omega⟩
   have hb0:X.h[0]?=some (.big [.bool b,.int .i64 (m:Int)] .i64 232 r):=by rw[hh];rfl
   obtain⟨n0,c,T,vs,hσ,hheap,hrep,hcl,hrl⟩:=hs.blk 0 _ hb0
   have hvs:vs=[.bool b,.int .i64 (m:Int)]:=by
    cases hrep with
    | cons h t=>cases h;rw[qsQ t]
   subst hvs
   have hva:vargs=[.pointer (some ⟨n0,0,none⟩)]:=by
    cases ha with
    | cons h t=>
     cases t
     cases h with
     | ptr _ _ n1 hb hσ2=>
      have:n1=n0:=Option.some.inj (hσ2.symm.trans hσ)
      rw[this]
   subst hva
   have hlt:n0<X.w.heap.size:=(Array.getElem?_eq_some_iff.1 hheap).1
   have hcell:∀o,X.w.cell? ⟨n0,o,none⟩=c[o]?:=fun o=>by unfold World.cell?;simp only[hheap];rfl
   have g0:X.w.cell? ⟨n0,0,none⟩=some (.bool b):=by rw[hcell,←Array.getElem?_toList,hcl];rfl
   have g1:X.w.cell? ⟨n0,1,none⟩=some (.int .i64 (m:Int)):=by rw[hcell,←Array.getElem?_toList,hcl];rfl
   have gw:∀i,i<232→X.w.cell? ⟨n0,2+i,none⟩=some (.int .i64 (cI r (i:Int) 0)):=fun i hi=>by
    rw[hcell]
    exact qoM (vs:=[.bool b,.int .i64 (m:Int)]) hcl (by omega)
   refine⟨rfl,rfl,rfl,?_⟩
   have hT:=qm5 (k:=.u64) (zs:=Lib.pow10Tab) (show Tryz.prog.globalNamed "internal/strconv.uint64pow10" = some 6 by kernel_rfl) (by decide) (hgl _ hg).2
   refine(qwQ n0 b m (fun i=>cI r (i:Int) 0) X.w hlt g0 g1 gw (by omega) (fun i hi=>c3 i (by omega)) hT).mono fun e w' ⟨k1,k2⟩=>⟨_,k1,k2,?_⟩
   rw[←qwK]
   exact .str _
  ·cases hT
end Go.Eng

namespace Go.Eng
open Go.Proofs
noncomputable def qbp:List (TypeId×TI):=[(1,(.mk .func 1 [.nilFunc] 8 false false)),(2,(.mk (.int .i64) 1 [(.int .i64 0)] 8 false false)),(3,(.mk (.int .i64) 1 [(.int .i64 0)] 8 false false)),(4,(.mk .bool 1 [(.bool false)] 1 false false)),(5,(.mk (.int .u8) 1 [(.int .u8 0)] 1 false false)),(6,(.mk (.int .u8) 1 [(.int .u8 0)] 1 false false)),(8,(.mk (.struct [(0,(2,1)),(1,(3,1)),(2,(4,1)),(3,(6,1))]) 4 [(.int .i64 0),(.int .i64 0),(.bool false),(.int .u8 0)] 24 true true)),(9,(.mk .str 1 [(.string (.mk (.mk [])))] 16 false false)),(10,(.mk .str 1 [(.string (.mk (.mk [])))] 16 false false)),(11,(.mk .str 1 [(.string (.mk (.mk [])))] 16 false false)),(12,(.mk (.int .u64) 1 [(.int .u64 0)] 8 false false)),(13,(.mk (.struct [(0,(9,1)),(1,(12,1))]) 2 [(.string (.mk (.mk []))),(.int .u64 0)] 24 false true)),(14,(.mk (.struct [(0,(9,1)),(1,(12,1))]) 2 [(.string (.mk (.mk []))),(.int .u64 0)] 24 false true)),(16,(.mk (.ptr 326) 1 [(.pointer .none)] 8 false false)),(17,(.mk (.ptr 334) 1 [(.pointer .none)] 8 false false)),(18,(.mk (.struct [(0,(17,1))]) 1 [(.pointer .none)] 8 false true)),(22,(.mk (.slice 40 3) 1 [(.slice .none 0 0)] 24 false false)),(24,(.mk .func 1 [.nilFunc] 8 false false)),(25,(.mk (.slice 3 1) 1 [(.slice .none 0 0)] 24 false false)),(26,(.mk (.int .i64) 1 [(.int .i64 0)] 8 false false)),(30,(.mk .func 1 [.nilFunc] 8 false false)),(32,(.mk (.struct [(0,(3,1)),(1,(3,1)),(2,(3,1))]) 3 [(.int .i64 0),(.int .i64 0),(.int .i64 0)] 24 true true)),(33,(.mk (.struct [(0,(3,1)),(1,(3,1)),(2,(3,1))]) 3 [(.int .i64 0),(.int .i64 0),(.int .i64 0)] 24 true true)),(36,(.mk .str 1 [(.string (.mk (.mk [])))] 16 false false)),(38,(.mk (.struct [(0,(36,1)),(1,(36,1))]) 2 [(.string (.mk (.mk []))),(.string (.mk (.mk [])))] 32 true true)),(40,(.mk (.struct [(0,(38,2)),(2,(36,1))]) 3 [(.string (.mk (.mk []))),(.string (.mk (.mk []))),(.string (.mk (.mk [])))] 48 true true)),(47,(.mk .func 1 [.nilFunc] 8 false false)),(48,(.mk .func 1 [.nilFunc] 8 false false)),(49,(.mk .func 1 [.nilFunc] 8 false false)),(50,(.mk .func 1 [.nilFunc] 8 false false)),(51,(.mk .func 1 [.nilFunc] 8 false false)),(52,(.mk (.slice 97 7) 1 [(.slice .none 0 0)] 24 false false)),(53,(.mk (.slice 89 3) 1 [(.slice .none 0 0)] 24 false false)),(54,(.mk (.struct [(0,(52,1)),(1,(53,1)),(2,(3,1))]) 3 [(.slice .none 0 0),(.slice .none 0 0),(.int .i64 0)] 56 true true)),(55,(.mk (.struct [(0,(52,1)),(1,(53,1)),(2,(3,1))]) 3 [(.slice .none 0 0),(.slice .none 0 0),(.int .i64 0)] 56 true true)),(56,(.mk .func 1 [.nilFunc] 8 false false)),(61,(.mk (.struct [(0,(52,1)),(1,(53,1)),(2,(3,1))]) 3 [(.slice .none 0 0),(.slice .none 0 0),(.int .i64 0)] 56 true true)),(64,(.mk .func 1 [.nilFunc] 8 false false)),(74,(.mk (.struct [(0,(3,1)),(1,(3,1)),(2,(3,1))]) 3 [(.int .i64 0),(.int .i64 0),(.int .i64 0)] 24 true true)),(83,(.mk (.int .i8) 1 [(.int .i8 0)] 1 false false)),(84,(.mk (.array 2 83 1) 2 [(.int .i8 0),(.int .i8 0)] 2 false false)),(87,(.mk (.struct [(0,(3,1)),(1,(3,1))]) 2 [(.int .i64 0),(.int .i64 0)] 16 true true)),(89,(.mk (.struct [(0,(87,2)),(2,(3,1))]) 3 [(.int .i64 0),(.int .i64 0),(.int .i64 0)] 24 true true)),(95,(.mk (.struct [(0,(3,1)),(1,(3,1))]) 2 [(.int .i64 0),(.int .i64 0)] 16 true true)),(97,(.mk (.struct [(0,(87,2)),(2,(95,2)),(4,(3,1)),(5,(3,1)),(6,(4,1))]) 7 [(.int .i64 0),(.int .i64 0),(.int .i64 0),(.int .i64 0),(.int .i64 0),(.int .i64 0),(.bool false)] 56 true true)),(101,(.mk .func 1 [.nilFunc] 8 false false)),(104,(.mk (.ptr 106) 1 [(.pointer .none)] 8 false false)),(106,(.mk (.struct [(0,(26,1))]) 1 [(.int .i64 0)] 8 true true)),(109,(.mk .func 1 [.nilFunc] 8 false false)),(114,(.mk (.slice 117 1) 1 [(.slice .none 0 0)] 24 false false)),(117,(.mk .str 1 [(.string (.mk (.mk [])))] 16 false false)),(121,(.mk (.slice 36 1) 1 [(.slice .none 0 0)] 24 false false)),(128,(.mk .func 1 [.nilFunc] 8 false false)),(138,(.mk (.ptr 140) 1 [(.pointer .none)] 8 false false)),(140,(.mk (.struct [(0,(22,1)),(1,(26,1))]) 2 [(.slice .none 0 0),(.int .i64 0)] 32 true true)),(141,(.mk .func 1 [.nilFunc] 8 false false)),(149,(.mk .func 1 [.nilFunc] 8 false false)),(150,(.mk .func 1 [.nilFunc] 8 false false)),(162,(.mk (.slice 5 1) 1 [(.slice .none 0 0)] 24 false false)),(168,(.mk .func 1 [.nilFunc] 8 false false)),(172,(.mk (.struct [(0,(38,2)),(2,(38,2)),(4,(36,1))]) 5 [(.string (.mk (.mk []))),(.string (.mk (.mk []))),(.string (.mk (.mk []))),(.string (.mk (.mk []))),(.string (.mk (.mk [])))] 80 true true)),(190,(.mk (.struct [(0,(97,7)),(7,(3,1))]) 8 [(.int .i64 0),(.int .i64 0),(.int .i64 0),(.int .i64 0),(.int .i64 0),(.int .i64 0),(.bool false),(.int .i64 0)] 64 true true)),(193,(.mk .func 1 [.nilFunc] 8 false false)),(205,(.mk (.ptr 210) 1 [(.pointer .none)] 8 false false)),(208,(.mk (.array 232 3 1) 232 [(.int .i64 0),(.int .i64 0),(.int .i64 0),(.int .i64 0),(.int .i64 0),(.int .i64 0),(.int .i64 0),(.int .i64 0),(.int .i64 0),(.int .i64 0),(.int .i64 0),(.int .i64 0),(.int .i64 0),(.int .i64 0),(.int .i64 0),(.int .i64 0),(.int .i64 0),(.int .i64 0),(.int .i64 0),(.int .i64 0),(.int .i64 0),(.int .i64 0),(.int .i64 0),(.int .i64 0),(.int .i64 0),(.int .i64 0),(.int .i64 0),(.int .i64 0),(.int .i64 0),(.int .i64 0),(.int .i64 0),(.int .i64 0),(.int .i64 0),(.int .i64 0),(.int .i64 0),(.int .i64 0),(.int .i64 0),(.int .i64 0),(.int .i64 0),(.int .i64 0),(.int .i64 0),(.int .i64 0),(.int .i64 0),(.int .i64 0),(.int .i64 0),(.int .i64 0),(.int .i64 0),(.int .i64 0),(.int .i64 0),(.int .i64 0),(.int .i64 0),(.int .i64 0),(.int .i64 0),(.int .i64 0),(.int .i64 0),(.int .i64 0),(.int .i64 0),(.int .i64 0),(.int .i64 0),(.int .i64 0),(.int .i64 0),(.int .i64 0),(.int .i64 0),(.int .i64 0),(.int .i64 0),(.int .i64 0),(.int .i64 0),(.int .i64 0),(.int .i64 0),(.int .i64 0),(.int .i64 0),(.int .i64 0),(.int .i64 0),(.int .i64 0),(.int .i64 0),(.int .i64 0),(.int .i64 0),(.int .i64 0),(.int .i64 0),(.int .i64 0),(.int .i64 0),(.int .i64 0),(.int .i64 0),(.int .i64 0),(.int .i64 0),(.int .i64 0),(.int .i64 0),(.int .i64 0),(.int .i64 0),(.int .i64 0),(.int .i64 0),(.int .i64 0),(.int .i64 0),(.int .i64 0),(.int .i64 0),(.int .i64 0),(.int .i64 0),(.int .i64 0),(.int .i64 0),(.int .i64 0),(.int .i64 0),(.int .i64 0),(.int .i64 0),(.int .i64 0),(.int .i64 0),(.int .i64 0),(.int .i64 0),(.int .i64 0),(.int .i64 0),(.int .i64 0),(.int .i64 0),(.int .i64 0),(.int .i64 0),(.int .i64 0),(.int .i64 0),(.int .i64 0),(.int .i64 0),(.int .i64 0),(.int .i64 0),(.int .i64 0),(.int .i64 0),(.int .i64 0),(.int .i64 0),(.int .i64 0),(.int .i64 0),(.int .i64 0),(.int .i64 0),(.int .i64 0),(.int .i64 0),(.int .i64 0),(.int .i64 0),(.int .i64 0),(.int .i64 0),(.int .i64 0),(.int .i64 0),(.int .i64 0),(.int .i64 0),(.int .i64 0),(.int .i64 0),(.int .i64 0),(.int .i64 0),(.int .i64 0),(.int .i64 0),(.int .i64 0),(.int .i64 0),(.int .i64 0),(.int .i64 0),(.int .i64 0),(.int .i64 0),(.int .i64 0),(.int .i64 0),(.int .i64 0),(.int .i64 0),(.int .i64 0),(.int .i64 0),(.int .i64 0),(.int .i64 0),(.int .i64 0),(.int .i64 0),(.int .i64 0),(.int .i64 0),(.int .i64 0),(.int .i64 0),(.int .i64 0),(.int .i64 0),(.int .i64 0),(.int .i64 0),(.int .i64 0),(.int .i64 0),(.int .i64 0),(.int .i64 0),(.int .i64 0),(.int .i64 0),(.int .i64 0),(.int .i64 0),(.int .i64 0),(.int .i64 0),(.int .i64 0),(.int .i64 0),(.int .i64 0),(.int .i64 0),(.int .i64 0),(.int .i64 0),(.int .i64 0),(.int .i64 0),(.int .i64 0),(.int .i64 0),(.int .i64 0),(.int .i64 0),(.int .i64 0),(.int .i64 0),(.int .i64 0),(.int .i64 0),(.int .i64 0),(.int .i64 0),(.int .i64 0),(.int .i64 0),(.int .i64 0),(.int .i64 0),(.int .i64 0),(.int .i64 0),(.int .i64 0),(.int .i64 0),(.int .i64 0),(.int .i64 0),(.int .i64 0),(.int .i64 0),(.int .i64 0),(.int .i64 0),(.int .i64 0),(.int .i64 0),(.int .i64 0),(.int .i64 0),(.int .i64 0),(.int .i64 0),(.int .i64 0),(.int .i64 0),(.int .i64 0),(.int .i64 0),(.int .i64 0),(.int .i64 0),(.int .i64 0),(.int .i64 0),(.int .i64 0),(.int .i64 0),(.int .i64 0),(.int .i64 0),(.int .i64 0),(.int .i64 0),(.int .i64 0),(.int .i64 0),(.int .i64 0)] 1856 false false)),(210,(.mk (.struct [(0,(4,1)),(1,(3,1)),(2,(208,232))]) 234 [(.bool false),(.int .i64 0),(.int .i64 0),(.int .i64 0),(.int .i64 0),(.int .i64 0),(.int .i64 0),(.int .i64 0),(.int .i64 0),(.int .i64 0),(.int .i64 0),(.int .i64 0),(.int .i64 0),(.int .i64 0),(.int .i64 0),(.int .i64 0),(.int .i64 0),(.int .i64 0),(.int .i64 0),(.int .i64 0),(.int .i64 0),(.int .i64 0),(.int .i64 0),(.int .i64 0),(.int .i64 0),(.int .i64 0),(.int .i64 0),(.int .i64 0),(.int .i64 0),(.int .i64 0),(.int .i64 0),(.int .i64 0),(.int .i64 0),(.int .i64 0),(.int .i64 0),(.int .i64 0),(.int .i64 0),(.int .i64 0),(.int .i64 0),(.int .i64 0),(.int .i64 0),(.int .i64 0),(.int .i64 0),(.int .i64 0),(.int .i64 0),(.int .i64 0),(.int .i64 0),(.int .i64 0),(.int .i64 0),(.int .i64 0),(.int .i64 0),(.int .i64 0),(.int .i64 0),(.int .i64 0),(.int .i64 0),(.int .i64 0),(.int .i64 0),(.int .i64 0),(.int .i64 0),(.int .i64 0),(.int .i64 0),(.int .i64 0),(.int .i64 0),(.int .i64 0),(.int .i64 0),(.int .i64 0),(.int .i64 0),(.int .i64 0),(.int .i64 0),(.int .i64 0),(.int .i64 0),(.int .i64 0),(.int .i64 0),(.int .i64 0),(.int .i64 0),(.int .i64 0),(.int .i64 0),(.int .i64 0),(.int .i64 0),(.int .i64 0),(.int .i64 0),(.int .i64 0),(.int .i64 0),(.int .i64 0),(.int .i64 0),(.int .i64 0),(.int .i64 0),(.int .i64 0),(.int .i64 0),(.int .i64 0),(.int .i64 0),(.int .i64 0),(.int .i64 0),(.int .i64 0),(.int .i64 0),(.int .i64 0),(.int .i64 0),(.int .i64 0),(.int .i64 0),(.int .i64 0),(.int .i64 0),(.int .i64 0),(.int .i64 0),(.int .i64 0),(.int .i64 0),(.int .i64 0),(.int .i64 0),(.int .i64 0),(.int .i64 0),(.int .i64 0),(.int .i64 0),(.int .i64 0),(.int .i64 0),(.int .i64 0),(.int .i64 0),(.int .i64 0),(.int .i64 0),(.int .i64 0),(.int .i64 0),(.int .i64 0),(.int .i64 0),(.int .i64 0),(.int .i64 0),(.int .i64 0),(.int .i64 0),(.int .i64 0),(.int .i64 0),(.int .i64 0),(.int .i64 0),(.int .i64 0),(.int .i64 0),(.int .i64 0),(.int .i64 0),(.int .i64 0),(.int .i64 0),(.int .i64 0),(.int .i64 0),(.int .i64 0),(.int .i64 0),(.int .i64 0),(.int .i64 0),(.int .i64 0),(.int .i64 0),(.int .i64 0),(.int .i64 0),(.int .i64 0),(.int .i64 0),(.int .i64 0),(.int .i64 0),(.int .i64 0),(.int .i64 0),(.int .i64 0),(.int .i64 0),(.int .i64 0),(.int .i64 0),(.int .i64 0),(.int .i64 0),(.int .i64 0),(.int .i64 0),(.int .i64 0),(.int .i64 0),(.int .i64 0),(.int .i64 0),(.int .i64 0),(.int .i64 0),(.int .i64 0),(.int .i64 0),(.int .i64 0),(.int .i64 0),(.int .i64 0),(.int .i64 0),(.int .i64 0),(.int .i64 0),(.int .i64 0),(.int .i64 0),(.int .i64 0),(.int .i64 0),(.int .i64 0),(.int .i64 0),(.int .i64 0),(.int .i64 0),(.int .i64 0),(.int .i64 0),(.int .i64 0),(.int .i64 0),(.int .i64 0),(.int .i64 0),(.int .i64 0),(.int .i64 0),(.int .i64 0),(.int .i64 0),(.int .i64 0),(.int .i64 0),(.int .i64 0),(.int .i64 0),(.int .i64 0),(.int .i64 0),(.int .i64 0),(.int .i64 0),(.int .i64 0),(.int .i64 0),(.int .i64 0),(.int .i64 0),(.int .i64 0),(.int .i64 0),(.int .i64 0),(.int .i64 0),(.int .i64 0),(.int .i64 0),(.int .i64 0),(.int .i64 0),(.int .i64 0),(.int .i64 0),(.int .i64 0),(.int .i64 0),(.int .i64 0),(.int .i64 0),(.int .i64 0),(.int .i64 0),(.int .i64 0),(.int .i64 0),(.int .i64 0),(.int .i64 0),(.int .i64 0),(.int .i64 0),(.int .i64 0),(.int .i64 0),(.int .i64 0),(.int .i64 0),(.int .i64 0),(.int .i64 0),(.int .i64 0),(.int .i64 0),(.int .i64 0)] 1872 true true)),(216,(.mk .func 1 [.nilFunc] 8 false false)),(223,(.mk (.struct [(0,(38,2)),(2,(38,2)),(4,(36,1))]) 5 [(.string (.mk (.mk []))),(.string (.mk (.mk []))),(.string (.mk (.mk []))),(.string (.mk (.mk []))),(.string (.mk (.mk [])))] 80 true true)),(227,(.mk (.array 3 3 1) 3 [(.int .i64 0),(.int .i64 0),(.int .i64 0)] 24 false false)),(228,(.mk (.array 2 227 3) 6 [(.int .i64 0),(.int .i64 0),(.int .i64 0),(.int .i64 0),(.int .i64 0),(.int .i64 0)] 48 false false)),(252,(.mk (.ptr 267) 1 [(.pointer .none)] 8 false false)),(264,(.mk .func 1 [.nilFunc] 8 false false)),(265,(.mk (.ptr 5) 1 [(.pointer .none)] 8 false false)),(267,(.mk (.struct [(0,(26,1))]) 1 [(.int .i64 0)] 8 true true)),(269,(.mk .func 1 [.nilFunc] 8 false false)),(270,(.mk .func 1 [.nilFunc] 8 false false)),(288,(.mk (.int .u32) 1 [(.int .u32 0)] 4 false false)),(296,(.mk (.int .u64) 1 [(.int .u64 0)] 8 false false)),(316,(.mk (.array 20 296 1) 20 [(.int .u64 0),(.int .u64 0),(.int .u64 0),(.int .u64 0),(.int .u64 0),(.int .u64 0),(.int .u64 0),(.int .u64 0),(.int .u64 0),(.int .u64 0),(.int .u64 0),(.int .u64 0),(.int .u64 0),(.int .u64 0),(.int .u64 0),(.int .u64 0),(.int .u64 0),(.int .u64 0),(.int .u64 0),(.int .u64 0)] 160 false false)),(324,(.mk (.array 0 16 1) 0 [] 0 false false)),(326,(.mk (.struct [(0,(324,0))]) 0 [] 0 false true)),(328,(.mk (.int .u8) 1 [(.int .u8 0)] 1 false false)),(329,(.mk (.int .u8) 1 [(.int .u8 0)] 1 false false)),(330,(.mk .func 1 [.nilFunc] 8 false false)),(331,(.mk (.int .i32) 1 [(.int .i32 0)] 4 false false)),(332,(.mk (.int .i32) 1 [(.int .i32 0)] 4 false false)),(334,(.mk (.struct [(0,(12,1)),(1,(12,1)),(2,(288,1)),(3,(328,1)),(4,(5,1)),(5,(5,1)),(6,(329,1)),(7,(330,1)),(8,(265,1)),(9,(331,1)),(10,(332,1))]) 11 [(.int .u64 0),(.int .u64 0),(.int .u32 0),(.int .u8 0),(.int .u8 0),(.int .u8 0),(.int .u8 0),.nilFunc,(.pointer .none),(.int .i32 0),(.int .i32 0)] 48 false true))]
noncomputable def qa:List (Nat×AV):=[(6,(.eptr [.int .u64,.int .u64,.int .u64,.int .u64,.int .u64,.int .u64,.int .u64,.int .u64,.int .u64,.int .u64,.int .u64,.int .u64,.int .u64,.int .u64,.int .u64,.int .u64,.int .u64,.int .u64,.int .u64,.int .u64] [[.i 1,.i 10,.i 100,.i 1000,.i 10000,.i 100000,.i 1000000,.i 10000000,.i 100000000,.i 1000000000,.i 10000000000,.i 100000000000,.i 1000000000000,.i 10000000000000,.i 100000000000000,.i 1000000000000000,.i 10000000000000000,.i 100000000000000000,.i 1000000000000000000,.i 10000000000000000000]] 0 0))]
theorem q8:qbp.map (fun x=>qqA Tryz.prog x.1)=qbp.map (·.2):=by kernel_rfl
theorem qc:Tryz.prog.follows .mixedOrders=true:=by kernel_rfl
noncomputable def qe(s:List (FuncId×(List AV→List Blk→Tree (AV×List Blk))))(b:List (FuncId×Func))(l:List ((FuncId×Nat)×(St→Tree (Ex×St))))(n:Nat):Env:=⟨qbp,qa,s,b,l,n,[]⟩
def q7c:FIn:=⟨[(.agg [.str,.str,.str])],[]⟩
def q7p:List FOut:=[⟨.bool,[],none⟩]
def q8Z:Tmpl:={ t:=(qB 13 ((.vec 1)::(.int .i64)::(.int .i64)::qB 7 [])),h:=[.dead,.vec 36 [.str]] }
def q8u:List Out:=[⟨(.exit 0),{ t:=(qB 23 []),h:=[] }⟩,⟨.ret,{ t:=(.any::.any::.bool::qB 20 []),h:=[] }⟩]
noncomputable def q4C:=qe [] [(60,Tryz.f60)] [] 0
noncomputable def q1c:=wX q4C 60 Tryz.f60 3 q8Z q8u
theorem qhC:qk Tryz.prog qa q4C.nimp (qu Tryz.prog q4C.iter 60) (zd Tryz.f60 3) (qj q8Z q8u (qg q1c)):=
 gk q4C qc q8 aln aln (b1 Tryz.func60) Tryz.func60
noncomputable def qhA:=qe [] [(60,Tryz.f60)] [((60,3),qj q8Z q8u (qg q1c))] 0
noncomputable def q1Z:=qp qhA 60 Tryz.f60 true q7c q7p
theorem qcR:zh Tryz.prog qa 60 (q9 q7c q7p q1Z):=sk qhA qc q8 aln (alc (lk Tryz.func60 qhC) aln) (b1 Tryz.func60) Tryz.func60
def qg7:FIn:=⟨[(.imm [.str,.str,.str])],[]⟩
def qfV:List FOut:=[⟨.bool,[],none⟩]
def qbY:Tmpl:={ t:=((.imm [.str,.str,.str])::.any::.any::(.int .i64)::qB 29 []),h:=[] }
def qbP:List Out:=[⟨(.exit 0),{ t:=((.imm [.str,.str,.str])::qB 32 []),h:=[] }⟩,⟨.ret,{ t:=(.any::.any::.bool::qB 30 []),h:=[] }⟩]
noncomputable def q7m:=qe [(60,q9 q7c q7p q1Z)] [(15,Tryz.f15)] [] 0
noncomputable def q4d:=wX q7m 15 Tryz.f15 3 qbY qbP
theorem qjZ:qk Tryz.prog qa q7m.nimp (qu Tryz.prog q7m.iter 15) (zd Tryz.f15 3) (qj qbY qbP (qg q4d)):=
 gk q7m qc q8 (alc qcR aln) aln (b1 Tryz.func15) Tryz.func15
noncomputable def qme:=qe [(60,q9 q7c q7p q1Z)] [(15,Tryz.f15)] [((15,3),qj qbY qbP (qg q4d))] 0
noncomputable def q8i:=qp qme 15 Tryz.f15 true qg7 qfV
theorem qmB:zh Tryz.prog qa 15 (q9 qg7 qfV q8i):=sk qme qc q8 (alc qcR aln) (alc (lk Tryz.func15 qjZ) aln) (b1 Tryz.func15) Tryz.func15
def q0Y:FIn:=⟨[.str,.str],[]⟩
def q14:List FOut:=[⟨(.int .i64),[],none⟩]
noncomputable def wW:List PV→TR:=qpm
theorem q5h:zh Tryz.prog qa 217 (q9 q0Y q14 wW):=qrU Tryz.lays219 (q1B Tryz.func217 (by kernel_rfl) (by kernel_rfl))
def yB:FIn:=⟨[.str,.str],[]⟩
def yA:List FOut:=[⟨(.tuple [.str,.str,.bool]),[],none⟩]
noncomputable def q2g:=qe [(217,q9 q0Y q14 wW)] [(184,Tryz.f184)] [] 0
noncomputable def zQ:=qp q2g 184 Tryz.f184 true yB yA
theorem q6v:zh Tryz.prog qa 184 (q9 yB yA zQ):=sk q2g qc q8 (alc q5h aln) aln (b1 Tryz.func184) Tryz.func184
def qc4:FIn:=⟨[.str,.str],[]⟩
def qbU:List FOut:=[⟨(.tuple [.str,.str,.bool]),[],none⟩]
noncomputable def qhQ:=qe [(184,q9 yB yA zQ)] [(152,Tryz.f152)] [] 0
noncomputable def q3Y:=qp qhQ 152 Tryz.f152 true qc4 qbU
theorem qk3:zh Tryz.prog qa 152 (q9 qc4 qbU q3Y):=sk qhQ qc q8 (alc q6v aln) aln (b1 Tryz.func152) Tryz.func152
def q1d:FIn:=⟨[.str],[]⟩
def q1o:List FOut:=[⟨(.tuple [.str,.str,.bool]),[],none⟩]
noncomputable def qlT:=qe [(152,q9 qc4 qbU q3Y)] [(112,Tryz.f112)] [] 0
noncomputable def qM:=qp qlT 112 Tryz.f112 true q1d q1o
theorem q0K:zh Tryz.prog qa 112 (q9 q1d q1o qM):=sk qlT qc q8 (alc qk3 aln) aln (b1 Tryz.func112) Tryz.func112
def zC:FIn:=⟨[.str,.str],[]⟩
def zD:List FOut:=[⟨.bool,[],none⟩]
noncomputable def uK:=qe [] [(218,Tryz.f218)] [] 0
noncomputable def qF:=qp uK 218 Tryz.f218 true zC zD
theorem yo:zh Tryz.prog qa 218 (q9 zC zD qF):=sk uK qc q8 aln aln (b1 Tryz.func218) Tryz.func218
def vg:FIn:=⟨[.str,.str],[]⟩
def vh:List FOut:=[⟨.str,[],none⟩]
noncomputable def ug:=qe [(218,q9 zC zD qF)] [(185,Tryz.f185)] [] 0
noncomputable def qX:=qp ug 185 Tryz.f185 true vg vh
theorem q2O:zh Tryz.prog qa 185 (q9 vg vh qX):=sk ug qc q8 (alc yo aln) aln (b1 Tryz.func185) Tryz.func185
def vo:FIn:=⟨[.str,.str],[]⟩
def vq:List FOut:=[⟨.str,[],none⟩]
noncomputable def q6Q:=qe [(185,q9 vg vh qX)] [(153,Tryz.f153)] [] 0
noncomputable def qN:=qp q6Q 153 Tryz.f153 true vo vq
theorem jI:zh Tryz.prog qa 153 (q9 vo vq qN):=sk q6Q qc q8 (alc q2O aln) aln (b1 Tryz.func153) Tryz.func153
def qfj:FIn:=⟨[.str,.str],[]⟩
def qfz:List FOut:=[⟨.str,[],none⟩]
noncomputable def q5z:List PV→TR:=quK
theorem qiu:zh Tryz.prog qa 154 (q9 qfj qfz q5z):=qt7 Tryz.lays160 (q1B Tryz.func154 (by kernel_rfl) (by kernel_rfl)) (by kernel_rfl)
def yS:FIn:=⟨[.str],[]⟩
def yY:List FOut:=[⟨(.int .i64),[],none⟩]
noncomputable def qh5:=qe [(153,q9 vo vq qN),(154,q9 qfj qfz q5z)] [(113,Tryz.f113)] [] 0
noncomputable def qY:=qp qh5 113 Tryz.f113 true yS yY
theorem yO:zh Tryz.prog qa 113 (q9 yS yY qY):=sk qh5 qc q8 (alc jI (alc qiu aln)) aln (b1 Tryz.func113) Tryz.func113
def um:FIn:=⟨[(.imm [.str])],[]⟩
def uk:List FOut:=[⟨(.int .i64),[],none⟩]
def qbX:Tmpl:={ t:=(qB 6 ((.imm [.str])::(.int .i64)::(.int .i64)::qB 9 [])),h:=[] }
def qcm:List Out:=[⟨(.exit 0),{ t:=(qB 18 []),h:=[] }⟩,⟨.ret,{ t:=(.any::.any::(.int .i64)::qB 15 []),h:=[] }⟩]
noncomputable def q7v:=qe [(113,q9 yS yY qY)] [(155,Tryz.f155)] [] 0
noncomputable def q4w:=wX q7v 155 Tryz.f155 3 qbX qcm
theorem qjN:qk Tryz.prog qa q7v.nimp (qu Tryz.prog q7v.iter 155) (zd Tryz.f155 3) (qj qbX qcm (qg q4w)):=
 gk q7v qc q8 (alc yO aln) aln (b1 Tryz.func155) Tryz.func155
noncomputable def qkQ:=qe [(113,q9 yS yY qY)] [(155,Tryz.f155)] [((155,3),qj qbX qcm (qg q4w))] 0
noncomputable def zA:=qp qkQ 155 Tryz.f155 true um uk
theorem jJ:zh Tryz.prog qa 155 (q9 um uk zA):=sk qkQ qc q8 (alc yO aln) (alc (lk Tryz.func155 qjN) aln) (b1 Tryz.func155) Tryz.func155
def q5P:FIn:=⟨[.str],[]⟩
def q5O:List FOut:=[⟨(.int .i64),[],none⟩]
noncomputable def qjr:=qe [] [(156,Tryz.f156)] [] 0
noncomputable def jK:=qp qjr 156 Tryz.f156 true q5P q5O
theorem q8G:zh Tryz.prog qa 156 (q9 q5P q5O jK):=sk qjr qc q8 aln aln (b1 Tryz.func156) Tryz.func156
def qb0:FIn:=⟨[.str,.str],[]⟩
def qba:List FOut:=[⟨(.int .i64),[],none⟩]
noncomputable def q1W:List PV→TR:=qke
theorem qeJ:zh Tryz.prog qa 193 (q9 qb0 qba q1W):=qoS Tryz.lays106 (q1B Tryz.func193 (by kernel_rfl) (by kernel_rfl))
def qbw:FIn:=⟨[.str,.str],[]⟩
def qcc:List FOut:=[⟨(.int .i64),[],none⟩]
noncomputable def qh0:=qe [(193,q9 qb0 qba q1W)] [(157,Tryz.f157)] [] 0
noncomputable def q4f:=qp qh0 157 Tryz.f157 true qbw qcc
theorem qjO:zh Tryz.prog qa 157 (q9 qbw qcc q4f):=sk qh0 qc q8 (alc qeJ aln) aln (b1 Tryz.func157) Tryz.func157
def q8M:FIn:=⟨[.str,.str],[]⟩
def q7W:List FOut:=[⟨(.tuple [(.int .i64),(.int .i64)]),[],none⟩]
noncomputable def qd7:=qe [(153,q9 vo vq qN),(155,q9 um uk zA),(156,q9 q5P q5O jK),(157,q9 qbw qcc q4f)] [(114,Tryz.f114)] [] 0
noncomputable def q1s:=qp qd7 114 Tryz.f114 true q8M q7W
theorem qhG:zh Tryz.prog qa 114 (q9 q8M q7W q1s):=sk qd7 qc q8 (alc jI (alc jJ (alc q8G (alc qjO aln)))) aln (b1 Tryz.func114) Tryz.func114
def q5C:FIn:=⟨[.str],[]⟩
def q5N:List FOut:=[⟨(.tuple [(.int .i64),.any]),[],none⟩]
noncomputable def v6:List PV→TR:=qvJ
theorem q59:zh Tryz.prog qa 194 (q9 q5C q5N v6):=qtq Tryz.lays172 (q1B Tryz.func194 (by kernel_rfl) (by kernel_rfl))
def ze:FIn:=⟨[(.ptr 0 0)],[.big [.bool,(.int .i64)] .i64 232]⟩
def zf:List FOut:=[⟨(.ptr 0 0),[.big [.bool,(.int .i64)] .i64 232],none⟩]
def q0Q:Tmpl:={ t:=((.ptr 0 0)::qB 28 []),h:=[.big [.bool,(.int .i64)] .i64 232] }
def q0R:List Out:=[⟨(.exit 0),{ t:=((.ptr 0 0)::qB 28 []),h:=[.big [.bool,(.int .i64)] .i64 232] }⟩]
noncomputable def yu:=qe [] [(195,Tryz.f195)] [] 1
noncomputable def vD:=wX yu 195 Tryz.f195 2 q0Q q0R
theorem qau:qk Tryz.prog qa yu.nimp (qu Tryz.prog yu.iter 195) (zd Tryz.f195 2) (qj q0Q q0R (qg vD)):=
 gk yu qc q8 aln aln (b1 Tryz.func195) Tryz.func195
noncomputable def q6S:=qe [] [(195,Tryz.f195)] [((195,2),qj q0Q q0R (qg vD))] 1
noncomputable def qz:=qp q6S 195 Tryz.f195 false ze zf
theorem zp:zh Tryz.prog qa 195 (q9 ze zf qz):=qkD (E:=q6S) qc ⟨qcZ q8,aln,(alc (lk Tryz.func195 qau) aln),(b1 Tryz.func195)⟩ Tryz.func195 (by kernel_rfl) (by kernel_rfl) (fun _=>rfl)
def u5:FIn:=⟨[.str],[]⟩
def yW:List FOut:=[⟨(.ptr 0 0),[.big [.bool,(.int .i64)] .i64 232],none⟩]
def q9R:Tmpl:={ t:=(.any::.any::.any::.str::(.ptr 0 0)::qB 43 []),h:=[.big [.bool,(.int .i64)] .i64 232] }
def qaa:List Out:=[⟨(.exit 0),{ t:=(qB 4 ((.ptr 0 0)::qB 43 [])),h:=[.big [.bool,(.int .i64)] .i64 232] }⟩]
noncomputable def q5y:=qe [(153,q9 vo vq qN),(194,q9 q5C q5N v6),(195,q9 ze zf qz)] [(158,Tryz.f158)] [] 0
noncomputable def q2G:=wX q5y 158 Tryz.f158 5 q9R qaa
theorem qit:qk Tryz.prog qa q5y.nimp (qu Tryz.prog q5y.iter 158) (zd Tryz.f158 5) (qj q9R qaa (qg q2G)):=
 gk q5y qc q8 (alc jI (alc q59 (alc zp aln))) aln (b1 Tryz.func158) Tryz.func158
noncomputable def qju:=qe [(153,q9 vo vq qN),(194,q9 q5C q5N v6),(195,q9 ze zf qz)] [(158,Tryz.f158)] [((158,5),qj q9R qaa (qg q2G))] 0
noncomputable def zl:=qp qju 158 Tryz.f158 false u5 yW
theorem yg:zh Tryz.prog qa 158 (q9 u5 yW zl):=qkD (E:=qju) qc ⟨qcZ q8,(alc jI (alc q59 (alc zp aln))),(alc (lk Tryz.func158 qit) aln),(b1 Tryz.func158)⟩ Tryz.func158 (by kernel_rfl) (by kernel_rfl) (fun _=>rfl)
def qf5:FIn:=⟨[(.int .i64)],[]⟩
def qfr:List FOut:=[⟨.str,[],none⟩]
noncomputable def q2H:List PV→TR:=qvx
theorem qiB:zh Tryz.prog qa 196 (q9 qf5 qfr q2H):=qtL Tryz.laysM171 (q1B Tryz.func196 (by kernel_rfl) (by kernel_rfl)) (by kernel_rfl) (by unfold qa;exact List.mem_cons_self)
def q4Z:FIn:=⟨[(.int .i64)],[]⟩
def q5e:List FOut:=[⟨.str,[],none⟩]
noncomputable def qnJ:=qe [(196,q9 qf5 qfr q2H)] [(159,Tryz.f159)] [] 0
noncomputable def wJ:=qp qnJ 159 Tryz.f159 true q4Z q5e
theorem q45:zh Tryz.prog qa 159 (q9 q4Z q5e wJ):=sk qnJ qc q8 (alc qiB aln) aln (b1 Tryz.func159) Tryz.func159
def vJ:FIn:=⟨[(.ptr 0 0),(.ptr 1 0)],[.big [.bool,(.int .i64)] .i64 232,.big [.bool,(.int .i64)] .i64 232]⟩
def vF:List FOut:=[⟨(.int .i64),[.big [.bool,(.int .i64)] .i64 232,.big [.bool,(.int .i64)] .i64 232],none⟩]
def q1C:Tmpl:={ t:=((.ptr 0 0)::(.ptr 1 0)::.any::.any::.any::(.int .i64)::qB 53 []),h:=[.big [.bool,(.int .i64)] .i64 232,.big [.bool,(.int .i64)] .i64 232] }
def q1i:List Out:=[⟨(.exit 0),{ t:=(qB 59 []),h:=[.big [.bool,(.int .i64)] .i64 232,.big [.bool,(.int .i64)] .i64 232] }⟩,⟨.ret,{ t:=(qB 4 ((.int .i64)::qB 54 [])),h:=[.big [.bool,(.int .i64)] .i64 232,.big [.bool,(.int .i64)] .i64 232] }⟩]
noncomputable def yR:=qe [] [(197,Tryz.f197)] [] 2
noncomputable def j7:=wX yR 197 Tryz.f197 6 q1C q1i
theorem qaF:qk Tryz.prog qa yR.nimp (qu Tryz.prog yR.iter 197) (zd Tryz.f197 6) (qj q1C q1i (qg j7)):=
 gk yR qc q8 aln aln (b1 Tryz.func197) Tryz.func197
noncomputable def q7Z:=qe [] [(197,Tryz.f197)] [((197,6),qj q1C q1i (qg j7))] 2
noncomputable def zo:=qp q7Z 197 Tryz.f197 true vJ vF
theorem yv:zh Tryz.prog qa 197 (q9 vJ vF zo):=sk q7Z qc q8 aln (alc (lk Tryz.func197 qaF) aln) (b1 Tryz.func197) Tryz.func197
def q0t:FIn:=⟨[(.ptr 0 0),(.ptr 1 0)],[.big [.bool,(.int .i64)] .i64 232,.big [.bool,(.int .i64)] .i64 232]⟩
def q0q:List FOut:=[⟨(.int .i64),[.big [.bool,(.int .i64)] .i64 232,.big [.bool,(.int .i64)] .i64 232],none⟩]
noncomputable def qcG:=qe [] [(198,Tryz.f198),(227,Tryz.f227)] [] 2
noncomputable def jp:=qp qcG 198 Tryz.f198 true q0t q0q
theorem q3u:zh Tryz.prog qa 198 (q9 q0t q0q jp):=sk qcG qc q8 aln aln (alc (bk Tryz.func198) (alc (bk Tryz.func227) aln)) Tryz.func198
def zX:FIn:=⟨[(.ptr 0 0),(.ptr 1 0),(.int .i64),(.int .i64)],[.big [.bool,(.int .i64)] .i64 232,.big [.bool,(.int .i64)] .i64 232]⟩
def zS:List FOut:=[⟨(.tuple []),[.big [.bool,(.int .i64)] .i64 232,.big [.bool,(.int .i64)] .i64 232],none⟩]
def q2p:Tmpl:={ t:=((.ptr 0 0)::(.ptr 1 0)::(.int .i64)::(.int .i64)::qB 4 ((.int .i64)::(.int .i64)::qB 73 [])),h:=[.big [.bool,(.int .i64)] .i64 232,.big [.bool,(.int .i64)] .i64 232] }
def q2t:List Out:=[⟨(.exit 0),{ t:=((.ptr 0 0)::qB 82 []),h:=[.big [.bool,(.int .i64)] .i64 232,.big [.bool,(.int .i64)] .i64 232] }⟩]
noncomputable def uO:=qe [(195,q9 ze zf qz)] [(199,Tryz.f199)] [] 2
noncomputable def vr:=wX uO 199 Tryz.f199 3 q2p q2t
theorem qbN:qk Tryz.prog qa uO.nimp (qu Tryz.prog uO.iter 199) (zd Tryz.f199 3) (qj q2p q2t (qg vr)):=
 gk uO qc q8 (alc zp aln) aln (b1 Tryz.func199) Tryz.func199
noncomputable def q9o:=qe [(195,q9 ze zf qz)] [(199,Tryz.f199)] [((199,3),qj q2p q2t (qg vr))] 2
noncomputable def qG:=qp q9o 199 Tryz.f199 true zX zS
theorem wP:zh Tryz.prog qa 199 (q9 zX zS qG):=sk q9o qc q8 (alc zp aln) (alc (lk Tryz.func199 qbN) aln) (b1 Tryz.func199) Tryz.func199
def kO:FIn:=⟨[(.ptr 0 0),(.ptr 1 0)],[.big [.bool,(.int .i64)] .i64 232,.big [.bool,(.int .i64)] .i64 232]⟩
def kM:List FOut:=[⟨(.tuple [(.ptr 2 0),(.ptr 3 0)]),[.big [.bool,(.int .i64)] .i64 232,.big [.bool,(.int .i64)] .i64 232,.big [.bool,(.int .i64)] .i64 232,.big [.bool,(.int .i64)] .i64 232],none⟩]
def q3Q:Tmpl:={ t:=((.ptr 0 0)::(.ptr 1 0)::qB 4 ((.ptr 2 0)::(.ptr 3 0)::(.int .i64)::(.int .i64)::qB 80 [])),h:=[.big [.bool,(.int .i64)] .i64 232,.big [.bool,(.int .i64)] .i64 232,.big [.bool,(.int .i64)] .i64 232,.big [.bool,(.int .i64)] .i64 232] }
def q4s:List Out:=[⟨(.exit 2),{ t:=((.ptr 0 0)::(.ptr 1 0)::qB 4 ((.ptr 2 0)::(.ptr 3 0)::(.int .i64)::(.int .i64)::qB 80 [])),h:=[.big [.bool,(.int .i64)] .i64 232,.big [.bool,(.int .i64)] .i64 232,.big [.bool,(.int .i64)] .i64 232,.big [.bool,(.int .i64)] .i64 232] }⟩]
noncomputable def q17:=qe [(195,q9 ze zf qz),(197,q9 vJ vF zo),(198,q9 q0t q0q jp),(199,q9 zX zS qG)] [(160,Tryz.f160)] [] 2
noncomputable def ja:=wX q17 160 Tryz.f160 14 q3Q q4s
theorem qe1:qk Tryz.prog qa q17.nimp (qu Tryz.prog q17.iter 160) (zd Tryz.f160 14) (qj q3Q q4s (qg ja)):=
 gk q17 qc q8 (alc zp (alc yv (alc q3u (alc wP aln)))) aln (b1 Tryz.func160) Tryz.func160
def q5m:Tmpl:={ t:=((.ptr 0 0)::(.ptr 1 0)::qB 4 ((.ptr 2 0)::(.ptr 3 0)::(.int .i64)::qB 81 [])),h:=[.big [.bool,(.int .i64)] .i64 232,.big [.bool,(.int .i64)] .i64 232,.big [.bool,(.int .i64)] .i64 232,.big [.bool,(.int .i64)] .i64 232] }
def q4W:List Out:=[⟨(.exit 0),{ t:=(qB 6 ((.ptr 2 0)::(.ptr 3 0)::qB 82 [])),h:=[.big [.bool,(.int .i64)] .i64 232,.big [.bool,(.int .i64)] .i64 232,.big [.bool,(.int .i64)] .i64 232,.big [.bool,(.int .i64)] .i64 232] }⟩]
noncomputable def q2d:=qe [(195,q9 ze zf qz),(197,q9 vJ vF zo),(198,q9 q0t q0q jp),(199,q9 zX zS qG)] [(160,Tryz.f160)] [((160,14),qj q3Q q4s (qg ja))] 2
noncomputable def kL:=wX q2d 160 Tryz.f160 4 q5m q4W
theorem qeL:qk Tryz.prog qa q2d.nimp (qu Tryz.prog q2d.iter 160) (zd Tryz.f160 4) (qj q5m q4W (qg kL)):=
 gk q2d qc q8 (alc zp (alc yv (alc q3u (alc wP aln)))) (alc (lk Tryz.func160 qe1) aln) (b1 Tryz.func160) Tryz.func160
noncomputable def qdd:=qe [(195,q9 ze zf qz),(197,q9 vJ vF zo),(198,q9 q0t q0q jp),(199,q9 zX zS qG)] [(160,Tryz.f160)] [((160,4),qj q5m q4W (qg kL))] 2
noncomputable def we:=qp qdd 160 Tryz.f160 false kO kM
theorem q1a:zh Tryz.prog qa 160 (q9 kO kM we):=qkD (E:=qdd) qc ⟨qcZ q8,(alc zp (alc yv (alc q3u (alc wP aln)))),(alc (lk Tryz.func160 qeL) aln),(b1 Tryz.func160)⟩ Tryz.func160 (by kernel_rfl) (by kernel_rfl) (fun _=>rfl)
def jY:FIn:=⟨[(.ptr 0 0)],[.big [.bool,(.int .i64)] .i64 232]⟩
def jX:List FOut:=[⟨.str,[.big [.bool,(.int .i64)] .i64 232],none⟩]
noncomputable def qH:List PV→TR:=qvr
theorem jz:zh Tryz.prog qa 161 (q9 jY jX qH):=qtg (by unfold qa;exact List.mem_cons_self)
def q8s:FIn:=⟨[.str,.str],[]⟩
def q8I:List FOut:=[⟨(.tuple [.str,(.int .i64)]),[],none⟩]
def qae:Tmpl:={ t:=(qB 9 ((.int .i64)::(.int .i64)::qB 61 [])),h:=[] }
def qaf:List Out:=[⟨(.exit 2),{ t:=(qB 9 ((.int .i64)::qB 62 [])),h:=[] }⟩]
noncomputable def q5t:=qe [(155,q9 um uk zA),(158,q9 u5 yW zl),(159,q9 q4Z q5e wJ),(160,q9 kO kM we),(161,q9 jY jX qH)] [(115,Tryz.f115)] [] 0
noncomputable def q0L:=wX q5t 115 Tryz.f115 14 qae qaf
theorem qiK:qk Tryz.prog qa q5t.nimp (qu Tryz.prog q5t.iter 115) (zd Tryz.f115 14) (qj qae qaf (qg q0L)):=
 gk q5t qc q8 (alc jJ (alc yg (alc q45 (alc q1a (alc jz aln))))) aln (b1 Tryz.func115) Tryz.func115
def qc5:Tmpl:={ t:=(qB 7 ((.ptr 1 0)::(.ptr 2 0)::qB 63 [])),h:=[.dead,.big [.bool,(.int .i64)] .i64 232,.big [.bool,(.int .i64)] .i64 232],sw:=[(7,1),(8,2)],swn:=0 }
def qch:List Out:=[⟨(.exit 0),{ t:=(qB 7 ((.ptr 1 0)::qB 64 [])),h:=[.dead,.big [.bool,(.int .i64)] .i64 232] }⟩,⟨.ret,{ t:=(qB 4 (.str::(.int .i64)::qB 66 [])),h:=[] }⟩]
noncomputable def q7i:=qe [(155,q9 um uk zA),(158,q9 u5 yW zl),(159,q9 q4Z q5e wJ),(160,q9 kO kM we),(161,q9 jY jX qH)] [(115,Tryz.f115)] [((115,14),qj qae qaf (qg q0L))] 0
noncomputable def q4h:=wX q7i 115 Tryz.f115 7 qc5 qch
theorem qk0:qk Tryz.prog qa q7i.nimp (qu Tryz.prog q7i.iter 115) (zd Tryz.f115 7) (qj qc5 qch (qg q4h)):=
 gk q7i qc q8 (alc jJ (alc yg (alc q45 (alc q1a (alc jz aln))))) (alc (lk Tryz.func115 qiK) aln) (b1 Tryz.func115) Tryz.func115
noncomputable def qlE:=qe [(155,q9 um uk zA),(158,q9 u5 yW zl),(159,q9 q4Z q5e wJ),(160,q9 kO kM we),(161,q9 jY jX qH)] [(115,Tryz.f115)] [((115,7),qj qc5 qch (qg q4h))] 0
noncomputable def q1x:=qp qlE 115 Tryz.f115 true q8s q8I
theorem qak:zh Tryz.prog qa 115 (q9 q8s q8I q1x):=sk qlE qc q8 (alc jJ (alc yg (alc q45 (alc q1a (alc jz aln))))) (alc (lk Tryz.func115 qk0) aln) (b1 Tryz.func115) Tryz.func115
def q2a:FIn:=⟨[.str],[]⟩
def q1U:List FOut:=[⟨(.int .i64),[],none⟩]
noncomputable def qi2:=qe [(112,q9 q1d q1o qM),(113,q9 yS yY qY),(114,q9 q8M q7W q1s),(115,q9 q8s q8I q1x)] [(75,Tryz.f75)] [] 0
noncomputable def ve:=qp qi2 75 Tryz.f75 true q2a q1U
theorem q3d:zh Tryz.prog qa 75 (q9 q2a q1U ve):=sk qi2 qc q8 (alc q0K (alc yO (alc qhG (alc qak aln)))) aln (b1 Tryz.func75) Tryz.func75
def q2b:FIn:=⟨[(.agg [.str,.str,.str])],[]⟩
def q1G:List FOut:=[⟨(.int .i64),[],none⟩]
def q8j:Tmpl:={ t:=(.any::(.ptr 0 0)::qB 12 ((.vec 1)::(.int .i64)::(.int .i64)::qB 13 [])),h:=[.cells [.str,.str,.str],.vec 36 [.str]] }
def q83:List Out:=[⟨(.exit 0),{ t:=(.any::(.ptr 0 0)::qB 28 []),h:=[.cells [.str,.str,.str]] }⟩,⟨.ret,{ t:=(.any::.any::(.int .i64)::qB 27 []),h:=[] }⟩]
noncomputable def q4a:=qe [(75,q9 q2a q1U ve)] [(74,Tryz.f74)] [] 0
noncomputable def q1m:=wX q4a 74 Tryz.f74 3 q8j q83
theorem qgF:qk Tryz.prog qa q4a.nimp (qu Tryz.prog q4a.iter 74) (zd Tryz.f74 3) (qj q8j q83 (qg q1m)):=
 gk q4a qc q8 (alc q3d aln) aln (b1 Tryz.func74) Tryz.func74
noncomputable def qhe:=qe [(75,q9 q2a q1U ve)] [(74,Tryz.f74)] [((74,3),qj q8j q83 (qg q1m))] 0
noncomputable def jB:=qp qhe 74 Tryz.f74 true q2b q1G
theorem q3h:zh Tryz.prog qa 74 (q9 q2b q1G jB):=sk qhe qc q8 (alc q3d aln) (alc (lk Tryz.func74 qgF) aln) (b1 Tryz.func74) Tryz.func74
def zV:FIn:=⟨[(.imm [.str,.str,.str])],[]⟩
def zT:List FOut:=[⟨(.int .i64),[],none⟩]
def qa1:Tmpl:={ t:=((.imm [.str,.str,.str])::qB 8 ((.imm [.str,.str,.str])::(.int .i64)::(.int .i64)::qB 12 [])),h:=[] }
def q9M:List Out:=[⟨(.exit 0),{ t:=((.imm [.str,.str,.str])::qB 23 []),h:=[] }⟩,⟨.ret,{ t:=(.any::.any::(.int .i64)::qB 21 []),h:=[] }⟩]
noncomputable def q5B:=qe [(74,q9 q2b q1G jB)] [(62,Tryz.f62)] [] 0
noncomputable def q2w:=wX q5B 62 Tryz.f62 6 qa1 q9M
theorem qj3:qk Tryz.prog qa q5B.nimp (qu Tryz.prog q5B.iter 62) (zd Tryz.f62 6) (qj qa1 q9M (qg q2w)):=
 gk q5B qc q8 (alc q3h aln) aln (b1 Tryz.func62) Tryz.func62
noncomputable def qj8:=qe [(74,q9 q2b q1G jB)] [(62,Tryz.f62)] [((62,6),qj qa1 q9M (qg q2w))] 0
noncomputable def z7:=qp qj8 62 Tryz.f62 true zV zT
theorem zq:zh Tryz.prog qa 62 (q9 zV zT z7):=sk qj8 qc q8 (alc q3h aln) (alc (lk Tryz.func62 qj3) aln) (b1 Tryz.func62) Tryz.func62
def q3N:FIn:=⟨[.str,.str],[]⟩
def q3X:List FOut:=[⟨(.tuple [(.int .i64),(.int .i64),.bool]),[],none⟩]
noncomputable def qhE:=qe [(194,q9 q5C q5N v6)] [(257,Tryz.f257)] [] 0
noncomputable def jH:=qp qhE 257 Tryz.f257 true q3N q3X
theorem q6L:zh Tryz.prog qa 257 (q9 q3N q3X jH):=sk qhE qc q8 (alc q59 aln) aln (b1 Tryz.func257) Tryz.func257
def q5A:FIn:=⟨[(.int .i64)],[]⟩
def q5F:List FOut:=[⟨(.tuple [.str,(.int .i64)]),[],none⟩]
noncomputable def qfh:=qe [(159,q9 q4Z q5e wJ)] [(258,Tryz.f258)] [] 0
noncomputable def ut:=qp qfh 258 Tryz.f258 true q5A q5F
theorem qb6:zh Tryz.prog qa 258 (q9 q5A q5F ut):=sk qfh qc q8 (alc q45 aln) aln (b1 Tryz.func258) Tryz.func258
def jt:FIn:=⟨[(.ptr 0 0)],[.big [.bool,(.int .i64)] .i64 232]⟩
def jw:List FOut:=[⟨(.tuple [.str,(.int .i64)]),[.big [.bool,(.int .i64)] .i64 232],none⟩]
noncomputable def q6T:=qe [(113,q9 yS yY qY),(161,q9 jY jX qH)] [(260,Tryz.f260)] [] 1
noncomputable def zz:=qp q6T 260 Tryz.f260 true jt jw
theorem q06:zh Tryz.prog qa 260 (q9 jt jw zz):=sk q6T qc q8 (alc yO (alc jz aln)) aln (b1 Tryz.func260) Tryz.func260
def kD:FIn:=⟨[(.ptr 0 0),(.ptr 1 0)],[.big [.bool,(.int .i64)] .i64 232,.big [.bool,(.int .i64)] .i64 232]⟩
def uT:List FOut:=[⟨(.tuple []),[.big [.bool,(.int .i64)] .i64 232,.big [.bool,(.int .i64)] .i64 232],none⟩]
noncomputable def qbe:=qe [(197,q9 vJ vF zo),(199,q9 zX zS qG)] [(274,Tryz.f274)] [] 2
noncomputable def zJ:=qp qbe 274 Tryz.f274 true kD uT
theorem q2j:zh Tryz.prog qa 274 (q9 kD uT zJ):=sk qbe qc q8 (alc yv (alc wP aln)) aln (b1 Tryz.func274) Tryz.func274
def qfM:FIn:=⟨[(.imm [.str])],[]⟩
def qgo:List FOut:=[⟨(.tuple [.str,(.int .i64)]),[],none⟩]
def qbJ:Tmpl:={ t:=(qB 4 ((.ptr 0 0)::qB 4 ((.imm [.str])::(.int .i64)::(.int .i64)::qB 12 []))),h:=[.big [.bool,(.int .i64)] .i64 232] }
def qbG:List Out:=[⟨(.exit 0),{ t:=(qB 4 ((.ptr 0 0)::qB 19 [])),h:=[.big [.bool,(.int .i64)] .i64 232] }⟩]
noncomputable def q7x:=qe [(158,q9 u5 yW zl),(260,q9 jt jw zz),(274,q9 kD uT zJ)] [(261,Tryz.f261)] [] 0
noncomputable def q4p:=wX q7x 261 Tryz.f261 4 qbJ qbG
theorem qjT:qk Tryz.prog qa q7x.nimp (qu Tryz.prog q7x.iter 261) (zd Tryz.f261 4) (qj qbJ qbG (qg q4p)):=
 gk q7x qc q8 (alc yg (alc q06 (alc q2j aln))) aln (b1 Tryz.func261) Tryz.func261
noncomputable def qlN:=qe [(158,q9 u5 yW zl),(260,q9 jt jw zz),(274,q9 kD uT zJ)] [(261,Tryz.f261)] [((261,4),qj qbJ qbG (qg q4p))] 0
noncomputable def q8X:=qp qlN 261 Tryz.f261 true qfM qgo
theorem qn9:zh Tryz.prog qa 261 (q9 qfM qgo q8X):=sk qlN qc q8 (alc yg (alc q06 (alc q2j aln))) (alc (lk Tryz.func261 qjT) aln) (b1 Tryz.func261) Tryz.func261
def q8g:FIn:=⟨[.str,.str],[]⟩
def q8R:List FOut:=[⟨(.tuple [.str,(.int .i64)]),[],none⟩]
noncomputable def qkJ:=qe [(155,q9 um uk zA),(257,q9 q3N q3X jH),(258,q9 q5A q5F ut),(261,q9 qfM qgo q8X)] [(236,Tryz.f236)] [] 0
noncomputable def q1n:=qp qkJ 236 Tryz.f236 true q8g q8R
theorem qa0:zh Tryz.prog qa 236 (q9 q8g q8R q1n):=sk qkJ qc q8 (alc jJ (alc q6L (alc qb6 (alc qn9 aln)))) aln (b1 Tryz.func236) Tryz.func236
def q6f:FIn:=⟨[.str],[]⟩
def q6j:List FOut:=[⟨.str,[],none⟩]
noncomputable def qcr:=qe [(156,q9 q5P q5O jK)] [(256,Tryz.f256)] [] 0
noncomputable def q0s:=qp qcr 256 Tryz.f256 true q6f q6j
theorem qfG:zh Tryz.prog qa 256 (q9 q6f q6j q0s):=sk qcr qc q8 (alc q8G aln) aln (b1 Tryz.func256) Tryz.func256
def qc6:FIn:=⟨[.str,.str],[]⟩
def qbv:List FOut:=[⟨(.tuple [.str,(.int .i64)]),[],none⟩]
noncomputable def qkG:=qe [(155,q9 um uk zA),(236,q9 q8g q8R q1n),(256,q9 q6f q6j q0s)] [(233,Tryz.f233)] [] 0
noncomputable def q5o:=qp qkG 233 Tryz.f233 true qc6 qbv
theorem qfp:zh Tryz.prog qa 233 (q9 qc6 qbv q5o):=sk qkG qc q8 (alc jJ (alc qa0 (alc qfG aln))) aln (b1 Tryz.func233) Tryz.func233
def uI:FIn:=⟨[(.ptr 0 0),(.fn 233 [] []),.str,.str],[.cells [(.int .i64)]]⟩
def uA:List FOut:=[⟨.str,[.cells [(.int .i64)]],none⟩]
noncomputable def q2B:=qe [(233,q9 qc6 qbv q5o)] [(232,Tryz.f232)] [] 1
noncomputable def wg:=qp q2B 232 Tryz.f232 true uI uA
theorem q7t:zh Tryz.prog qa 232 (q9 uI uA wg):=sk q2B qc q8 (alc qfp aln) aln (b1 Tryz.func232) Tryz.func232
def yL:FIn:=⟨[(.ptr 0 0),.str,.str],[.cells [(.int .i64)]]⟩
def yN:List FOut:=[⟨.str,[.cells [(.int .i64)]],none⟩]
noncomputable def qcC:=qe [(233,q9 qc6 qbv q5o),(232,q9 uI uA wg)] [(206,Tryz.f206)] [] 1
noncomputable def zg:=qp qcC 206 Tryz.f206 true yL yN
theorem q07:zh Tryz.prog qa 206 (q9 yL yN zg):=sk qcC qc q8 (alc qfp (alc q7t aln)) aln (b1 Tryz.func206) Tryz.func206
def q4F:FIn:=⟨[(.ptr 0 0),(.ptr 1 0)],[.big [.bool,(.int .i64)] .i64 232,.big [.bool,(.int .i64)] .i64 232]⟩
def q4e:List FOut:=[⟨(.ptr 2 0),[.big [.bool,(.int .i64)] .i64 232,.big [.bool,(.int .i64)] .i64 232,.big [.bool,(.int .i64)] .i64 232],none⟩]
def q2k:Tmpl:={ t:=((.ptr 0 0)::(.ptr 1 0)::.any::.any::.any::(.ptr 2 0)::qB 15 ((.int .i64)::(.int .i64)::qB 14 [])),h:=[.big [.bool,(.int .i64)] .i64 232,.big [.bool,(.int .i64)] .i64 232,.big [.bool,(.int .i64)] .i64 232] }
def q2s:List Out:=[⟨(.exit 0),{ t:=(qB 5 ((.ptr 2 0)::qB 31 [])),h:=[.big [.bool,(.int .i64)] .i64 232,.big [.bool,(.int .i64)] .i64 232,.big [.bool,(.int .i64)] .i64 232] }⟩]
noncomputable def uQ:=qe [(199,q9 zX zS qG)] [(259,Tryz.f259)] [] 2
noncomputable def jy:=wX uQ 259 Tryz.f259 4 q2k q2s
theorem qbA:qk Tryz.prog qa uQ.nimp (qu Tryz.prog uQ.iter 259) (zd Tryz.f259 4) (qj q2k q2s (qg jy)):=
 gk uQ qc q8 (alc wP aln) aln (b1 Tryz.func259) Tryz.func259
noncomputable def q9j:=qe [(199,q9 zX zS qG)] [(259,Tryz.f259)] [((259,4),qj q2k q2s (qg jy))] 2
noncomputable def ud:=qp q9j 259 Tryz.f259 false q4F q4e
theorem qdT:zh Tryz.prog qa 259 (q9 q4F q4e ud):=qkD (E:=q9j) qc ⟨qcZ q8,(alc wP aln),(alc (lk Tryz.func259 qbA) aln),(b1 Tryz.func259)⟩ Tryz.func259 (by kernel_rfl) (by kernel_rfl) (fun _=>rfl)
def q8a:FIn:=⟨[.str,.str],[]⟩
def q8P:List FOut:=[⟨(.tuple [.str,(.int .i64)]),[],none⟩]
noncomputable def qlX:=qe [(155,q9 um uk zA),(158,q9 u5 yW zl),(257,q9 q3N q3X jH),(258,q9 q5A q5F ut),(259,q9 q4F q4e ud),(260,q9 jt jw zz)] [(234,Tryz.f234)] [] 0
noncomputable def q3n:=qp qlX 234 Tryz.f234 true q8a q8P
theorem q9Q:zh Tryz.prog qa 234 (q9 q8a q8P q3n):=sk qlX qc q8 (alc jJ (alc yg (alc q6L (alc qb6 (alc qdT (alc q06 aln)))))) aln (b1 Tryz.func234) Tryz.func234
def vQ:FIn:=⟨[(.ptr 0 0),(.fn 234 [] []),.str,.str],[.cells [(.int .i64)]]⟩
def vY:List FOut:=[⟨.str,[.cells [(.int .i64)]],none⟩]
noncomputable def q2E:=qe [(234,q9 q8a q8P q3n)] [(232,Tryz.f232)] [] 1
noncomputable def zw:=qp q2E 232 Tryz.f232 true vQ vY
theorem q0W:zh Tryz.prog qa 232 (q9 vQ vY zw):=sk q2E qc q8 (alc q9Q aln) aln (b1 Tryz.func232) Tryz.func232
def vw:FIn:=⟨[(.ptr 0 0),(.imm [.str])],[.cells [(.int .i64)]]⟩
def vA:List FOut:=[⟨.str,[.cells [(.int .i64)]],none⟩]
def q49:Tmpl:={ t:=(qB 5 (.str::(.fn 232 [(.ptr 0 0)] [])::qB 4 ((.imm [.str])::(.int .i64)::(.int .i64)::qB 9 []))),h:=[.cells [(.int .i64)]] }
def q4n:List Out:=[⟨(.exit 0),{ t:=(qB 5 (.str::qB 17 [])),h:=[.cells [(.int .i64)]] }⟩]
noncomputable def q18:=qe [(234,q9 q8a q8P q3n),(232,q9 vQ vY zw)] [(207,Tryz.f207)] [] 1
noncomputable def j8:=wX q18 207 Tryz.f207 4 q49 q4n
theorem qe6:qk Tryz.prog qa q18.nimp (qu Tryz.prog q18.iter 207) (zd Tryz.f207 4) (qj q49 q4n (qg j8)):=
 gk q18 qc q8 (alc q9Q (alc q0W aln)) aln (b1 Tryz.func207) Tryz.func207
noncomputable def qcL:=qe [(234,q9 q8a q8P q3n),(232,q9 vQ vY zw)] [(207,Tryz.f207)] [((207,4),qj q49 q4n (qg j8))] 1
noncomputable def qf:=qp qcL 207 Tryz.f207 true vw vA
theorem vL:zh Tryz.prog qa 207 (q9 vw vA qf):=sk qcL qc q8 (alc q9Q (alc q0W aln)) (alc (lk Tryz.func207 qe6) aln) (b1 Tryz.func207) Tryz.func207
def q7z:FIn:=⟨[(.ptr 0 0),.str,.str,.str,.str],[.cells [(.int .i64)]]⟩
def q7r:List FOut:=[⟨(.tuple [.str,.str]),[.cells [(.int .i64)]],none⟩]
noncomputable def qgz:=qe [(206,q9 yL yN zg),(207,q9 vw vA qf)] [(205,Tryz.f205)] [] 1
noncomputable def q1S:=qp qgz 205 Tryz.f205 true q7z q7r
theorem qcy:zh Tryz.prog qa 205 (q9 q7z q7r q1S):=sk qgz qc q8 (alc q07 (alc vL aln)) aln (b1 Tryz.func205) Tryz.func205
def jS:FIn:=⟨[(.imm [.str])],[]⟩
def jN:List FOut:=[⟨(.int .i64),[],none⟩]
def q6p:Tmpl:={ t:=(qB 6 ((.imm [.str])::(.int .i64)::(.int .i64)::qB 9 [])),h:=[] }
def q6z:List Out:=[⟨(.exit 0),{ t:=(qB 18 []),h:=[] }⟩,⟨.ret,{ t:=(.any::.any::(.int .i64)::qB 15 []),h:=[] }⟩]
noncomputable def q39:=qe [(75,q9 q2a q1U ve)] [(208,Tryz.f208)] [] 0
noncomputable def q0r:=wX q39 208 Tryz.f208 3 q6p q6z
theorem qfJ:qk Tryz.prog qa q39.nimp (qu Tryz.prog q39.iter 208) (zd Tryz.f208 3) (qj q6p q6z (qg q0r)):=
 gk q39 qc q8 (alc q3d aln) aln (b1 Tryz.func208) Tryz.func208
noncomputable def qfl:=qe [(75,q9 q2a q1U ve)] [(208,Tryz.f208)] [((208,3),qj q6p q6z (qg q0r))] 0
noncomputable def qP:=qp qfl 208 Tryz.f208 true jS jN
theorem yd:zh Tryz.prog qa 208 (q9 jS jN qP):=sk qfl qc q8 (alc q3d aln) (alc (lk Tryz.func208 qfJ) aln) (b1 Tryz.func208) Tryz.func208
def q3l:FIn:=⟨[.str,.str],[]⟩
def q3r:List FOut:=[⟨.bool,[],none⟩]
noncomputable def q8y:=qe [(218,q9 zC zD qF)] [(253,Tryz.f253)] [] 0
noncomputable def ym:=qp q8y 253 Tryz.f253 true q3l q3r
theorem qd0:zh Tryz.prog qa 253 (q9 q3l q3r ym):=sk q8y qc q8 (alc yo aln) aln (b1 Tryz.func253) Tryz.func253
def qaq:FIn:=⟨[.str,.str],[]⟩
def q9X:List FOut:=[⟨.str,[],none⟩]
noncomputable def qf9:=qe [] [(254,Tryz.f254)] [] 0
noncomputable def q0M:=qp qf9 254 Tryz.f254 true qaq q9X
theorem qj4:zh Tryz.prog qa 254 (q9 qaq q9X q0M):=sk qf9 qc q8 aln aln (b1 Tryz.func254) Tryz.func254
def qab:FIn:=⟨[.str,.str],[]⟩
def qao:List FOut:=[⟨(.tuple [.str,.str,(.int .i64)]),[],none⟩]
noncomputable def qf4:=qe [(155,q9 um uk zA),(158,q9 u5 yW zl),(159,q9 q4Z q5e wJ),(160,q9 kO kM we),(161,q9 jY jX qH),(257,q9 q3N q3X jH),(274,q9 kD uT zJ)] [(273,Tryz.f273)] [] 0
noncomputable def q2y:=qp qf4 273 Tryz.f273 true qab qao
theorem qik:zh Tryz.prog qa 273 (q9 qab qao q2y):=sk qf4 qc q8 (alc jJ (alc yg (alc q45 (alc q1a (alc jz (alc q6L (alc q2j aln))))))) aln (b1 Tryz.func273) Tryz.func273
def qbO:FIn:=⟨[.str,.str],[]⟩
def qck:List FOut:=[⟨(.tuple [.str,(.int .i64)]),[],none⟩]
noncomputable def qld:=qe [(113,q9 yS yY qY),(273,q9 qab qao q2y)] [(255,Tryz.f255)] [] 0
noncomputable def q57:=qp qld 255 Tryz.f255 true qbO qck
theorem qfe:zh Tryz.prog qa 255 (q9 qbO qck q57):=sk qld qc q8 (alc yO (alc qik aln)) aln (b1 Tryz.func255) Tryz.func255
def vX:FIn:=⟨[(.ptr 0 0),(.fn 115 [] []),.str,.str],[.cells [(.int .i64)]]⟩
def ur:List FOut:=[⟨.str,[.cells [(.int .i64)]],none⟩]
noncomputable def q2X:=qe [(115,q9 q8s q8I q1x)] [(232,Tryz.f232)] [] 1
noncomputable def wl:=qp q2X 232 Tryz.f232 true vX ur
theorem q7q:zh Tryz.prog qa 232 (q9 vX ur wl):=sk q2X qc q8 (alc qak aln) aln (b1 Tryz.func232) Tryz.func232
def vR:FIn:=⟨[(.ptr 0 0),(.fn 255 [] []),.str,.str],[.cells [(.int .i64)]]⟩
def uu:List FOut:=[⟨.str,[.cells [(.int .i64)]],none⟩]
noncomputable def q2F:=qe [(255,q9 qbO qck q57)] [(232,Tryz.f232)] [] 1
noncomputable def qO:=qp q2F 232 Tryz.f232 true vR uu
theorem q77:zh Tryz.prog qa 232 (q9 vR uu qO):=sk q2F qc q8 (alc qfe aln) aln (b1 Tryz.func232) Tryz.func232
def vM:FIn:=⟨[(.ptr 0 0),.str,.str],[.cells [(.int .i64)]]⟩
def vH:List FOut:=[⟨.str,[.cells [(.int .i64)]],none⟩]
noncomputable def q8F:=qe [(115,q9 q8s q8I q1x),(206,q9 yL yN zg),(253,q9 q3l q3r ym),(254,q9 qaq q9X q0M),(255,q9 qbO qck q57),(232,qzS [(vX,q9 vX ur wl),(vR,q9 vR uu qO)])] [(231,Tryz.f231)] [] 1
noncomputable def qQ:=qp q8F 231 Tryz.f231 true vM vH
theorem yw:zh Tryz.prog qa 231 (q9 vM vH qQ):=sk q8F qc q8 (alc qak (alc q07 (alc qd0 (alc qj4 (alc qfe (alc (qwJ (q1B Tryz.func232 (by kernel_rfl) (by kernel_rfl)) (qsr q7q (qsr q77 qyy))) aln)))))) aln (b1 Tryz.func231) Tryz.func231
def uV:FIn:=⟨[.str,.str,(.fn 205 [] [])],[]⟩
def kv:List FOut:=[⟨(.tuple [.str,(.int .i64)]),[],none⟩]
noncomputable def q3x:=qe [(112,q9 q1d q1o qM),(205,q9 q7z q7r q1S),(208,q9 jS jN qP),(231,q9 vM vH qQ)] [(204,Tryz.f204)] [] 0
noncomputable def wM:=qp q3x 204 Tryz.f204 true uV kv
theorem q7X:zh Tryz.prog qa 204 (q9 uV kv wM):=sk q3x qc q8 (alc q0K (alc qcy (alc yd (alc yw aln)))) aln (b1 Tryz.func204) Tryz.func204
def qcg:FIn:=⟨[.str,.str],[]⟩
def qca:List FOut:=[⟨(.tuple [.str,(.int .i64)]),[],none⟩]
noncomputable def qkP:=qe [(205,q9 q7z q7r q1S),(204,q9 uV kv wM)] [(164,Tryz.f164)] [] 0
noncomputable def q56:=qp qkP 164 Tryz.f164 true qcg qca
theorem qeZ:zh Tryz.prog qa 164 (q9 qcg qca q56):=sk qkP qc q8 (alc qcy (alc q7X aln)) aln (b1 Tryz.func164) Tryz.func164
def ul:FIn:=⟨[(.ptr 0 0),(.fn 164 [] []),.str,.str],[.cells [(.int .i64)]]⟩
def uC:List FOut:=[⟨.str,[.cells [(.int .i64)]],none⟩]
noncomputable def q2V:=qe [(164,q9 qcg qca q56)] [(163,Tryz.f163)] [] 1
noncomputable def wj:=qp q2V 163 Tryz.f163 true ul uC
theorem q7l:zh Tryz.prog qa 163 (q9 ul uC wj):=sk q2V qc q8 (alc qeZ aln) aln (b1 Tryz.func163) Tryz.func163
def jm:FIn:=⟨[(.ptr 0 0),.str,.str],[.cells [(.int .i64)]]⟩
def jl:List FOut:=[⟨.str,[.cells [(.int .i64)]],none⟩]
noncomputable def qcS:=qe [(164,q9 qcg qca q56),(163,q9 ul uC wj)] [(117,Tryz.f117)] [] 1
noncomputable def qE:=qp qcS 117 Tryz.f117 true jm jl
theorem yk:zh Tryz.prog qa 117 (q9 jm jl qE):=sk qcS qc q8 (alc qeZ (alc q7l aln)) aln (b1 Tryz.func117) Tryz.func117
def kK:FIn:=⟨[(.ptr 0 0),(.agg [.str,.str]),(.agg [.str,.str])],[.cells [(.int .i64)]]⟩
def kC:List FOut:=[⟨(.agg [.str,.str]),[.cells [(.int .i64)]],none⟩]
noncomputable def qaL:=qe [(117,q9 jm jl qE)] [(118,Tryz.f118)] [] 1
noncomputable def zK:=qp qaL 118 Tryz.f118 true kK kC
theorem q2u:zh Tryz.prog qa 118 (q9 kK kC zK):=sk qaL qc q8 (alc yk aln) aln (b1 Tryz.func118) Tryz.func118
def uF:FIn:=⟨[(.ptr 0 0),(.fn 236 [] []),.str,.str],[.cells [(.int .i64)]]⟩
def ui:List FOut:=[⟨.str,[.cells [(.int .i64)]],none⟩]
noncomputable def q2S:=qe [(236,q9 q8g q8R q1n)] [(232,Tryz.f232)] [] 1
noncomputable def wh:=qp q2S 232 Tryz.f232 true uF ui
theorem q79:zh Tryz.prog qa 232 (q9 uF ui wh):=sk q2S qc q8 (alc qa0 aln) aln (b1 Tryz.func232) Tryz.func232
def q34:FIn:=⟨[(.ptr 0 0),.str,.str],[.cells [(.int .i64)]]⟩
def q3c:List FOut:=[⟨.str,[.cells [(.int .i64)]],none⟩]
noncomputable def qcI:=qe [(236,q9 q8g q8R q1n),(232,q9 uF ui wh)] [(215,Tryz.f215)] [] 1
noncomputable def jk:=qp qcI 215 Tryz.f215 true q34 q3c
theorem q8N:zh Tryz.prog qa 215 (q9 q34 q3c jk):=sk qcI qc q8 (alc qa0 (alc q79 aln)) aln (b1 Tryz.func215) Tryz.func215
def q74:FIn:=⟨[(.ptr 0 0),.str,.str,.str,.str],[.cells [(.int .i64)]]⟩
def q7J:List FOut:=[⟨(.tuple [.str,.str]),[.cells [(.int .i64)]],none⟩]
noncomputable def qh1:=qe [(207,q9 vw vA qf),(215,q9 q34 q3c jk)] [(214,Tryz.f214)] [] 1
noncomputable def q21:=qp qh1 214 Tryz.f214 true q74 q7J
theorem qcU:zh Tryz.prog qa 214 (q9 q74 q7J q21):=sk qh1 qc q8 (alc vL (alc q8N aln)) aln (b1 Tryz.func214) Tryz.func214
def km:FIn:=⟨[.str,.str,(.fn 214 [] [])],[]⟩
def kN:List FOut:=[⟨(.tuple [.str,(.int .i64)]),[],none⟩]
noncomputable def q3w:=qe [(112,q9 q1d q1o qM),(208,q9 jS jN qP),(214,q9 q74 q7J q21),(231,q9 vM vH qQ)] [(204,Tryz.f204)] [] 0
noncomputable def wO:=qp q3w 204 Tryz.f204 true km kN
theorem q8S:zh Tryz.prog qa 204 (q9 km kN wO):=sk q3w qc q8 (alc q0K (alc yd (alc qcU (alc yw aln)))) aln (b1 Tryz.func204) Tryz.func204
def qc1:FIn:=⟨[.str,.str],[]⟩
def qbT:List FOut:=[⟨(.tuple [.str,(.int .i64)]),[],none⟩]
noncomputable def qku:=qe [(214,q9 q74 q7J q21),(204,q9 km kN wO)] [(181,Tryz.f181)] [] 0
noncomputable def q5k:=qp qku 181 Tryz.f181 true qc1 qbT
theorem qfx:zh Tryz.prog qa 181 (q9 qc1 qbT q5k):=sk qku qc q8 (alc qcU (alc q8S aln)) aln (b1 Tryz.func181) Tryz.func181
def uq:FIn:=⟨[(.ptr 0 0),(.fn 181 [] []),.str,.str],[.cells [(.int .i64)]]⟩
def ux:List FOut:=[⟨.str,[.cells [(.int .i64)]],none⟩]
noncomputable def q2K:=qe [(181,q9 qc1 qbT q5k)] [(163,Tryz.f163)] [] 1
noncomputable def wk:=qp q2K 163 Tryz.f163 true uq ux
theorem q7n:zh Tryz.prog qa 163 (q9 uq ux wk):=sk q2K qc q8 (alc qfx aln) aln (b1 Tryz.func163) Tryz.func163
def yD:FIn:=⟨[(.ptr 0 0),.str,.str],[.cells [(.int .i64)]]⟩
def yM:List FOut:=[⟨.str,[.cells [(.int .i64)]],none⟩]
noncomputable def qcw:=qe [(181,q9 qc1 qbT q5k),(163,q9 uq ux wk)] [(141,Tryz.f141)] [] 1
noncomputable def qV:=qp qcw 141 Tryz.f141 true yD yM
theorem q03:zh Tryz.prog qa 141 (q9 yD yM qV):=sk qcw qc q8 (alc qfx (alc q7n aln)) aln (b1 Tryz.func141) Tryz.func141
def q7H:FIn:=⟨[(.ptr 0 0),.str,.str,.str,.str],[.cells [(.int .i64)]]⟩
def q6X:List FOut:=[⟨(.tuple [.str,.str]),[.cells [(.int .i64)]],none⟩]
noncomputable def qhX:=qe [(207,q9 vw vA qf)] [(216,Tryz.f216)] [] 1
noncomputable def q1X:=qp qhX 216 Tryz.f216 true q7H q6X
theorem qcD:zh Tryz.prog qa 216 (q9 q7H q6X q1X):=sk qhX qc q8 (alc vL aln) aln (b1 Tryz.func216) Tryz.func216
def ki:FIn:=⟨[.str,.str,(.fn 216 [] [])],[]⟩
def kq:List FOut:=[⟨(.tuple [.str,(.int .i64)]),[],none⟩]
noncomputable def q3K:=qe [(112,q9 q1d q1o qM),(208,q9 jS jN qP),(216,q9 q7H q6X q1X),(231,q9 vM vH qQ)] [(204,Tryz.f204)] [] 0
noncomputable def wE:=qp q3K 204 Tryz.f204 true ki kq
theorem q8r:zh Tryz.prog qa 204 (q9 ki kq wE):=sk q3K qc q8 (alc q0K (alc yd (alc qcD (alc yw aln)))) aln (b1 Tryz.func204) Tryz.func204
def qbS:FIn:=⟨[.str,.str],[]⟩
def qc0:List FOut:=[⟨(.tuple [.str,(.int .i64)]),[],none⟩]
noncomputable def qko:=qe [(216,q9 q7H q6X q1X),(204,q9 ki kq wE)] [(182,Tryz.f182)] [] 0
noncomputable def q5p:=qp qko 182 Tryz.f182 true qbS qc0
theorem qeU:zh Tryz.prog qa 182 (q9 qbS qc0 q5p):=sk qko qc q8 (alc qcD (alc q8r aln)) aln (b1 Tryz.func182) Tryz.func182
def uz:FIn:=⟨[(.ptr 0 0),(.fn 182 [] []),.str,.str],[.cells [(.int .i64)]]⟩
def un:List FOut:=[⟨.str,[.cells [(.int .i64)]],none⟩]
noncomputable def q2v:=qe [(182,q9 qbS qc0 q5p)] [(163,Tryz.f163)] [] 1
noncomputable def wi:=qp q2v 163 Tryz.f163 true uz un
theorem q6W:zh Tryz.prog qa 163 (q9 uz un wi):=sk q2v qc q8 (alc qeU aln) aln (b1 Tryz.func163) Tryz.func163
def yQ:FIn:=⟨[(.ptr 0 0),.str,.str],[.cells [(.int .i64)]]⟩
def yE:List FOut:=[⟨.str,[.cells [(.int .i64)]],none⟩]
noncomputable def qcz:=qe [(182,q9 qbS qc0 q5p),(163,q9 uz un wi)] [(142,Tryz.f142)] [] 1
noncomputable def qI:=qp qcz 142 Tryz.f142 true yQ yE
theorem q05:zh Tryz.prog qa 142 (q9 yQ yE qI):=sk qcz qc q8 (alc qeU (alc q6W aln)) aln (b1 Tryz.func142) Tryz.func142
def q0o:FIn:=⟨[(.ptr 0 0),(.agg [.str,.str]),(.agg [.str,.str])],[.cells [(.int .i64)]]⟩
def q0m:List FOut:=[⟨.str,[.cells [(.int .i64)]],none⟩]
noncomputable def qcF:=qe [(141,q9 yD yM qV),(142,q9 yQ yE qI)] [(119,Tryz.f119)] [] 1
noncomputable def zr:=qp qcF 119 Tryz.f119 true q0o q0m
theorem q3s:zh Tryz.prog qa 119 (q9 q0o q0m zr):=sk qcF qc q8 (alc q03 (alc q05 aln)) aln (b1 Tryz.func119) Tryz.func119
def q7f:FIn:=⟨[(.ptr 0 0),.str,.str,.str,.str],[.cells [(.int .i64)]]⟩
def q7y:List FOut:=[⟨(.tuple [.str,.str]),[.cells [(.int .i64)]],none⟩]
noncomputable def qgy:=qe [(207,q9 vw vA qf)] [(209,Tryz.f209)] [] 1
noncomputable def q2c:=qp qgy 209 Tryz.f209 true q7f q7y
theorem qcu:zh Tryz.prog qa 209 (q9 q7f q7y q2c):=sk qgy qc q8 (alc vL aln) aln (b1 Tryz.func209) Tryz.func209
def uX:FIn:=⟨[.str,.str,(.fn 209 [] [])],[]⟩
def kF:List FOut:=[⟨(.tuple [.str,(.int .i64)]),[],none⟩]
noncomputable def q3v:=qe [(112,q9 q1d q1o qM),(208,q9 jS jN qP),(209,q9 q7f q7y q2c),(231,q9 vM vH qQ)] [(204,Tryz.f204)] [] 0
noncomputable def wU:=qp q3v 204 Tryz.f204 true uX kF
theorem q8Q:zh Tryz.prog qa 204 (q9 uX kF wU):=sk q3v qc q8 (alc q0K (alc yd (alc qcu (alc yw aln)))) aln (b1 Tryz.func204) Tryz.func204
def qci:FIn:=⟨[.str,.str],[]⟩
def qbF:List FOut:=[⟨(.tuple [.str,(.int .i64)]),[],none⟩]
noncomputable def ql8:=qe [(208,q9 jS jN qP),(209,q9 q7f q7y q2c),(204,q9 uX kF wU)] [(165,Tryz.f165)] [] 0
noncomputable def q55:=qp ql8 165 Tryz.f165 true qci qbF
theorem qf2:zh Tryz.prog qa 165 (q9 qci qbF q55):=sk ql8 qc q8 (alc yd (alc qcu (alc q8Q aln))) aln (b1 Tryz.func165) Tryz.func165
def uG:FIn:=⟨[(.ptr 0 0),(.fn 165 [] []),.str,.str],[.cells [(.int .i64)]]⟩
def uy:List FOut:=[⟨.str,[.cells [(.int .i64)]],none⟩]
noncomputable def q2M:=qe [(165,q9 qci qbF q55)] [(163,Tryz.f163)] [] 1
noncomputable def zv:=qp q2M 163 Tryz.f163 true uG uy
theorem q76:zh Tryz.prog qa 163 (q9 uG uy zv):=sk q2M qc q8 (alc qf2 aln) aln (b1 Tryz.func163) Tryz.func163
def q15:FIn:=⟨[(.ptr 0 0),(.imm [.str,.str,.str]),(.agg [(.int .i64),(.int .i64),(.int .i64)])],[.cells [(.int .i64)]]⟩
def q13:List FOut:=[⟨(.tuple [(.agg [.str,.str,.str,.str,.str]),.bool]),[.cells [(.int .i64)]],none⟩]
noncomputable def q9f:=qe [(117,q9 jm jl qE),(118,q9 kK kC zK),(119,q9 q0o q0m zr),(141,q9 yD yM qV),(142,q9 yQ yE qI),(165,q9 qci qbF q55),(163,q9 uG uy zv)] [(120,Tryz.f120)] [] 1
noncomputable def v7:=qp q9f 120 Tryz.f120 true q15 q13
theorem q5Q:zh Tryz.prog qa 120 (q9 q15 q13 v7):=sk q9f qc q8 (alc yk (alc q2u (alc q3s (alc q03 (alc q05 (alc qf2 (alc q76 aln))))))) aln (b1 Tryz.func120) Tryz.func120
def qdN:FIn:=⟨[.str],[]⟩
def qdA:List FOut:=[⟨(.tuple [(.int .i64),(.int .i64)]),[],none⟩]
noncomputable def qjA:=qe [(113,q9 yS yY qY),(156,q9 q5P q5O jK)] [(252,Tryz.f252)] [] 0
noncomputable def q5R:=qp qjA 252 Tryz.f252 true qdN qdA
theorem qlC:zh Tryz.prog qa 252 (q9 qdN qdA q5R):=sk qjA qc q8 (alc yO (alc q8G aln)) aln (b1 Tryz.func252) Tryz.func252
def q1R:FIn:=⟨[(.ptr 0 0),.str],[.cells [(.int .i64)]]⟩
def q25:List FOut:=[⟨(.int .i64),[.cells [(.int .i64)]],none⟩]
noncomputable def qaB:=qe [(252,q9 qdN qdA q5R)] [(230,Tryz.f230)] [] 1
noncomputable def zj:=qp qaB 230 Tryz.f230 true q1R q25
theorem q6R:zh Tryz.prog qa 230 (q9 q1R q25 zj):=sk qaB qc q8 (alc qlC aln) aln (b1 Tryz.func230) Tryz.func230
def q5j:FIn:=⟨[(.ptr 0 0),.str,.str,.str],[.cells [(.int .i64)]]⟩
def q5s:List FOut:=[⟨(.int .i64),[.cells [(.int .i64)]],none⟩]
noncomputable def qbf:=qe [(206,q9 yL yN zg),(207,q9 vw vA qf),(230,q9 q1R q25 zj)] [(229,Tryz.f229)] [] 1
noncomputable def ya:=qp qbf 229 Tryz.f229 true q5j q5s
theorem qeQ:zh Tryz.prog qa 229 (q9 q5j q5s ya):=sk qbf qc q8 (alc q07 (alc vL (alc q6R aln))) aln (b1 Tryz.func229) Tryz.func229
def q5n:FIn:=⟨[.str,.str,.str,.str,.str],[]⟩
def q5d:List FOut:=[⟨(.tuple [(.int .i64),(.int .i64)]),[],none⟩]
noncomputable def qbl:=qe [(112,q9 q1d q1o qM),(206,q9 yL yN zg),(207,q9 vw vA qf),(208,q9 jS jN qP),(215,q9 q34 q3c jk),(229,q9 q5j q5s ya),(230,q9 q1R q25 zj)] [(203,Tryz.f203)] [] 0
noncomputable def kG:=qp qbl 203 Tryz.f203 true q5n q5d
theorem qeA:zh Tryz.prog qa 203 (q9 q5n q5d kG):=sk qbl qc q8 (alc q0K (alc q07 (alc vL (alc yd (alc q8N (alc qeQ (alc q6R aln))))))) aln (b1 Tryz.func203) Tryz.func203
def q6E:FIn:=⟨[.str,.str,.str],[]⟩
def q6d:List FOut:=[⟨(.tuple [(.int .i64),(.int .i64)]),[],none⟩]
noncomputable def qcv:=qe [(203,q9 q5n q5d kG)] [(162,Tryz.f162)] [] 0
noncomputable def q0l:=qp qcv 162 Tryz.f162 true q6E q6d
theorem qfT:zh Tryz.prog qa 162 (q9 q6E q6d q0l):=sk qcv qc q8 (alc qeA aln) aln (b1 Tryz.func162) Tryz.func162
def ky:FIn:=⟨[(.ptr 0 0),.str,.str,.str],[.cells [(.int .i64)]]⟩
def kj:List FOut:=[⟨(.int .i64),[.cells [(.int .i64)]],none⟩]
noncomputable def qb4:=qe [(162,q9 q6E q6d q0l)] [(116,Tryz.f116)] [] 1
noncomputable def zP:=qp qb4 116 Tryz.f116 true ky kj
theorem q2l:zh Tryz.prog qa 116 (q9 ky kj zP):=sk qb4 qc q8 (alc qfT aln) aln (b1 Tryz.func116) Tryz.func116
def q0V:FIn:=⟨[(.ptr 0 0),(.agg [.str,.str,.str]),(.agg [.str,.str,.str,.str,.str])],[.cells [(.int .i64)]]⟩
def q10:List FOut:=[⟨.bool,[.cells [(.int .i64)]],none⟩]
noncomputable def q9v:=qe [(116,q9 ky kj zP),(117,q9 jm jl qE),(118,q9 kK kC zK),(119,q9 q0o q0m zr),(141,q9 yD yM qV),(142,q9 yQ yE qI)] [(122,Tryz.f122)] [] 1
noncomputable def jb:=qp q9v 122 Tryz.f122 true q0V q10
theorem q63:zh Tryz.prog qa 122 (q9 q0V q10 jb):=sk q9v qc q8 (alc q2l (alc yk (alc q2u (alc q3s (alc q03 (alc q05 aln)))))) aln (b1 Tryz.func122) Tryz.func122
def wB:FIn:=⟨[(.ptr 0 0),(.imm [.str,.str,.str]),(.agg [(.int .i64),(.int .i64),(.int .i64)])],[.cells [(.int .i64)]]⟩
def wA:List FOut:=[⟨.bool,[.cells [(.int .i64)]],none⟩]
def uE:Tmpl:={ t:=((.imm [.str,.str,.str])::(.fn 124 [] [(.ptr 4 0)])::qB 5 ((.int .i64)::(.int .i64)::qB 10 [])),h:=[.cells [(.int .i64)],.cells [(.ptr 0 0)],.cells [(.int .i64),(.int .i64),(.int .i64)],.cells [.str,.str,.str,.str,.str],.cells [(.fn 121 [] [(.ptr 1 0),(.ptr 3 0)])]],fs:=[[(.imm [.str,.str,.str]),(.fn 124 [] [(.ptr 4 0)]),.any,.any,(.blit false),(.imm [.str,.str,.str]),(.fn 124 [] [(.ptr 4 0)]),.any,.any],[(.ptr 0 0),(.imm [.str,.str,.str]),(.agg [(.int .i64),(.int .i64),(.int .i64)]),(.ptr 1 0),.any,(.ptr 2 0),(.blit false),(.ptr 3 0),.bool,(.ptr 4 0),(.tuple [(.agg [.str,.str,.str,.str,.str]),.bool]),(.ptr 0 0),(.imm [.str,.str,.str]),(.agg [(.int .i64),(.int .i64),(.int .i64)]),(.tuple [(.agg [.str,.str,.str,.str,.str]),.bool]),(.agg [.str,.str,.str,.str,.str]),.bool,(.fn 121 [] [(.ptr 1 0),(.ptr 3 0)]),.bool,(.blit true),(.imm [.str,.str,.str]),(.fn 124 [] [(.ptr 4 0)]),.any,.any,.any,.any,.any,.any,.any,.any,.any,.any],[]] }
def uH:List Out:=[⟨(.exit 0),{ t:=(qB 19 []),h:=[.cells [(.int .i64)],.cells [(.ptr 0 0)],.cells [(.int .i64),(.int .i64),(.int .i64)],.cells [.str,.str,.str,.str,.str],.cells [(.fn 121 [] [(.ptr 1 0),(.ptr 3 0)])]],fs:=[[(.imm [.str,.str,.str]),(.fn 124 [] [(.ptr 4 0)]),.any,.any,(.blit false),(.imm [.str,.str,.str]),(.fn 124 [] [(.ptr 4 0)]),.any,.any],[(.ptr 0 0),(.imm [.str,.str,.str]),(.agg [(.int .i64),(.int .i64),(.int .i64)]),(.ptr 1 0),.any,(.ptr 2 0),(.blit false),(.ptr 3 0),.bool,(.ptr 4 0),(.tuple [(.agg [.str,.str,.str,.str,.str]),.bool]),(.ptr 0 0),(.imm [.str,.str,.str]),(.agg [(.int .i64),(.int .i64),(.int .i64)]),(.tuple [(.agg [.str,.str,.str,.str,.str]),.bool]),(.agg [.str,.str,.str,.str,.str]),.bool,(.fn 121 [] [(.ptr 1 0),(.ptr 3 0)]),.bool,(.blit true),(.imm [.str,.str,.str]),(.fn 124 [] [(.ptr 4 0)]),.any,.any,.any,.any,.any,.any,.any,.any,.any,.any],[]] }⟩,⟨.ret,{ t:=(qB 4 ((.int .i64)::qB 14 [])),h:=[.cells [(.int .i64)],.cells [(.ptr 0 0)],.cells [(.int .i64),(.int .i64),(.int .i64)],.cells [.str,.str,.str,.str,.str],.cells [(.fn 121 [] [(.ptr 1 0),(.ptr 3 0)])]],fs:=[[(.imm [.str,.str,.str]),(.fn 124 [] [(.ptr 4 0)]),.any,.any,(.blit false),(.imm [.str,.str,.str]),(.fn 124 [] [(.ptr 4 0)]),.any,.any],[(.ptr 0 0),(.imm [.str,.str,.str]),(.agg [(.int .i64),(.int .i64),(.int .i64)]),(.ptr 1 0),.any,(.ptr 2 0),(.blit false),(.ptr 3 0),.bool,(.ptr 4 0),(.tuple [(.agg [.str,.str,.str,.str,.str]),.bool]),(.ptr 0 0),(.imm [.str,.str,.str]),(.agg [(.int .i64),(.int .i64),(.int .i64)]),(.tuple [(.agg [.str,.str,.str,.str,.str]),.bool]),(.agg [.str,.str,.str,.str,.str]),.bool,(.fn 121 [] [(.ptr 1 0),(.ptr 3 0)]),.bool,(.blit true),(.imm [.str,.str,.str]),(.fn 124 [] [(.ptr 4 0)]),.any,.any,.any,.any,.any,.any,.any,.any,.any,.any],[]] }⟩]
noncomputable def vV:=qe [(120,q9 q15 q13 v7),(122,q9 q0V q10 jb)] [(78,Tryz.f78),(121,Tryz.f121),(123,Tryz.f123),(124,Tryz.f124),(166,Tryz.f166)] [] 1
noncomputable def w9:=wX vV 166 Tryz.f166 3 uE uH
theorem q7D:qk Tryz.prog qa vV.nimp (qu Tryz.prog vV.iter 166) (zd Tryz.f166 3) (qj uE uH (qg w9)):=
 gk vV qc q8 (alc q5Q (alc q63 aln)) aln (alc (bk Tryz.func78) (alc (bk Tryz.func121) (alc (bk Tryz.func123) (alc (bk Tryz.func124) (alc (bk Tryz.func166) aln))))) Tryz.func166
noncomputable def q8l:=qe [(120,q9 q15 q13 v7),(122,q9 q0V q10 jb)] [(78,Tryz.f78),(121,Tryz.f121),(123,Tryz.f123),(124,Tryz.f124),(166,Tryz.f166)] [((166,3),qj uE uH (qg w9))] 1
noncomputable def zb:=qp q8l 78 Tryz.f78 true wB wA
theorem vC:zh Tryz.prog qa 78 (q9 wB wA zb):=sk q8l qc q8 (alc q5Q (alc q63 aln)) (alc (lk Tryz.func166 q7D) aln) (alc (bk Tryz.func78) (alc (bk Tryz.func121) (alc (bk Tryz.func123) (alc (bk Tryz.func124) (alc (bk Tryz.func166) aln))))) Tryz.func78
def z6:FIn:=⟨[(.ptr 0 0),(.imm [.str,.str,.str])],[.cells [(.int .i64)]]⟩
def z8:List FOut:=[⟨(.tuple [(.agg [(.int .i64),(.int .i64),(.int .i64)]),.bool]),[.cells [(.int .i64)]],none⟩]
def ko:Tmpl:={ t:=(.yld::(.ptr 5 0)::qB 6 ((.int .i64)::(.int .i64)::qB 35 [])),h:=[.cells [(.int .i64)],.cells [(.ptr 0 0)],.cells [(.imm [.str,.str,.str])],.cells [(.int .i64),(.int .i64),(.int .i64)],.cells [.bool],.cells [(.int .i64)]],fs:=[[.any,.any,(.ptr 1 0),(.ptr 2 0),(.ptr 3 0),(.ptr 4 0),.any,.any,.any,(.fn 143 [] [(.ptr 5 0)]),.any,.any,.any,.any,.any,.any,.any],[]] }
def uU:List Out:=[⟨(.exit 0),{ t:=(.yld::(.ptr 5 0)::qB 43 []),h:=[.cells [(.int .i64)],.cells [(.ptr 0 0)],.cells [(.imm [.str,.str,.str])],.cells [(.int .i64),(.int .i64),(.int .i64)],.cells [.bool],.cells [(.int .i64)]],fs:=[[.any,.any,(.ptr 1 0),(.ptr 2 0),(.ptr 3 0),(.ptr 4 0),.any,.any,.any,(.fn 143 [] [(.ptr 5 0)]),.any,.any,.any,.any,.any,.any,.any],[]] }⟩,⟨.ret,{ t:=(qB 45 []),h:=[.cells [(.int .i64)],.cells [(.ptr 0 0)],.cells [(.imm [.str,.str,.str])],.cells [(.int .i64),(.int .i64),(.int .i64)],.cells [.bool],.cells [(.int .i64)]],fs:=[[.any,.any,(.ptr 1 0),(.ptr 2 0),(.ptr 3 0),(.ptr 4 0),.any,.any,.any,(.fn 143 [] [(.ptr 5 0)]),.any,.any,.any,.any,.any,.any,.any],[]],pend:=(.some .ret) }⟩]
noncomputable def ji:Env:={ tt:=qbp,glob:=qa,spec:=[(78,q9 wB wA zb)],body:=[(64,Tryz.f64),(100,Tryz.f100),(143,Tryz.f143)],loops:=[],nimp:=1,iter:=[(143,64,3)] }
noncomputable def wF:=qpI ji (some (64,Tryz.f64,3)) 143 Tryz.f143 2 ko uU
theorem q8D:qk Tryz.prog qa ji.nimp (qu Tryz.prog ji.iter 143) (zd Tryz.f143 2) (qj ko uU (qg wF)):=
 q65 (E:=ji) qc ⟨qcZ q8,(alc vC aln),aln,(alc (bk Tryz.func64) (alc (bk Tryz.func100) (alc (bk Tryz.func143) aln)))⟩ Tryz.func143 (by kernel_rfl) (y:=some (64,Tryz.f64,3)) ⟨Tryz.func64,by kernel_rfl⟩ (by kernel_rfl) (by kernel_rfl) (fun _=>rfl)
def uh:Tmpl:={ t:=(.yld::(.ptr 5 0)::.any::.any::(.int .i64)::(.int .i64)::qB 13 ((.int .i64)::(.int .i64)::qB 9 ((.vec 6)::(.int .i64)::(.int .i64)::qB 12 []))),h:=[.cells [(.int .i64)],.cells [(.ptr 0 0)],.cells [(.imm [.str,.str,.str])],.cells [(.int .i64),(.int .i64),(.int .i64)],.cells [.bool],.cells [(.int .i64)],.vec 3 [(.int .i64)]],fs:=[[.any,.any,(.ptr 1 0),(.ptr 2 0),(.ptr 3 0),(.ptr 4 0),.any,.any,.any,(.fn 143 [] [(.ptr 5 0)]),.any,.any,.any,.any,.any,.any,.any],[]] }
def uD:List Out:=[⟨(.exit 6),{ t:=(.yld::(.ptr 5 0)::.any::.any::(.int .i64)::(.int .i64)::qB 13 ((.int .i64)::(.int .i64)::qB 24 [])),h:=[.cells [(.int .i64)],.cells [(.ptr 0 0)],.cells [(.imm [.str,.str,.str])],.cells [(.int .i64),(.int .i64),(.int .i64)],.cells [.bool],.cells [(.int .i64)]],fs:=[[.any,.any,(.ptr 1 0),(.ptr 2 0),(.ptr 3 0),(.ptr 4 0),.any,.any,.any,(.fn 143 [] [(.ptr 5 0)]),.any,.any,.any,.any,.any,.any,.any],[]] }⟩,⟨.ret,{ t:=(qB 45 []),h:=[.cells [(.int .i64)],.cells [(.ptr 0 0)],.cells [(.imm [.str,.str,.str])],.cells [(.int .i64),(.int .i64),(.int .i64)],.cells [.bool],.cells [(.int .i64)]],fs:=[[.any,.any,(.ptr 1 0),(.ptr 2 0),(.ptr 3 0),(.ptr 4 0),.any,.any,.any,(.fn 143 [] [(.ptr 5 0)]),.any,.any,.any,.any,.any,.any,.any],[]],pend:=(.some .ret) }⟩]
noncomputable def vO:Env:={ tt:=qbp,glob:=qa,spec:=[(78,q9 wB wA zb)],body:=[(64,Tryz.f64),(100,Tryz.f100),(143,Tryz.f143)],loops:=[],nimp:=1,iter:=[(143,64,3)] }
noncomputable def wc:=qpI vO (some (64,Tryz.f64,3)) 143 Tryz.f143 20 uh uD
theorem q7s:qk Tryz.prog qa vO.nimp (qu Tryz.prog vO.iter 143) (zd Tryz.f143 20) (qj uh uD (qg wc)):=
 q65 (E:=vO) qc ⟨qcZ q8,(alc vC aln),aln,(alc (bk Tryz.func64) (alc (bk Tryz.func100) (alc (bk Tryz.func143) aln)))⟩ Tryz.func143 (by kernel_rfl) (y:=some (64,Tryz.f64,3)) ⟨Tryz.func64,by kernel_rfl⟩ (by kernel_rfl) (by kernel_rfl) (fun _=>rfl)
def uo:Tmpl:={ t:=(.yld::(.ptr 5 0)::.any::.any::(.int .i64)::(.int .i64)::qB 13 ((.int .i64)::(.int .i64)::qB 24 [])),h:=[.cells [(.int .i64)],.cells [(.ptr 0 0)],.cells [(.imm [.str,.str,.str])],.cells [(.int .i64),(.int .i64),(.int .i64)],.cells [.bool],.cells [(.int .i64)]],fs:=[[.any,.any,(.ptr 1 0),(.ptr 2 0),(.ptr 3 0),(.ptr 4 0),.any,.any,.any,(.fn 143 [] [(.ptr 5 0)]),.any,.any,.any,.any,.any,.any,.any],[]] }
def uJ:List Out:=[⟨(.exit 4),{ t:=(.yld::(.ptr 5 0)::qB 17 ((.int .i64)::(.int .i64)::qB 24 [])),h:=[.cells [(.int .i64)],.cells [(.ptr 0 0)],.cells [(.imm [.str,.str,.str])],.cells [(.int .i64),(.int .i64),(.int .i64)],.cells [.bool],.cells [(.int .i64)]],fs:=[[.any,.any,(.ptr 1 0),(.ptr 2 0),(.ptr 3 0),(.ptr 4 0),.any,.any,.any,(.fn 143 [] [(.ptr 5 0)]),.any,.any,.any,.any,.any,.any,.any],[]] }⟩,⟨.ret,{ t:=(qB 45 []),h:=[.cells [(.int .i64)],.cells [(.ptr 0 0)],.cells [(.imm [.str,.str,.str])],.cells [(.int .i64),(.int .i64),(.int .i64)],.cells [.bool],.cells [(.int .i64)]],fs:=[[.any,.any,(.ptr 1 0),(.ptr 2 0),(.ptr 3 0),(.ptr 4 0),.any,.any,.any,(.fn 143 [] [(.ptr 5 0)]),.any,.any,.any,.any,.any,.any,.any],[]],pend:=(.some .ret) }⟩]
noncomputable def vP:Env:={ tt:=qbp,glob:=qa,spec:=[(78,q9 wB wA zb)],body:=[(64,Tryz.f64),(100,Tryz.f100),(143,Tryz.f143)],loops:=[((143,20),qj uh uD (qg wc))],nimp:=1,iter:=[(143,64,3)] }
noncomputable def zZ:=qpI vP (some (64,Tryz.f64,3)) 143 Tryz.f143 15 uo uJ
theorem q7G:qk Tryz.prog qa vP.nimp (qu Tryz.prog vP.iter 143) (zd Tryz.f143 15) (qj uo uJ (qg zZ)):=
 q65 (E:=vP) qc ⟨qcZ q8,(alc vC aln),(alc (lk Tryz.func143 q7s) aln),(alc (bk Tryz.func64) (alc (bk Tryz.func100) (alc (bk Tryz.func143) aln)))⟩ Tryz.func143 (by kernel_rfl) (y:=some (64,Tryz.f64,3)) ⟨Tryz.func64,by kernel_rfl⟩ (by kernel_rfl) (by kernel_rfl) (fun _=>rfl)
def kI:Tmpl:={ t:=(.yld::(.ptr 5 0)::qB 17 ((.int .i64)::(.int .i64)::qB 24 [])),h:=[.cells [(.int .i64)],.cells [(.ptr 0 0)],.cells [(.imm [.str,.str,.str])],.cells [(.int .i64),(.int .i64),(.int .i64)],.cells [.bool],.cells [(.int .i64)]],fs:=[[.any,.any,(.ptr 1 0),(.ptr 2 0),(.ptr 3 0),(.ptr 4 0),.any,.any,.any,(.fn 143 [] [(.ptr 5 0)]),.any,.any,.any,.any,.any,.any,.any],[]] }
def kE:List Out:=[⟨(.exit 2),{ t:=(qB 45 []),h:=[.cells [(.int .i64)],.cells [(.ptr 0 0)],.cells [(.imm [.str,.str,.str])],.cells [(.int .i64),(.int .i64),(.int .i64)],.cells [.bool],.cells [(.int .i64)]],fs:=[[.any,.any,(.ptr 1 0),(.ptr 2 0),(.ptr 3 0),(.ptr 4 0),.any,.any,.any,(.fn 143 [] [(.ptr 5 0)]),.any,.any,.any,.any,.any,.any,.any],[]] }⟩,⟨.ret,{ t:=(qB 45 []),h:=[.cells [(.int .i64)],.cells [(.ptr 0 0)],.cells [(.imm [.str,.str,.str])],.cells [(.int .i64),(.int .i64),(.int .i64)],.cells [.bool],.cells [(.int .i64)]],fs:=[[.any,.any,(.ptr 1 0),(.ptr 2 0),(.ptr 3 0),(.ptr 4 0),.any,.any,.any,(.fn 143 [] [(.ptr 5 0)]),.any,.any,.any,.any,.any,.any,.any],[]],pend:=(.some .ret) }⟩]
noncomputable def jg:Env:={ tt:=qbp,glob:=qa,spec:=[(78,q9 wB wA zb)],body:=[(64,Tryz.f64),(100,Tryz.f100),(143,Tryz.f143)],loops:=[((143,15),qj uo uJ (qg zZ))],nimp:=1,iter:=[(143,64,3)] }
noncomputable def wH:=qpI jg (some (64,Tryz.f64,3)) 143 Tryz.f143 9 kI kE
theorem q8Y:qk Tryz.prog qa jg.nimp (qu Tryz.prog jg.iter 143) (zd Tryz.f143 9) (qj kI kE (qg wH)):=
 q65 (E:=jg) qc ⟨qcZ q8,(alc vC aln),(alc (lk Tryz.func143 q7G) aln),(alc (bk Tryz.func64) (alc (bk Tryz.func100) (alc (bk Tryz.func143) aln)))⟩ Tryz.func143 (by kernel_rfl) (y:=some (64,Tryz.f64,3)) ⟨Tryz.func64,by kernel_rfl⟩ (by kernel_rfl) (by kernel_rfl) (fun _=>rfl)
noncomputable def q9C:Env:={ tt:=qbp,glob:=qa,spec:=[(78,q9 wB wA zb)],body:=[(64,Tryz.f64),(100,Tryz.f100),(143,Tryz.f143)],loops:=[((143,2),qj ko uU (qg wF)),((143,9),qj kI kE (qg wH))],nimp:=1,iter:=[(143,64,3)] }
noncomputable def qD:=qp q9C 64 Tryz.f64 true z6 z8
theorem qW:zh Tryz.prog qa 64 (q9 z6 z8 qD):=sk q9C qc q8 (alc vC aln) (alc (lk Tryz.func143 q8D) (alc (lk Tryz.func143 q8Y) aln)) (alc (bk Tryz.func64) (alc (bk Tryz.func100) (alc (bk Tryz.func143) aln))) Tryz.func64
def yZ:FIn:=⟨[(.imm [.str,.str,.str])],[]⟩
def yT:List FOut:=[⟨(.tuple [(.imm [(.int .i64)]),(.int .i64)]),[],none⟩]
def jq:Tmpl:={ t:=(.any::(.ptr 0 0)::(.ptr 2 0)::.any::.any::(.vec 4)::qB 4 ((.vec 3)::(.int .i64)::(.int .i64)::qB 26 [])),h:=[.cells [(.imm [.str,.str,.str])],.cells [(.int .i64)],.cells [(.ptr 1 0)],.vec 3 [(.int .i64)],.vec 40 [.str,.str,.str]],pro:=[(5,40,[.str,.str,.str])],fs:=[[.any,(.ptr 0 0),.any,.any,.any,(.ptr 2 0),(.fn 63 [] [(.ptr 0 0),(.ptr 2 0)]),(.int .i64),(.int .i64),.any,.any,.any,.any,.any,.any,.any,.any,.any,.any,.any,.any,(.int .i64),(.int .i64),.any,.any,.any,.any,(.int .i64),(.imm [.str,.str,.str]),(.int .i64),(.blit true),.any,.any,(.fn 63 [] [(.ptr 0 0),(.ptr 2 0)]),(.int .i64),(.int .i64),(.vec 3),.any,.any,.any,.any,.any,.any,.any,.any,.any,.any,.any,.any,.any,.any,.any,.any,.any,.any,.any,.any,.any,.any,.any,.any,.any,.any,.any,.any,.any,.any,.any,.any,.any,.any,.any,.any,.any,.any,.any,.any,.any],[]] }
def jn:List Out:=[⟨(.exit 0),{ t:=(.any::.any::(.ptr 2 0)::.any::.any::(.vec 4)::qB 33 []),h:=[.cells [(.imm [.str,.str,.str])],.cells [(.int .i64)],.cells [(.ptr 1 0)],.vec 3 [(.int .i64)],.vec 40 [.str,.str,.str]],fs:=[[.any,(.ptr 0 0),.any,.any,.any,(.ptr 2 0),(.fn 63 [] [(.ptr 0 0),(.ptr 2 0)]),(.int .i64),(.int .i64),.any,.any,.any,.any,.any,.any,.any,.any,.any,.any,.any,.any,(.int .i64),(.int .i64),.any,.any,.any,.any,(.int .i64),(.imm [.str,.str,.str]),(.int .i64),(.blit true),.any,.any,(.fn 63 [] [(.ptr 0 0),(.ptr 2 0)]),(.int .i64),(.int .i64),(.vec 3),.any,.any,.any,.any,.any,.any,.any,.any,.any,.any,.any,.any,.any,.any,.any,.any,.any,.any,.any,.any,.any,.any,.any,.any,.any,.any,.any,.any,.any,.any,.any,.any,.any,.any,.any,.any,.any,.any,.any,.any,.any],[]] }⟩]
noncomputable def wz:=qe [(62,q9 zV zT z7),(64,q9 z6 z8 qD)] [(17,Tryz.f17),(63,Tryz.f63)] [] 0
noncomputable def qU:=wX wz 63 Tryz.f63 4 jq jn
theorem q4O:qk Tryz.prog qa wz.nimp (qu Tryz.prog wz.iter 63) (zd Tryz.f63 4) (qj jq jn (qg qU)):=
 gk wz qc q8 (alc zq (alc qW aln)) aln (alc (bk Tryz.func17) (alc (bk Tryz.func63) aln)) Tryz.func63
def ka:Tmpl:={ t:=(.any::(.ptr 0 0)::.any::.any::.any::(.ptr 2 0)::(.fn 63 [] [(.ptr 0 0),(.ptr 2 0)])::(.int .i64)::(.int .i64)::qB 12 ((.int .i64)::(.int .i64)::qB 55 [])),h:=[.cells [(.imm [.str,.str,.str])],.cells [(.int .i64)],.cells [(.ptr 1 0)]] }
def kl:List Out:=[⟨(.exit 2),{ t:=(.any::(.ptr 0 0)::.any::.any::.any::(.ptr 2 0)::(.fn 63 [] [(.ptr 0 0),(.ptr 2 0)])::qB 14 ((.int .i64)::(.int .i64)::qB 55 [])),h:=[.cells [(.imm [.str,.str,.str])],.cells [(.int .i64)],.cells [(.ptr 1 0)]] }⟩,⟨.ret,{ t:=(.any::.any::(.vec 6)::(.int .i64)::qB 74 []),h:=[.dead,.dead,.dead,.dead,.dead,.dead,.vec 3 [(.int .i64)]] }⟩]
noncomputable def jd:=qe [(62,q9 zV zT z7),(64,q9 z6 z8 qD)] [(17,Tryz.f17),(63,Tryz.f63)] [((63,4),qj jq jn (qg qU))] 0
noncomputable def wS:=wX jd 17 Tryz.f17 15 ka kl
theorem q8h:qk Tryz.prog qa jd.nimp (qu Tryz.prog jd.iter 17) (zd Tryz.f17 15) (qj ka kl (qg wS)):=
 gk jd qc q8 (alc zq (alc qW aln)) (alc (lk Tryz.func63 q4O) aln) (alc (bk Tryz.func17) (alc (bk Tryz.func63) aln)) Tryz.func17
def kW:Tmpl:={ t:=(.any::(.ptr 0 0)::.any::.any::.any::(.ptr 2 0)::(.fn 63 [] [(.ptr 0 0),(.ptr 2 0)])::qB 14 ((.int .i64)::(.int .i64)::qB 55 [])),h:=[.cells [(.imm [.str,.str,.str])],.cells [(.int .i64)],.cells [(.ptr 1 0)]] }
def kX:List Out:=[⟨(.exit 0),{ t:=(.any::(.ptr 0 0)::.any::.any::.any::(.ptr 2 0)::(.fn 63 [] [(.ptr 0 0),(.ptr 2 0)])::qB 71 []),h:=[.cells [(.imm [.str,.str,.str])],.cells [(.int .i64)],.cells [(.ptr 1 0)]] }⟩,⟨.ret,{ t:=(.any::.any::(.vec 6)::(.int .i64)::qB 74 []),h:=[.dead,.dead,.dead,.dead,.dead,.dead,.vec 3 [(.int .i64)]] }⟩]
noncomputable def jD:=qe [(62,q9 zV zT z7),(64,q9 z6 z8 qD)] [(17,Tryz.f17),(63,Tryz.f63)] [((17,15),qj ka kl (qg wS))] 0
noncomputable def va:=wX jD 17 Tryz.f17 9 kW kX
theorem q9b:qk Tryz.prog qa jD.nimp (qu Tryz.prog jD.iter 17) (zd Tryz.f17 9) (qj kW kX (qg va)):=
 gk jD qc q8 (alc zq (alc qW aln)) (alc (lk Tryz.func17 q8h) aln) (alc (bk Tryz.func17) (alc (bk Tryz.func63) aln)) Tryz.func17
def jr:Tmpl:={ t:=(.any::(.ptr 0 0)::(.ptr 2 0)::.any::.any::(.vec 4)::qB 4 ((.vec 3)::(.int .i64)::(.int .i64)::qB 26 [])),h:=[.cells [(.imm [.str,.str,.str])],.cells [(.int .i64)],.cells [(.ptr 1 0)],.vec 3 [(.int .i64)],.vec 40 [.str,.str,.str]],pro:=[(5,40,[.str,.str,.str])],fs:=[[.any,(.ptr 0 0),.any,.any,.any,(.ptr 2 0),(.fn 63 [] [(.ptr 0 0),(.ptr 2 0)]),.any,.any,(.int .i64),(.int .i64),(.int .i64),.any,.any,.any,.any,.any,.any,.any,.any,.any,.any,.any,.any,.any,.any,.any,.any,.any,.any,.any,.any,.any,.any,.any,.any,.any,.any,.any,.any,.any,.any,.any,(.int .i64),(.int .i64),.any,.any,.any,.any,.any,.any,.any,.any,.any,.any,.any,.any,(.int .i64),(.imm [.str,.str,.str]),(.int .i64),(.blit true),.any,.any,(.fn 63 [] [(.ptr 0 0),(.ptr 2 0)]),(.int .i64),(.int .i64),(.int .i64),(.vec 3),.any,.any,.any,.any,.any,.any,.any,.any,.any,.any],[]] }
def jo:List Out:=[⟨(.exit 0),{ t:=(.any::.any::(.ptr 2 0)::.any::.any::(.vec 4)::qB 33 []),h:=[.cells [(.imm [.str,.str,.str])],.cells [(.int .i64)],.cells [(.ptr 1 0)],.vec 3 [(.int .i64)],.vec 40 [.str,.str,.str]],fs:=[[.any,(.ptr 0 0),.any,.any,.any,(.ptr 2 0),(.fn 63 [] [(.ptr 0 0),(.ptr 2 0)]),.any,.any,(.int .i64),(.int .i64),(.int .i64),.any,.any,.any,.any,.any,.any,.any,.any,.any,.any,.any,.any,.any,.any,.any,.any,.any,.any,.any,.any,.any,.any,.any,.any,.any,.any,.any,.any,.any,.any,.any,(.int .i64),(.int .i64),.any,.any,.any,.any,.any,.any,.any,.any,.any,.any,.any,.any,(.int .i64),(.imm [.str,.str,.str]),(.int .i64),(.blit true),.any,.any,(.fn 63 [] [(.ptr 0 0),(.ptr 2 0)]),(.int .i64),(.int .i64),(.int .i64),(.vec 3),.any,.any,.any,.any,.any,.any,.any,.any,.any,.any],[]] }⟩]
noncomputable def wx:=qe [(62,q9 zV zT z7),(64,q9 z6 z8 qD)] [(17,Tryz.f17),(63,Tryz.f63)] [] 0
noncomputable def qT:=wX wx 63 Tryz.f63 4 jr jo
theorem q4N:qk Tryz.prog qa wx.nimp (qu Tryz.prog wx.iter 63) (zd Tryz.f63 4) (qj jr jo (qg qT)):=
 gk wx qc q8 (alc zq (alc qW aln)) aln (alc (bk Tryz.func17) (alc (bk Tryz.func63) aln)) Tryz.func63
def kw:Tmpl:={ t:=(.any::(.ptr 0 0)::.any::.any::.any::(.ptr 2 0)::(.fn 63 [] [(.ptr 0 0),(.ptr 2 0)])::.any::.any::(.int .i64)::(.int .i64)::(.int .i64)::qB 31 ((.int .i64)::(.int .i64)::qB 33 [])),h:=[.cells [(.imm [.str,.str,.str])],.cells [(.int .i64)],.cells [(.ptr 1 0)]] }
def kh:List Out:=[⟨(.exit 8),{ t:=(.any::(.ptr 0 0)::.any::.any::.any::(.ptr 2 0)::(.fn 63 [] [(.ptr 0 0),(.ptr 2 0)])::.any::.any::(.int .i64)::(.int .i64)::qB 32 ((.int .i64)::(.int .i64)::qB 33 [])),h:=[.cells [(.imm [.str,.str,.str])],.cells [(.int .i64)],.cells [(.ptr 1 0)]] }⟩,⟨.ret,{ t:=(.any::.any::(.vec 6)::(.int .i64)::qB 74 []),h:=[.dead,.dead,.dead,.dead,.dead,.dead,.vec 3 [(.int .i64)]] }⟩]
noncomputable def jh:=qe [(62,q9 zV zT z7),(64,q9 z6 z8 qD)] [(17,Tryz.f17),(63,Tryz.f63)] [((63,4),qj jr jo (qg qT))] 0
noncomputable def wK:=wX jh 17 Tryz.f17 34 kw kh
theorem q7R:qk Tryz.prog qa jh.nimp (qu Tryz.prog jh.iter 17) (zd Tryz.f17 34) (qj kw kh (qg wK)):=
 gk jh qc q8 (alc zq (alc qW aln)) (alc (lk Tryz.func63 q4N) aln) (alc (bk Tryz.func17) (alc (bk Tryz.func63) aln)) Tryz.func17
def ke:Tmpl:={ t:=(.any::(.ptr 0 0)::.any::.any::.any::(.ptr 2 0)::(.fn 63 [] [(.ptr 0 0),(.ptr 2 0)])::.any::.any::(.int .i64)::(.int .i64)::qB 32 ((.int .i64)::(.int .i64)::qB 33 [])),h:=[.cells [(.imm [.str,.str,.str])],.cells [(.int .i64)],.cells [(.ptr 1 0)]] }
def kQ:List Out:=[⟨(.exit 6),{ t:=(.any::(.ptr 0 0)::.any::.any::.any::(.ptr 2 0)::(.fn 63 [] [(.ptr 0 0),(.ptr 2 0)])::qB 36 ((.int .i64)::(.int .i64)::qB 33 [])),h:=[.cells [(.imm [.str,.str,.str])],.cells [(.int .i64)],.cells [(.ptr 1 0)]] }⟩,⟨.ret,{ t:=(.any::.any::(.vec 6)::(.int .i64)::qB 74 []),h:=[.dead,.dead,.dead,.dead,.dead,.dead,.vec 3 [(.int .i64)]] }⟩]
noncomputable def jf:=qe [(62,q9 zV zT z7),(64,q9 z6 z8 qD)] [(17,Tryz.f17),(63,Tryz.f63)] [((17,34),qj kw kh (qg wK))] 0
noncomputable def wR:=wX jf 17 Tryz.f17 29 ke kQ
theorem q8m:qk Tryz.prog qa jf.nimp (qu Tryz.prog jf.iter 17) (zd Tryz.f17 29) (qj ke kQ (qg wR)):=
 gk jf qc q8 (alc zq (alc qW aln)) (alc (lk Tryz.func17 q7R) aln) (alc (bk Tryz.func17) (alc (bk Tryz.func63) aln)) Tryz.func17
def kx:Tmpl:={ t:=(.any::(.ptr 0 0)::.any::.any::.any::(.ptr 2 0)::(.fn 63 [] [(.ptr 0 0),(.ptr 2 0)])::qB 36 ((.int .i64)::(.int .i64)::qB 33 [])),h:=[.cells [(.imm [.str,.str,.str])],.cells [(.int .i64)],.cells [(.ptr 1 0)]] }
def uW:List Out:=[⟨(.exit 4),{ t:=(qB 5 ((.ptr 2 0)::qB 72 [])),h:=[.dead,.cells [(.int .i64)],.cells [(.ptr 1 0)]] }⟩,⟨.ret,{ t:=(.any::.any::(.vec 6)::(.int .i64)::qB 74 []),h:=[.dead,.dead,.dead,.dead,.dead,.dead,.vec 3 [(.int .i64)]] }⟩]
noncomputable def j9:=qe [(62,q9 zV zT z7),(64,q9 z6 z8 qD)] [(17,Tryz.f17),(63,Tryz.f63)] [((17,29),qj ke kQ (qg wR))] 0
noncomputable def wT:=wX j9 17 Tryz.f17 23 kx uW
theorem q7U:qk Tryz.prog qa j9.nimp (qu Tryz.prog j9.iter 17) (zd Tryz.f17 23) (qj kx uW (qg wT)):=
 gk j9 qc q8 (alc zq (alc qW aln)) (alc (lk Tryz.func17 q8m) aln) (alc (bk Tryz.func17) (alc (bk Tryz.func63) aln)) Tryz.func17
noncomputable def q5V:=qe [(62,q9 zV zT z7),(64,q9 z6 z8 qD)] [(17,Tryz.f17),(63,Tryz.f63)] [((17,9),qj kW kX (qg va)),((17,23),qj kx uW (qg wT))] 0
noncomputable def qZ:=qp q5V 17 Tryz.f17 true yZ yT
theorem q3D:zh Tryz.prog qa 17 (q9 yZ yT qZ):=sk q5V qc q8 (alc zq (alc qW aln)) (alc (lk Tryz.func17 q9b) (alc (lk Tryz.func17 q7U) aln)) (alc (bk Tryz.func17) (alc (bk Tryz.func63) aln)) Tryz.func17
def qap:FIn:=⟨[(.imm [.str,.str,.str])],[]⟩
def q9N:List FOut:=[⟨(.tuple [.bool,(.agg [(.int .i64),(.int .i64),(.int .i64)]),(.int .i64)]),[],none⟩]
noncomputable def qeV:=qe [(62,q9 zV zT z7),(64,q9 z6 z8 qD)] [(23,Tryz.f23)] [] 0
noncomputable def q0O:=qp qeV 23 Tryz.f23 true qap q9N
theorem qib:zh Tryz.prog qa 23 (q9 qap q9N q0O):=sk qeV qc q8 (alc zq (alc qW aln)) aln (b1 Tryz.func23) Tryz.func23
def qe8:FIn:=⟨[.str,.str,.str],[]⟩
def qdI:List FOut:=[⟨(.agg [.str,.str,.str]),[],none⟩]
noncomputable def qjw:=qe [] [(25,Tryz.f25)] [] 0
noncomputable def wG:=qp qjw 25 Tryz.f25 true qe8 qdI
theorem qlh:zh Tryz.prog qa 25 (q9 qe8 qdI wG):=sk qjw qc q8 aln aln (b1 Tryz.func25) Tryz.func25
def q0T:FIn:=⟨[(.imm [(.int .i64)]),(.imm [(.int .i64)])],[]⟩
def q0U:List FOut:=[⟨.bool,[],none⟩]
def uS:Tmpl:={ t:=((.imm [(.int .i64)])::(.imm [(.int .i64)])::qB 10 ((.int .i64)::(.int .i64)::qB 12 [])),h:=[] }
def kz:List Out:=[⟨(.exit 0),{ t:=(qB 26 []),h:=[] }⟩,⟨.ret,{ t:=(qB 4 (.bool::qB 21 [])),h:=[] }⟩]
noncomputable def jc:=qe [] [(50,Tryz.f50)] [] 0
noncomputable def wI:=wX jc 50 Tryz.f50 6 uS kz
theorem q8T:qk Tryz.prog qa jc.nimp (qu Tryz.prog jc.iter 50) (zd Tryz.f50 6) (qj uS kz (qg wI)):=
 gk jc qc q8 aln aln (b1 Tryz.func50) Tryz.func50
noncomputable def q4U:=qe [] [(50,Tryz.f50)] [((50,6),qj uS kz (qg wI))] 0
noncomputable def zY:=qp q4U 50 Tryz.f50 true q0T q0U
theorem qal:zh Tryz.prog qa 50 (q9 q0T q0U zY):=sk q4U qc q8 aln (alc (lk Tryz.func50 q8T) aln) (b1 Tryz.func50) Tryz.func50
def q3T:FIn:=⟨[(.ptr 0 0),.str,.str],[.cells [(.int .i64)]]⟩
def q4E:List FOut:=[⟨(.int .i64),[.cells [(.int .i64)]],none⟩]
noncomputable def q9e:=qe [(116,q9 ky kj zP),(117,q9 jm jl qE)] [(76,Tryz.f76)] [] 1
noncomputable def u6:=qp q9e 76 Tryz.f76 true q3T q4E
theorem qdl:zh Tryz.prog qa 76 (q9 q3T q4E u6):=sk q9e qc q8 (alc q2l (alc yk aln)) aln (b1 Tryz.func76) Tryz.func76
def q6C:FIn:=⟨[(.ptr 0 0),(.agg [.str,.str]),(.agg [.str,.str])],[.cells [(.int .i64)]]⟩
def q6m:List FOut:=[⟨.str,[.cells [(.int .i64)]],none⟩]
noncomputable def qcY:=qe [(118,q9 kK kC zK),(119,q9 q0o q0m zr)] [(77,Tryz.f77)] [] 1
noncomputable def q0u:=qp qcY 77 Tryz.f77 true q6C q6m
theorem qgc:zh Tryz.prog qa 77 (q9 q6C q6m q0u):=sk qcY qc q8 (alc q2u (alc q3s aln)) aln (b1 Tryz.func77) Tryz.func77
def kf:FIn:=⟨[(.ptr 0 0),(.agg [.str,.str,.str]),(.agg [.str,.str,.str]),.str],[.cells [(.int .i64)]]⟩
def uY:List FOut:=[⟨(.int .i64),[.cells [(.int .i64)]],none⟩]
noncomputable def qaD:=qe [(77,q9 q6C q6m q0u),(116,q9 ky kj zP),(117,q9 jm jl qE),(141,q9 yD yM qV),(142,q9 yQ yE qI)] [(99,Tryz.f99)] [] 1
noncomputable def wV:=qp qaD 99 Tryz.f99 true kf uY
theorem q2i:zh Tryz.prog qa 99 (q9 kf uY wV):=sk qaD qc q8 (alc qgc (alc q2l (alc yk (alc q03 (alc q05 aln))))) aln (b1 Tryz.func99) Tryz.func99
def wC:FIn:=⟨[(.ptr 0 0),(.agg [.str,.str,.str]),(.agg [.str,.str,.str])],[.cells [(.int .i64)]]⟩
def wD:List FOut:=[⟨.bool,[.cells [(.int .i64)]],none⟩]
noncomputable def q8H:=qe [(76,q9 q3T q4E u6),(99,q9 kf uY wV)] [(67,Tryz.f67)] [] 1
noncomputable def qL:=qp q8H 67 Tryz.f67 true wC wD
theorem vE:zh Tryz.prog qa 67 (q9 wC wD qL):=sk q8H qc q8 (alc qdl (alc q2i aln)) aln (b1 Tryz.func67) Tryz.func67
def q9P:FIn:=⟨[(.agg [.str,.str,.str]),(.agg [.str,.str,.str])],[]⟩
def qam:List FOut:=[⟨(.tuple [(.int .i64),(.int .i64)]),[],none⟩]
def q6u:Tmpl:={ t:=(.any::.any::(.ptr 0 0)::(.ptr 1 0)::qB 9 ((.vec 2)::(.int .i64)::(.int .i64)::qB 36 [])),h:=[.cells [.str,.str,.str],.cells [.str,.str,.str],.vec 40 [.str,.str,.str]] }
def q6c:List Out:=[⟨(.exit 0),{ t:=(.any::.any::(.ptr 0 0)::(.ptr 1 0)::qB 48 []),h:=[.cells [.str,.str,.str],.cells [.str,.str,.str]] }⟩,⟨.ret,{ t:=(qB 4 ((.int .i64)::(.int .i64)::qB 46 [])),h:=[] }⟩]
noncomputable def q3a:=qe [(67,q9 wC wD qL),(74,q9 q2b q1G jB),(99,q9 kf uY wV)] [(61,Tryz.f61)] [] 0
noncomputable def q0v:=wX q3a 61 Tryz.f61 3 q6u q6c
theorem qgw:qk Tryz.prog qa q3a.nimp (qu Tryz.prog q3a.iter 61) (zd Tryz.f61 3) (qj q6u q6c (qg q0v)):=
 gk q3a qc q8 (alc vE (alc q3h (alc q2i aln))) aln (b1 Tryz.func61) Tryz.func61
noncomputable def qfi:=qe [(67,q9 wC wD qL),(74,q9 q2b q1G jB),(99,q9 kf uY wV)] [(61,Tryz.f61)] [((61,3),qj q6u q6c (qg q0v))] 0
noncomputable def q2T:=qp qfi 61 Tryz.f61 true q9P qam
theorem qj1:zh Tryz.prog qa 61 (q9 q9P qam q2T):=sk qfi qc q8 (alc vE (alc q3h (alc q2i aln))) (alc (lk Tryz.func61 qgw) aln) (b1 Tryz.func61) Tryz.func61
def qc8:FIn:=⟨[],[]⟩
def qbE:List FOut:=[⟨.bool,[],none⟩]
noncomputable def qgB:=qe [(17,q9 yZ yT qZ),(23,q9 qap q9N q0O),(25,q9 qe8 qdI wG),(50,q9 q0T q0U zY),(61,q9 q9P qam q2T)] [(16,Tryz.f16)] [] 0
noncomputable def q1K:=qp qgB 16 Tryz.f16 true qc8 qbE
theorem qjF:zh Tryz.prog qa 16 (q9 qc8 qbE q1K):=sk qgB qc q8 (alc q3D (alc qib (alc qlh (alc qal (alc qj1 aln))))) aln (b1 Tryz.func16) Tryz.func16
def q6Y:FIn:=⟨[.str],[]⟩
def q7g:List FOut:=[⟨(.int .i64),[],none⟩]
def q8J:Tmpl:={ t:=(.str::.any::.any::(.int .i64)::qB 11 []),h:=[] }
def q80:List Out:=[⟨(.exit 0),{ t:=(qB 15 []),h:=[] }⟩,⟨.ret,{ t:=(.any::.any::(.int .i64)::qB 12 []),h:=[] }⟩]
noncomputable def q4J:=qe [] [(93,Tryz.f93)] [] 0
noncomputable def q1p:=wX q4J 93 Tryz.f93 3 q8J q80
theorem qhc:qk Tryz.prog qa q4J.nimp (qu Tryz.prog q4J.iter 93) (zd Tryz.f93 3) (qj q8J q80 (qg q1p)):=
 gk q4J qc q8 aln aln (b1 Tryz.func93) Tryz.func93
noncomputable def qhD:=qe [] [(93,Tryz.f93)] [((93,3),qj q8J q80 (qg q1p))] 0
noncomputable def q0h:=qp qhD 93 Tryz.f93 true q6Y q7g
theorem qcO:zh Tryz.prog qa 93 (q9 q6Y q7g q0h):=sk qhD qc q8 aln (alc (lk Tryz.func93 qhc) aln) (b1 Tryz.func93) Tryz.func93
def q4B:FIn:=⟨[.str],[]⟩
def q4G:List FOut:=[⟨(.tuple [.str,.str]),[],none⟩]
noncomputable def qgC:=qe [(93,q9 q6Y q7g q0h)] [(86,Tryz.f86)] [] 0
noncomputable def vn:=qp qgC 86 Tryz.f86 true q4B q4G
theorem q6D:zh Tryz.prog qa 86 (q9 q4B q4G vn):=sk qgC qc q8 (alc qcO aln) aln (b1 Tryz.func86) Tryz.func86
def zR:FIn:=⟨[.str],[]⟩
def zW:List FOut:=[⟨.str,[],none⟩]
noncomputable def qjt:=qe [] [(108,Tryz.f108)] [] 0
noncomputable def qo:=qp qjt 108 Tryz.f108 true zR zW
theorem zt:zh Tryz.prog qa 108 (q9 zR zW qo):=sk qjt qc q8 aln aln (b1 Tryz.func108) Tryz.func108
def qbR:FIn:=⟨[.str],[]⟩
def qbo:List FOut:=[⟨(.int .i64),[],none⟩]
def q7Q:Tmpl:={ t:=(.any::.any::.any::.str::(.int .i64)::qB 38 []),h:=[] }
def q8d:List Out:=[⟨(.exit 0),{ t:=(.any::.any::.any::.str::qB 39 []),h:=[] }⟩,⟨.ret,{ t:=(.any::.any::(.int .i64)::qB 40 []),h:=[] }⟩]
noncomputable def q4x:=qe [(108,q9 zR zW qo)] [(92,Tryz.f92)] [] 0
noncomputable def kt:=wX q4x 92 Tryz.f92 7 q7Q q8d
theorem qgK:qk Tryz.prog qa q4x.nimp (qu Tryz.prog q4x.iter 92) (zd Tryz.f92 7) (qj q7Q q8d (qg kt)):=
 gk q4x qc q8 (alc zt aln) aln (b1 Tryz.func92) Tryz.func92
noncomputable def qhu:=qe [(108,q9 zR zW qo)] [(92,Tryz.f92)] [((92,7),qj q7Q q8d (qg kt))] 0
noncomputable def q1I:=qp qhu 92 Tryz.f92 true qbR qbo
theorem qjR:zh Tryz.prog qa 92 (q9 qbR qbo q1I):=sk qhu qc q8 (alc zt aln) (alc (lk Tryz.func92 qgK) aln) (b1 Tryz.func92) Tryz.func92
def vW:FIn:=⟨[.str],[]⟩
def j1:List FOut:=[⟨.bool,[],none⟩]
noncomputable def qgJ:=qe [] [(104,Tryz.f104)] [] 0
noncomputable def qC:=qp qgJ 104 Tryz.f104 true vW j1
theorem vz:zh Tryz.prog qa 104 (q9 vW j1 qC):=sk qgJ qc q8 aln aln (b1 Tryz.func104) Tryz.func104
def vZ:FIn:=⟨[.str,.bool],[]⟩
def vS:List FOut:=[⟨.str,[],none⟩]
noncomputable def qfw:=qe [] [(109,Tryz.f109)] [] 0
noncomputable def qJ:=qp qfw 109 Tryz.f109 true vZ vS
theorem vK:zh Tryz.prog qa 109 (q9 vZ vS qJ):=sk qfw qc q8 aln aln (b1 Tryz.func109) Tryz.func109
def jM:FIn:=⟨[.str],[]⟩
def jT:List FOut:=[⟨.str,[],none⟩]
noncomputable def qfC:=qe [(104,q9 vW j1 qC),(108,q9 zR zW qo),(109,q9 vZ vS qJ)] [(105,Tryz.f105)] [] 0
noncomputable def zx:=qp qfC 105 Tryz.f105 true jM jT
theorem yb:zh Tryz.prog qa 105 (q9 jM jT zx):=sk qfC qc q8 (alc vz (alc zt (alc vK aln))) aln (b1 Tryz.func105) Tryz.func105
def qbK:FIn:=⟨[(.int .i64)],[]⟩
def qc2:List FOut:=[⟨.str,[],none⟩]
def qbB:Tmpl:={ t:=((.int .i64)::.any::.any::.str::qB 33 []),h:=[] }
def qbq:List Out:=[⟨(.exit 0),{ t:=((.int .i64)::.any::.any::.str::qB 33 []),h:=[] }⟩]
noncomputable def q7e:=qe [(105,q9 jM jT zx)] [] [] 0
noncomputable def q4K:=wX q7e 73 Tryz.f73 9 qbB qbq
theorem qjW:qk Tryz.prog qa q7e.nimp (qu Tryz.prog q7e.iter 73) (zd Tryz.f73 9) (qj qbB qbq (qg q4K)):=
 gk q7e qc q8 (alc yb aln) aln aln Tryz.func73
noncomputable def ql6:=qe [(105,q9 jM jT zx)] [] [((73,9),qj qbB qbq (qg q4K))] 0
noncomputable def q3q:=qp ql6 73 Tryz.f73 true qbK qc2
theorem qfv:zh Tryz.prog qa 73 (q9 qbK qc2 q3q):=sk ql6 qc q8 (alc yb aln) (alc (lk Tryz.func73 qjW) aln) aln Tryz.func73
def q3A:FIn:=⟨[(.int .i64)],[]⟩
def q3B:List FOut:=[⟨.str,[],none⟩]
def qdZ:Tmpl:={ t:=((.int .i64)::.any::.any::.str::qB 33 []),h:=[] }
def qdY:List Out:=[⟨(.exit 0),{ t:=((.int .i64)::.any::.any::.str::qB 33 []),h:=[] }⟩]
noncomputable def q9s:=qe [(73,q9 qbK qc2 q3q),(105,q9 jM jT zx)] [] [] 0
noncomputable def q5X:=wX q9s 73 Tryz.f73 9 qdZ qdY
theorem qm7:qk Tryz.prog qa q9s.nimp (qu Tryz.prog q9s.iter 73) (zd Tryz.f73 9) (qj qdZ qdY (qg q5X)):=
 gk q9s qc q8 (alc qfv (alc yb aln)) aln aln Tryz.func73
noncomputable def qnp:=qe [(73,q9 qbK qc2 q3q),(105,q9 jM jT zx)] [] [((73,9),qj qdZ qdY (qg q5X))] 0
noncomputable def zO:=qp qnp 73 Tryz.f73 true q3A q3B
theorem q22:zh Tryz.prog qa 73 (q9 q3A q3B zO):=sk qnp qc q8 (alc qfv (alc yb aln)) (alc (lk Tryz.func73 qm7) aln) aln Tryz.func73
def q9K:FIn:=⟨[.str],[]⟩
def qa7:List FOut:=[⟨(.int .i64),[],none⟩]
def q6q:Tmpl:={ t:=(.str::.any::.any::(.int .i64)::.str::(.int .i64)::qB 21 []),h:=[] }
def q6K:List Out:=[⟨(.exit 0),{ t:=(.str::.any::.any::(.int .i64)::qB 23 []),h:=[] }⟩]
noncomputable def q38:=qe [(104,q9 vW j1 qC),(108,q9 zR zW qo)] [(148,Tryz.f148)] [] 0
noncomputable def yG:=wX q38 148 Tryz.f148 4 q6q q6K
theorem qgr:qk Tryz.prog qa q38.nimp (qu Tryz.prog q38.iter 148) (zd Tryz.f148 4) (qj q6q q6K (qg yG)):=
 gk q38 qc q8 (alc vz (alc zt aln)) aln (b1 Tryz.func148) Tryz.func148
noncomputable def qfo:=qe [(104,q9 vW j1 qC),(108,q9 zR zW qo)] [(148,Tryz.f148)] [((148,4),qj q6q q6K (qg yG))] 0
noncomputable def jQ:=qp qfo 148 Tryz.f148 true q9K qa7
theorem qiT:zh Tryz.prog qa 148 (q9 q9K qa7 jQ):=sk qfo qc q8 (alc vz (alc zt aln)) (alc (lk Tryz.func148 qgr) aln) (b1 Tryz.func148) Tryz.func148
def ub:FIn:=⟨[.str,.str],[]⟩
def u7:List FOut:=[⟨(.tuple [(.int .i64),(.int .i64),.bool]),[],none⟩]
noncomputable def qi0:=qe [(108,q9 zR zW qo),(148,q9 q9K qa7 jQ)] [(107,Tryz.f107)] [] 0
noncomputable def zN:=qp qi0 107 Tryz.f107 true ub u7
theorem yH:zh Tryz.prog qa 107 (q9 ub u7 zN):=sk qi0 qc q8 (alc zt (alc qiT aln)) aln (b1 Tryz.func107) Tryz.func107
def q9w:FIn:=⟨[.str,(.int .i64)],[]⟩
def q9H:List FOut:=[⟨.str,[],none⟩]
def qa6:Tmpl:={ t:=(.str::(.int .i64)::.any::.any::.any::(.vec 0)::(.int .i64)::qB 20 []),h:=[.vec 5 [(.int .u8)]] }
def qar:List Out:=[⟨(.exit 0),{ t:=(.str::(.int .i64)::.any::.any::.any::(.vec 0)::qB 21 []),h:=[.vec 5 [(.int .u8)]] }⟩]
noncomputable def q5u:=qe [] [(149,Tryz.f149)] [] 0
noncomputable def q0I:=wX q5u 149 Tryz.f149 4 qa6 qar
theorem qiA:qk Tryz.prog qa q5u.nimp (qu Tryz.prog q5u.iter 149) (zd Tryz.f149 4) (qj qa6 qar (qg q0I)):=
 gk q5u qc q8 aln aln (b1 Tryz.func149) Tryz.func149
noncomputable def qje:=qe [] [(149,Tryz.f149)] [((149,4),qj qa6 qar (qg q0I))] 0
noncomputable def q1j:=qp qje 149 Tryz.f149 true q9w q9H
theorem qdy:zh Tryz.prog qa 149 (q9 q9w q9H q1j):=sk qje qc q8 aln (alc (lk Tryz.func149 qiA) aln) (b1 Tryz.func149) Tryz.func149
def q5x:FIn:=⟨[(.int .u8),(.int .u8),(.int .i64),.bool],[]⟩
def q5K:List FOut:=[⟨(.tuple [(.int .u8),(.int .i64)]),[],none⟩]
noncomputable def qfb:=qe [] [(150,Tryz.f150)] [] 0
noncomputable def q0H:=qp qfb 150 Tryz.f150 true q5x q5K
theorem qb5:zh Tryz.prog qa 150 (q9 q5x q5K q0H):=sk qfb qc q8 aln aln (b1 Tryz.func150) Tryz.func150
def j3:FIn:=⟨[.str],[]⟩
def j5:List FOut:=[⟨.str,[],none⟩]
def qan:Tmpl:={ t:=(.str::qB 13 []),h:=[] }
def q9T:List Out:=[⟨(.exit 0),{ t:=(.str::qB 13 []),h:=[] }⟩]
noncomputable def q5G:=qe [] [(151,Tryz.f151)] [] 0
noncomputable def q2x:=wX q5G 151 Tryz.f151 2 qan q9T
theorem qiM:qk Tryz.prog qa q5G.nimp (qu Tryz.prog q5G.iter 151) (zd Tryz.f151 2) (qj qan q9T (qg q2x)):=
 gk q5G qc q8 aln aln (b1 Tryz.func151) Tryz.func151
noncomputable def qjq:=qe [] [(151,Tryz.f151)] [((151,2),qj qan q9T (qg q2x))] 0
noncomputable def zy:=qp qjq 151 Tryz.f151 true j3 j5
theorem vj:zh Tryz.prog qa 151 (q9 j3 j5 zy):=sk qjq qc q8 aln (alc (lk Tryz.func151 qiM) aln) (b1 Tryz.func151) Tryz.func151
def q1Y:FIn:=⟨[.str,.str,.bool],[]⟩
def q1J:List FOut:=[⟨.str,[],none⟩]
def q8O:Tmpl:={ t:=(.str::.str::.bool::qB 5 ((.vec 0)::(.int .i64)::(.int .i64)::qB 38 [])),h:=[.vec 5 [(.int .u8)]] }
def q81:List Out:=[⟨(.exit 0),{ t:=(qB 8 ((.vec 0)::qB 40 [])),h:=[.vec 5 [(.int .u8)]] }⟩]
noncomputable def q4L:=qe [(149,q9 q9w q9H q1j),(150,q9 q5x q5K q0H),(151,q9 j3 j5 zy)] [(110,Tryz.f110)] [] 0
noncomputable def kJ:=wX q4L 110 Tryz.f110 7 q8O q81
theorem qi7:qk Tryz.prog qa q4L.nimp (qu Tryz.prog q4L.iter 110) (zd Tryz.f110 7) (qj q8O q81 (qg kJ)):=
 gk q4L qc q8 (alc qdy (alc qb5 (alc vj aln))) aln (b1 Tryz.func110) Tryz.func110
noncomputable def qhV:=qe [(149,q9 q9w q9H q1j),(150,q9 q5x q5K q0H),(151,q9 j3 j5 zy)] [(110,Tryz.f110)] [((110,7),qj q8O q81 (qg kJ))] 0
noncomputable def vb:=qp qhV 110 Tryz.f110 true q1Y q1J
theorem q2Z:zh Tryz.prog qa 110 (q9 q1Y q1J vb):=sk qhV qc q8 (alc qdy (alc qb5 (alc vj aln))) (alc (lk Tryz.func110 qi7) aln) (b1 Tryz.func110) Tryz.func110
def q3H:FIn:=⟨[.str,.str],[]⟩
def q3J:List FOut:=[⟨.bool,[],none⟩]
noncomputable def qjp:=qe [] [(111,Tryz.f111)] [] 0
noncomputable def u4:=qp qjp 111 Tryz.f111 true q3H q3J
theorem q4l:zh Tryz.prog qa 111 (q9 q3H q3J u4):=sk qjp qc q8 aln aln (b1 Tryz.func111) Tryz.func111
def q9E:FIn:=⟨[.str,.str],[]⟩
def q9z:List FOut:=[⟨.str,[],none⟩]
noncomputable def qjo:=qe [(73,q9 q3A q3B zO),(104,q9 vW j1 qC),(107,q9 ub u7 zN),(108,q9 zR zW qo),(109,q9 vZ vS qJ),(110,q9 q1Y q1J vb),(111,q9 q3H q3J u4)] [(72,Tryz.f72)] [] 0
noncomputable def q1k:=qp qjo 72 Tryz.f72 true q9E q9z
theorem qe2:zh Tryz.prog qa 72 (q9 q9E q9z q1k):=sk qjo qc q8 (alc q22 (alc vz (alc yH (alc zt (alc vK (alc q2Z (alc q4l aln))))))) aln (b1 Tryz.func72) Tryz.func72
def q4j:FIn:=⟨[.str,.str],[]⟩
def q4D:List FOut:=[⟨.str,[],none⟩]
noncomputable def qi3:=qe [(72,q9 q9E q9z q1k),(105,q9 jM jT zx)] [(96,Tryz.f96)] [] 0
noncomputable def wy:=qp qi3 96 Tryz.f96 true q4j q4D
theorem q6N:zh Tryz.prog qa 96 (q9 q4j q4D wy):=sk qi3 qc q8 (alc qe2 (alc yb aln)) aln (b1 Tryz.func96) Tryz.func96
def q4k:FIn:=⟨[.str,.str],[]⟩
def q4I:List FOut:=[⟨(.int .i64),[],none⟩]
noncomputable def qha:=qe [(96,q9 q4j q4D wy),(104,q9 vW j1 qC)] [(94,Tryz.f94)] [] 0
noncomputable def jF:=qp qha 94 Tryz.f94 true q4k q4I
theorem q6I:zh Tryz.prog qa 94 (q9 q4k q4I jF):=sk qha qc q8 (alc q6N (alc vz aln)) aln (b1 Tryz.func94) Tryz.func94
def q88:FIn:=⟨[.str,.str],[]⟩
def q91:List FOut:=[⟨.str,[],none⟩]
def q5f:Tmpl:={ t:=(.str::.str::.any::.any::.any::(.vec 0)::(.int .i64)::(.int .i64)::qB 69 []),h:=[.vec 3 [(.int .i64)]] }
def q52:List Out:=[⟨(.exit 2),{ t:=(.str::.str::.any::.any::.any::(.vec 0)::(.int .i64)::qB 70 []),h:=[.vec 3 [(.int .i64)]] }⟩]
noncomputable def q27:=qe [(151,q9 j3 j5 zy)] [(146,Tryz.f146)] [] 0
noncomputable def jZ:=wX q27 146 Tryz.f146 9 q5f q52
theorem qeF:qk Tryz.prog qa q27.nimp (qu Tryz.prog q27.iter 146) (zd Tryz.f146 9) (qj q5f q52 (qg jZ)):=
 gk q27 qc q8 (alc vj aln) aln (b1 Tryz.func146) Tryz.func146
def q53:Tmpl:={ t:=(.str::.str::.any::.any::.any::(.vec 0)::(.int .i64)::qB 70 []),h:=[.vec 3 [(.int .i64)]] }
def q4X:List Out:=[⟨(.exit 0),{ t:=(qB 5 ((.vec 0)::qB 71 [])),h:=[.vec 3 [(.int .i64)]] }⟩]
noncomputable def q1N:=qe [(151,q9 j3 j5 zy)] [(146,Tryz.f146)] [((146,9),qj q5f q52 (qg jZ))] 0
noncomputable def jV:=wX q1N 146 Tryz.f146 4 q53 q4X
theorem qeB:qk Tryz.prog qa q1N.nimp (qu Tryz.prog q1N.iter 146) (zd Tryz.f146 4) (qj q53 q4X (qg jV)):=
 gk q1N qc q8 (alc vj aln) (alc (lk Tryz.func146 qeF) aln) (b1 Tryz.func146) Tryz.func146
def q3P:Tmpl:={ t:=(qB 5 ((.vec 0)::.any::.any::(.vec 1)::(.int .i64)::(.int .i64)::qB 66 [])),h:=[.vec 3 [(.int .i64)],.vec 5 [(.int .u8)]] }
def q46:List Out:=[⟨(.exit 4),{ t:=(qB 8 ((.vec 1)::qB 68 [])),h:=[.dead,.vec 5 [(.int .u8)]] }⟩]
noncomputable def q11:=qe [(151,q9 j3 j5 zy)] [(146,Tryz.f146)] [] 0
noncomputable def jj:=wX q11 146 Tryz.f146 17 q3P q46
theorem qd9:qk Tryz.prog qa q11.nimp (qu Tryz.prog q11.iter 146) (zd Tryz.f146 17) (qj q3P q46 (qg jj)):=
 gk q11 qc q8 (alc vj aln) aln (b1 Tryz.func146) Tryz.func146
noncomputable def qdf:=qe [(151,q9 j3 j5 zy)] [(146,Tryz.f146)] [((146,4),qj q53 q4X (qg jV)),((146,17),qj q3P q46 (qg jj))] 0
noncomputable def kg:=qp qdf 146 Tryz.f146 true q88 q91
theorem qhf:zh Tryz.prog qa 146 (q9 q88 q91 kg):=sk qdf qc q8 (alc vj aln) (alc (lk Tryz.func146 qeB) (alc (lk Tryz.func146 qd9) aln)) (b1 Tryz.func146) Tryz.func146
def q71:FIn:=⟨[.str,.str],[]⟩
def q6Z:List FOut:=[⟨.str,[],none⟩]
noncomputable def qhs:=qe [(73,q9 q3A q3B zO),(104,q9 vW j1 qC),(107,q9 ub u7 zN),(108,q9 zR zW qo),(109,q9 vZ vS qJ),(146,q9 q88 q91 kg)] [(103,Tryz.f103)] [] 0
noncomputable def zL:=qp qhs 103 Tryz.f103 true q71 q6Z
theorem qcQ:zh Tryz.prog qa 103 (q9 q71 q6Z zL):=sk qhs qc q8 (alc q22 (alc vz (alc yH (alc zt (alc vK (alc qhf aln)))))) aln (b1 Tryz.func103) Tryz.func103
def q90:FIn:=⟨[.str,.str],[]⟩
def q8b:List FOut:=[⟨(.tuple [.str,.str]),[],none⟩]
def q4m:Tmpl:={ t:=(.str::.str::qB 4 (.str::.str::(.int .i64)::(.int .u8)::qB 31 [])),h:=[] }
def q42:List Out:=[⟨(.exit 2),{ t:=(.str::.str::qB 4 (.str::.str::(.int .i64)::(.int .u8)::qB 31 [])),h:=[] }⟩]
noncomputable def q0X:=qe [(110,q9 q1Y q1J vb),(111,q9 q3H q3J u4),(151,q9 j3 j5 zy)] [(147,Tryz.f147)] [] 0
noncomputable def je:=wX q0X 147 Tryz.f147 11 q4m q42
theorem qdu:qk Tryz.prog qa q0X.nimp (qu Tryz.prog q0X.iter 147) (zd Tryz.f147 11) (qj q4m q42 (qg je)):=
 gk q0X qc q8 (alc q2Z (alc q4l (alc vj aln))) aln (b1 Tryz.func147) Tryz.func147
def q5i:Tmpl:={ t:=(.str::.str::qB 4 (.str::.str::(.int .i64)::qB 32 [])),h:=[] }
def q5b:List Out:=[⟨(.exit 0),{ t:=(qB 6 (.str::.str::qB 33 [])),h:=[] }⟩]
noncomputable def q26:=qe [(110,q9 q1Y q1J vb),(111,q9 q3H q3J u4),(151,q9 j3 j5 zy)] [(147,Tryz.f147)] [((147,11),qj q4m q42 (qg je))] 0
noncomputable def kH:=wX q26 147 Tryz.f147 4 q5i q5b
theorem qeM:qk Tryz.prog qa q26.nimp (qu Tryz.prog q26.iter 147) (zd Tryz.f147 4) (qj q5i q5b (qg kH)):=
 gk q26 qc q8 (alc q2Z (alc q4l (alc vj aln))) (alc (lk Tryz.func147 qdu) aln) (b1 Tryz.func147) Tryz.func147
noncomputable def qdv:=qe [(110,q9 q1Y q1J vb),(111,q9 q3H q3J u4),(151,q9 j3 j5 zy)] [(147,Tryz.f147)] [((147,4),qj q5i q5b (qg kH))] 0
noncomputable def q1e:=qp qdv 147 Tryz.f147 true q90 q8b
theorem qhl:zh Tryz.prog qa 147 (q9 q90 q8b q1e):=sk qdv qc q8 (alc q2Z (alc q4l (alc vj aln))) (alc (lk Tryz.func147 qeM) aln) (b1 Tryz.func147) Tryz.func147
def q0F:FIn:=⟨[.str,.str],[]⟩
def q0G:List FOut:=[⟨(.tuple [.str,.str]),[],none⟩]
noncomputable def qf7:=qe [(73,q9 q3A q3B zO),(96,q9 q4j q4D wy),(103,q9 q71 q6Z zL),(104,q9 vW j1 qC),(107,q9 ub u7 zN),(108,q9 zR zW qo),(109,q9 vZ vS qJ),(147,q9 q90 q8b q1e)] [(106,Tryz.f106)] [] 0
noncomputable def zF:=qp qf7 106 Tryz.f106 true q0F q0G
theorem q1V:zh Tryz.prog qa 106 (q9 q0F q0G zF):=sk qf7 qc q8 (alc q22 (alc q6N (alc qcQ (alc vz (alc yH (alc zt (alc vK (alc qhl aln)))))))) aln (b1 Tryz.func106) Tryz.func106
def q5H:FIn:=⟨[.str,.str],[]⟩
def q5M:List FOut:=[⟨.str,[],none⟩]
def q58:Tmpl:={ t:=(qB 5 ((.int .i64)::(.int .i64)::qB 36 [])),h:=[] }
def q5c:List Out:=[⟨(.exit 2),{ t:=(qB 5 ((.int .i64)::qB 37 [])),h:=[] }⟩]
noncomputable def q24:=qe [(73,q9 q3A q3B zO),(106,q9 q0F q0G zF),(107,q9 ub u7 zN),(108,q9 zR zW qo),(109,q9 vZ vS qJ)] [(95,Tryz.f95)] [] 0
noncomputable def ye:=wX q24 95 Tryz.f95 10 q58 q5c
theorem qeS:qk Tryz.prog qa q24.nimp (qu Tryz.prog q24.iter 95) (zd Tryz.f95 10) (qj q58 q5c (qg ye)):=
 gk q24 qc q8 (alc q22 (alc q1V (alc yH (alc zt (alc vK aln))))) aln (b1 Tryz.func95) Tryz.func95
def q6F:Tmpl:={ t:=(.str::.str::qB 41 []),h:=[] }
def q6s:List Out:=[⟨(.exit 0),{ t:=(.str::qB 42 []),h:=[] }⟩,⟨.ret,{ t:=(qB 4 (.str::qB 38 [])),h:=[] }⟩]
noncomputable def q3j:=qe [(73,q9 q3A q3B zO),(106,q9 q0F q0G zF),(107,q9 ub u7 zN),(108,q9 zR zW qo),(109,q9 vZ vS qJ)] [(95,Tryz.f95)] [((95,10),qj q58 q5c (qg ye))] 0
noncomputable def q0w:=wX q3j 95 Tryz.f95 3 q6F q6s
theorem qgm:qk Tryz.prog qa q3j.nimp (qu Tryz.prog q3j.iter 95) (zd Tryz.f95 3) (qj q6F q6s (qg q0w)):=
 gk q3j qc q8 (alc q22 (alc q1V (alc yH (alc zt (alc vK aln))))) (alc (lk Tryz.func95 qeS) aln) (b1 Tryz.func95) Tryz.func95
noncomputable def qfA:=qe [(73,q9 q3A q3B zO),(106,q9 q0F q0G zF),(107,q9 ub u7 zN),(108,q9 zR zW qo),(109,q9 vZ vS qJ)] [(95,Tryz.f95)] [((95,3),qj q6F q6s (qg q0w))] 0
noncomputable def uv:=qp qfA 95 Tryz.f95 true q5H q5M
theorem qaO:zh Tryz.prog qa 95 (q9 q5H q5M uv):=sk qfA qc q8 (alc q22 (alc q1V (alc yH (alc zt (alc vK aln))))) (alc (lk Tryz.func95 qgm) aln) (b1 Tryz.func95) Tryz.func95
def q75:FIn:=⟨[.str],[]⟩
def q7C:List FOut:=[⟨(.int .i64),[],none⟩]
noncomputable def qi1:=qe [(86,q9 q4B q4G vn),(92,q9 qbR qbo q1I),(93,q9 q6Y q7g q0h),(94,q9 q4k q4I jF),(95,q9 q5H q5M uv)] [(54,Tryz.f54)] [] 0
noncomputable def q1O:=qp qi1 54 Tryz.f54 true q75 q7C
theorem qcJ:zh Tryz.prog qa 54 (q9 q75 q7C q1O):=sk qi1 qc q8 (alc q6D (alc qjR (alc qcO (alc q6I (alc qaO aln))))) aln (b1 Tryz.func54) Tryz.func54
def q0N:FIn:=⟨[.str],[]⟩
def q0E:List FOut:=[⟨(.int .i64),[],none⟩]
noncomputable def qfB:=qe [(86,q9 q4B q4G vn),(94,q9 q4k q4I jF)] [(144,Tryz.f144)] [] 0
noncomputable def zH:=qp qfB 144 Tryz.f144 true q0N q0E
theorem q23:zh Tryz.prog qa 144 (q9 q0N q0E zH):=sk qfB qc q8 (alc q6D (alc q6I aln)) aln (b1 Tryz.func144) Tryz.func144
def q70:FIn:=⟨[(.agg [.str,.str,.str])],[]⟩
def q7k:List FOut:=[⟨(.int .i64),[],none⟩]
def q7V:Tmpl:={ t:=(.any::(.ptr 0 0)::qB 12 ((.vec 1)::(.int .i64)::(.int .i64)::qB 13 [])),h:=[.cells [.str,.str,.str],.vec 36 [.str]] }
def q8t:List Out:=[⟨(.exit 0),{ t:=(.any::(.ptr 0 0)::qB 28 []),h:=[.cells [.str,.str,.str]] }⟩,⟨.ret,{ t:=(.any::.any::(.int .i64)::qB 27 []),h:=[] }⟩]
noncomputable def q4g:=qe [(54,q9 q75 q7C q1O),(144,q9 q0N q0E zH)] [(101,Tryz.f101)] [] 0
noncomputable def q1E:=wX q4g 101 Tryz.f101 3 q7V q8t
theorem qi6:qk Tryz.prog qa q4g.nimp (qu Tryz.prog q4g.iter 101) (zd Tryz.f101 3) (qj q7V q8t (qg q1E)):=
 gk q4g qc q8 (alc qcJ (alc q23 aln)) aln (b1 Tryz.func101) Tryz.func101
noncomputable def qh9:=qe [(54,q9 q75 q7C q1O),(144,q9 q0N q0E zH)] [(101,Tryz.f101)] [((101,3),qj q7V q8t (qg q1E))] 0
noncomputable def q1H:=qp qh9 101 Tryz.f101 true q70 q7k
theorem qcE:zh Tryz.prog qa 101 (q9 q70 q7k q1H):=sk qh9 qc q8 (alc qcJ (alc q23 aln)) (alc (lk Tryz.func101 qi6) aln) (b1 Tryz.func101) Tryz.func101
def q9i:FIn:=⟨[(.imm [.str,.str,.str])],[]⟩
def q9y:List FOut:=[⟨(.int .i64),[],none⟩]
def qa3:Tmpl:={ t:=((.imm [.str,.str,.str])::.any::.any::(.int .i64)::qB 21 []),h:=[] }
def qa9:List Out:=[⟨(.exit 0),{ t:=((.imm [.str,.str,.str])::qB 24 []),h:=[] }⟩,⟨.ret,{ t:=(.any::.any::(.int .i64)::qB 22 []),h:=[] }⟩]
noncomputable def q5w:=qe [(101,q9 q70 q7k q1H)] [(65,Tryz.f65)] [] 0
noncomputable def q2U:=wX q5w 65 Tryz.f65 6 qa3 qa9
theorem qj2:qk Tryz.prog qa q5w.nimp (qu Tryz.prog q5w.iter 65) (zd Tryz.f65 6) (qj qa3 qa9 (qg q2U)):=
 gk q5w qc q8 (alc qcE aln) aln (b1 Tryz.func65) Tryz.func65
noncomputable def qjC:=qe [(101,q9 q70 q7k q1H)] [(65,Tryz.f65)] [((65,6),qj qa3 qa9 (qg q2U))] 0
noncomputable def kV:=qp qjC 65 Tryz.f65 true q9i q9y
theorem qdj:zh Tryz.prog qa 65 (q9 q9i q9y kV):=sk qjC qc q8 (alc qcE aln) (alc (lk Tryz.func65 qj2) aln) (b1 Tryz.func65) Tryz.func65
def yf:FIn:=⟨[.str,.str],[]⟩
def yq:List FOut:=[⟨(.imm [.str]),[],none⟩]
noncomputable def qdU:=qe [(86,q9 q4B q4G vn),(103,q9 q71 q6Z zL)] [(70,Tryz.f70)] [] 0
noncomputable def zi:=qp qdU 70 Tryz.f70 true yf yq
theorem uf:zh Tryz.prog qa 70 (q9 yf yq zi):=sk qdU qc q8 (alc q6D (alc qcQ aln)) aln (b1 Tryz.func70) Tryz.func70
def q0J:FIn:=⟨[.str,.str],[]⟩
def q0D:List FOut:=[⟨.str,[],none⟩]
noncomputable def qfu:=qe [(95,q9 q5H q5M uv),(104,q9 vW j1 qC),(105,q9 jM jT zx),(106,q9 q0F q0G zF)] [(71,Tryz.f71)] [] 0
noncomputable def wd:=qp qfu 71 Tryz.f71 true q0J q0D
theorem q28:zh Tryz.prog qa 71 (q9 q0J q0D wd):=sk qfu qc q8 (alc qaO (alc vz (alc yb (alc q1V aln)))) aln (b1 Tryz.func71) Tryz.func71
def q3E:FIn:=⟨[.str,.str],[]⟩
def q3y:List FOut:=[⟨.str,[],none⟩]
noncomputable def qjj:=qe [(70,q9 yf yq zi),(71,q9 q0J q0D wd),(72,q9 q9E q9z q1k)] [(26,Tryz.f26)] [] 0
noncomputable def wL:=qp qjj 26 Tryz.f26 true q3E q3y
theorem q4r:zh Tryz.prog qa 26 (q9 q3E q3y wL):=sk qjj qc q8 (alc uf (alc q28 (alc qe2 aln))) aln (b1 Tryz.func26) Tryz.func26
def q04:FIn:=⟨[.str,.str],[]⟩
def q0e:List FOut:=[⟨.str,[],none⟩]
noncomputable def qh6:=qe [(70,q9 yf yq zi),(71,q9 q0J q0D wd),(96,q9 q4j q4D wy)] [(55,Tryz.f55)] [] 0
noncomputable def zm:=qp qh6 55 Tryz.f55 true q04 q0e
theorem q0x:zh Tryz.prog qa 55 (q9 q04 q0e zm):=sk qh6 qc q8 (alc uf (alc q28 (alc q6N aln))) aln (b1 Tryz.func55) Tryz.func55
def q0d:FIn:=⟨[.str,.str],[]⟩
def q0i:List FOut:=[⟨.str,[],none⟩]
noncomputable def qgU:=qe [(70,q9 yf yq zi),(71,q9 q0J q0D wd)] [(171,Tryz.f171)] [] 0
noncomputable def qK:=qp qgU 171 Tryz.f171 true q0d q0i
theorem q0y:zh Tryz.prog qa 171 (q9 q0d q0i qK):=sk qgU qc q8 (alc uf (alc q28 aln)) aln (b1 Tryz.func171) Tryz.func171
def q84:FIn:=⟨[(.agg [.str,.str]),(.agg [.str,.str])],[]⟩
def q8A:List FOut:=[⟨.str,[],none⟩]
noncomputable def qma:=qe [(26,q9 q3E q3y wL),(171,q9 q0d q0i qK)] [(176,Tryz.f176)] [] 0
noncomputable def yh:=qp qma 176 Tryz.f176 true q84 q8A
theorem q9Y:zh Tryz.prog qa 176 (q9 q84 q8A yh):=sk qma qc q8 (alc q4r (alc q0y aln)) aln (b1 Tryz.func176) Tryz.func176
def q4y:FIn:=⟨[(.agg [.str,.str]),(.agg [.str,.str])],[]⟩
def q3Z:List FOut:=[⟨(.agg [.str,.str]),[],none⟩]
noncomputable def qh7:=qe [(55,q9 q04 q0e zm)] [(177,Tryz.f177)] [] 0
noncomputable def jC:=qp qh7 177 Tryz.f177 true q4y q3Z
theorem q6i:zh Tryz.prog qa 177 (q9 q4y q3Z jC):=sk qh7 qc q8 (alc q0x aln) aln (b1 Tryz.func177) Tryz.func177
def q5I:FIn:=⟨[.str],[]⟩
def q5D:List FOut:=[⟨.str,[],none⟩]
noncomputable def qeX:=qe [(55,q9 q04 q0e zm)] [(213,Tryz.f213)] [] 0
noncomputable def jO:=qp qeX 213 Tryz.f213 true q5I q5D
theorem qbj:zh Tryz.prog qa 213 (q9 q5I q5D jO):=sk qeX qc q8 (alc q0x aln) aln (b1 Tryz.func213) Tryz.func213
def qiy:FIn:=⟨[.str,.str],[]⟩
def qj0:List FOut:=[⟨.str,[],none⟩]
noncomputable def qnd:=qe [(70,q9 yf yq zi),(71,q9 q0J q0D wd)] [(235,Tryz.f235)] [] 0
noncomputable def q7N:=qp qnd 235 Tryz.f235 true qiy qj0
theorem qp5:zh Tryz.prog qa 235 (q9 qiy qj0 q7N):=sk qnd qc q8 (alc uf (alc q28 aln)) aln (b1 Tryz.func235) Tryz.func235
def q6l:FIn:=⟨[(.agg [.str,.str,.str]),(.agg [.str,.str,.str])],[]⟩
def q6x:List FOut:=[⟨(.tuple [(.agg [.str,.str,.str,.str,.str]),.bool]),[],none⟩]
noncomputable def qcW:=qe [(26,q9 q3E q3y wL),(55,q9 q04 q0e zm),(144,q9 q0N q0E zH),(171,q9 q0d q0i qK),(176,q9 q84 q8A yh),(177,q9 q4y q3Z jC),(213,q9 q5I q5D jO),(235,q9 qiy qj0 q7N)] [(212,Tryz.f212)] [] 0
noncomputable def q0n:=qp qcW 212 Tryz.f212 true q6l q6x
theorem qgp:zh Tryz.prog qa 212 (q9 q6l q6x q0n):=sk qcW qc q8 (alc q4r (alc q0x (alc q23 (alc q0y (alc q9Y (alc q6i (alc qbj (alc qp5 aln)))))))) aln (b1 Tryz.func212) Tryz.func212
def q48:FIn:=⟨[(.imm [.str,.str,.str]),(.agg [(.int .i64),(.int .i64),(.int .i64)])],[]⟩
def q3S:List FOut:=[⟨(.tuple [(.agg [.str,.str,.str,.str,.str]),.bool]),[],none⟩]
noncomputable def qe0:=qe [(212,q9 q6l q6x q0n),(213,q9 q5I q5D jO)] [(178,Tryz.f178)] [] 0
noncomputable def yj:=qp qe0 178 Tryz.f178 true q48 q3S
theorem q9m:zh Tryz.prog qa 178 (q9 q48 q3S yj):=sk qe0 qc q8 (alc qgp (alc qbj aln)) aln (b1 Tryz.func178) Tryz.func178
def q78:FIn:=⟨[.str,.str],[]⟩
def q7E:List FOut:=[⟨(.int .i64),[],none⟩]
noncomputable def qhw:=qe [(70,q9 yf yq zi),(94,q9 q4k q4I jF)] [(133,Tryz.f133)] [] 0
noncomputable def q0g:=qp qhw 133 Tryz.f133 true q78 q7E
theorem qcX:zh Tryz.prog qa 133 (q9 q78 q7E q0g):=sk qhw qc q8 (alc uf (alc q6I aln)) aln (b1 Tryz.func133) Tryz.func133
def q9r:FIn:=⟨[.str,.str,.str],[]⟩
def q9G:List FOut:=[⟨(.int .i64),[],none⟩]
noncomputable def qjd:=qe [(133,q9 q78 q7E q0g),(144,q9 q0N q0E zH),(171,q9 q0d q0i qK)] [(183,Tryz.f183)] [] 0
noncomputable def q1g:=qp qjd 183 Tryz.f183 true q9r q9G
theorem qe3:zh Tryz.prog qa 183 (q9 q9r q9G q1g):=sk qjd qc q8 (alc qcX (alc q23 (alc q0y aln))) aln (b1 Tryz.func183) Tryz.func183
def q73:FIn:=⟨[(.agg [.str,.str,.str]),(.agg [.str,.str,.str,.str,.str])],[]⟩
def q7o:List FOut:=[⟨.bool,[],none⟩]
noncomputable def qhJ:=qe [(26,q9 q3E q3y wL),(55,q9 q04 q0e zm),(171,q9 q0d q0i qK),(176,q9 q84 q8A yh),(177,q9 q4y q3Z jC),(183,q9 q9r q9G q1g)] [(179,Tryz.f179)] [] 0
noncomputable def q29:=qp qhJ 179 Tryz.f179 true q73 q7o
theorem qcM:zh Tryz.prog qa 179 (q9 q73 q7o q29):=sk qhJ qc q8 (alc q4r (alc q0x (alc q0y (alc q9Y (alc q6i (alc qe3 aln)))))) aln (b1 Tryz.func179) Tryz.func179
def uw:FIn:=⟨[(.imm [.str,.str,.str]),(.agg [(.int .i64),(.int .i64),(.int .i64)])],[]⟩
def uB:List FOut:=[⟨.bool,[],none⟩]
def q6A:Tmpl:={ t:=((.imm [.str,.str,.str])::qB 4 ((.ptr 1 0)::.any::(.int .i64)::qB 21 [])),h:=[.dead,.cells [.str,.str,.str,.str,.str]] }
def q6y:List Out:=[⟨(.exit 0),{ t:=(qB 29 []),h:=[] }⟩,⟨.ret,{ t:=(qB 4 (.bool::qB 24 [])),h:=[] }⟩]
noncomputable def q3g:=qe [(178,q9 q48 q3S yj),(179,q9 q73 q7o q29)] [(135,Tryz.f135)] [] 0
noncomputable def q0B:=wX q3g 135 Tryz.f135 7 q6A q6y
theorem qg3:qk Tryz.prog qa q3g.nimp (qu Tryz.prog q3g.iter 135) (zd Tryz.f135 7) (qj q6A q6y (qg q0B)):=
 gk q3g qc q8 (alc q9m (alc qcM aln)) aln (b1 Tryz.func135) Tryz.func135
noncomputable def qf3:=qe [(178,q9 q48 q3S yj),(179,q9 q73 q7o q29)] [(135,Tryz.f135)] [((135,7),qj q6A q6y (qg q0B))] 0
noncomputable def wZ:=qp qf3 135 Tryz.f135 true uw uB
theorem uZ:zh Tryz.prog qa 135 (q9 uw uB wZ):=sk qf3 qc q8 (alc q9m (alc qcM aln)) (alc (lk Tryz.func135 qg3) aln) (b1 Tryz.func135) Tryz.func135
def yV:FIn:=⟨[(.imm [.str,.str,.str])],[]⟩
def yX:List FOut:=[⟨(.tuple [(.agg [(.int .i64),(.int .i64),(.int .i64)]),.bool]),[],none⟩]
def q8c:Tmpl:={ t:=((.imm [.str,.str,.str])::.any::(.ptr 0 0)::.any::(.int .i64)::qB 49 []),h:=[.cells [(.int .i64),(.int .i64),(.int .i64)]] }
def q85:List Out:=[⟨(.exit 0),{ t:=((.imm [.str,.str,.str])::.any::(.ptr 0 0)::qB 51 []),h:=[.cells [(.int .i64),(.int .i64),(.int .i64)]] }⟩,⟨.ret,{ t:=(.any::.any::(.ptr 0 0)::.bool::qB 50 []),h:=[.cells [(.int .i64),(.int .i64),(.int .i64)]] }⟩]
noncomputable def q40:=qe [(135,q9 uw uB wZ)] [(88,Tryz.f88)] [] 0
noncomputable def q1q:=wX q40 88 Tryz.f88 3 q8c q85
theorem qh3:qk Tryz.prog qa q40.nimp (qu Tryz.prog q40.iter 88) (zd Tryz.f88 3) (qj q8c q85 (qg q1q)):=
 gk q40 qc q8 (alc uZ aln) aln (b1 Tryz.func88) Tryz.func88
def q6o:Tmpl:={ t:=((.imm [.str,.str,.str])::.any::(.ptr 0 0)::.any::.any::.any::(.int .i64)::(.int .i64)::qB 30 ((.vec 1)::(.int .i64)::(.int .i64)::qB 13 [])),h:=[.cells [(.int .i64),(.int .i64),(.int .i64)],.vec 3 [(.int .i64)]] }
def q6n:List Out:=[⟨(.exit 6),{ t:=((.imm [.str,.str,.str])::.any::(.ptr 0 0)::.any::.any::.any::(.int .i64)::(.int .i64)::qB 46 []),h:=[.cells [(.int .i64),(.int .i64),(.int .i64)]] }⟩,⟨.ret,{ t:=(.any::.any::(.ptr 0 0)::.bool::qB 50 []),h:=[.cells [(.int .i64),(.int .i64),(.int .i64)]] }⟩]
noncomputable def q36:=qe [(135,q9 uw uB wZ)] [(88,Tryz.f88)] [] 0
noncomputable def q0A:=wX q36 88 Tryz.f88 22 q6o q6n
theorem qgu:qk Tryz.prog qa q36.nimp (qu Tryz.prog q36.iter 88) (zd Tryz.f88 22) (qj q6o q6n (qg q0A)):=
 gk q36 qc q8 (alc uZ aln) aln (b1 Tryz.func88) Tryz.func88
def q6O:Tmpl:={ t:=((.imm [.str,.str,.str])::.any::(.ptr 0 0)::.any::.any::.any::(.int .i64)::(.int .i64)::qB 46 []),h:=[.cells [(.int .i64),(.int .i64),(.int .i64)]] }
def q6G:List Out:=[⟨(.exit 4),{ t:=((.imm [.str,.str,.str])::.any::(.ptr 0 0)::.any::.any::.any::(.int .i64)::qB 47 []),h:=[.cells [(.int .i64),(.int .i64),(.int .i64)]] }⟩,⟨.ret,{ t:=(.any::.any::(.ptr 0 0)::.bool::qB 50 []),h:=[.cells [(.int .i64),(.int .i64),(.int .i64)]] }⟩]
noncomputable def q3f:=qe [(135,q9 uw uB wZ)] [(88,Tryz.f88)] [((88,22),qj q6o q6n (qg q0A))] 0
noncomputable def q0C:=wX q3f 88 Tryz.f88 17 q6O q6G
theorem qfK:qk Tryz.prog qa q3f.nimp (qu Tryz.prog q3f.iter 88) (zd Tryz.f88 17) (qj q6O q6G (qg q0C)):=
 gk q3f qc q8 (alc uZ aln) (alc (lk Tryz.func88 qgu) aln) (b1 Tryz.func88) Tryz.func88
def q6B:Tmpl:={ t:=((.imm [.str,.str,.str])::.any::(.ptr 0 0)::.any::.any::.any::(.int .i64)::qB 47 []),h:=[.cells [(.int .i64),(.int .i64),(.int .i64)]] }
def q6t:List Out:=[⟨(.exit 2),{ t:=(.any::.any::(.ptr 0 0)::qB 51 []),h:=[.cells [(.int .i64),(.int .i64),(.int .i64)]] }⟩,⟨.ret,{ t:=(.any::.any::(.ptr 0 0)::.bool::qB 50 []),h:=[.cells [(.int .i64),(.int .i64),(.int .i64)]] }⟩]
noncomputable def q3e:=qe [(135,q9 uw uB wZ)] [(88,Tryz.f88)] [((88,17),qj q6O q6G (qg q0C))] 0
noncomputable def q0j:=wX q3e 88 Tryz.f88 12 q6B q6t
theorem qfE:qk Tryz.prog qa q3e.nimp (qu Tryz.prog q3e.iter 88) (zd Tryz.f88 12) (qj q6B q6t (qg q0j)):=
 gk q3e qc q8 (alc uZ aln) (alc (lk Tryz.func88 qfK) aln) (b1 Tryz.func88) Tryz.func88
noncomputable def qi8:=qe [(135,q9 uw uB wZ)] [(88,Tryz.f88)] [((88,3),qj q8c q85 (qg q1q)),((88,12),qj q6B q6t (qg q0j))] 0
noncomputable def vk:=qp qi8 88 Tryz.f88 true yV yX
theorem yI:zh Tryz.prog qa 88 (q9 yV yX vk):=sk qi8 qc q8 (alc uZ aln) (alc (lk Tryz.func88 qh3) (alc (lk Tryz.func88 qfE) aln)) (b1 Tryz.func88) Tryz.func88
def qco:FIn:=⟨[(.imm [.str,.str,.str])],[]⟩
def qc7:List FOut:=[⟨(.imm [(.int .i64)]),[],none⟩]
def q8v:Tmpl:={ t:=((.imm [.str,.str,.str])::.any::.any::(.int .i64)::(.int .i64)::qB 84 []),h:=[] }
def q8f:List Out:=[⟨(.exit 2),{ t:=((.imm [.str,.str,.str])::.any::.any::(.int .i64)::qB 85 []),h:=[] }⟩,⟨.ret,{ t:=(.any::.any::(.vec 2)::qB 86 []),h:=[.dead,.dead,.vec 3 [(.int .i64)]] }⟩]
noncomputable def q43:=qe [(88,q9 yV yX vk)] [(66,Tryz.f66)] [] 0
noncomputable def q1f:=wX q43 66 Tryz.f66 8 q8v q8f
theorem qi9:qk Tryz.prog qa q43.nimp (qu Tryz.prog q43.iter 66) (zd Tryz.f66 8) (qj q8v q8f (qg q1f)):=
 gk q43 qc q8 (alc yI aln) aln (b1 Tryz.func66) Tryz.func66
def q82:Tmpl:={ t:=((.imm [.str,.str,.str])::.any::.any::(.int .i64)::qB 85 []),h:=[] }
def q8B:List Out:=[⟨(.exit 0),{ t:=((.imm [.str,.str,.str])::qB 88 []),h:=[] }⟩,⟨.ret,{ t:=(.any::.any::(.vec 2)::qB 86 []),h:=[.dead,.dead,.vec 3 [(.int .i64)]] }⟩]
noncomputable def q4H:=qe [(88,q9 yV yX vk)] [(66,Tryz.f66)] [((66,8),qj q8v q8f (qg q1f))] 0
noncomputable def q1y:=wX q4H 66 Tryz.f66 3 q82 q8B
theorem qhO:qk Tryz.prog qa q4H.nimp (qu Tryz.prog q4H.iter 66) (zd Tryz.f66 3) (qj q82 q8B (qg q1y)):=
 gk q4H qc q8 (alc yI aln) (alc (lk Tryz.func66 qi9) aln) (b1 Tryz.func66) Tryz.func66
def q6w:Tmpl:={ t:=((.imm [.str,.str,.str])::qB 6 ((.int .i64)::(.int .i64)::(.int .i64)::qB 79 [])),h:=[] }
def q6P:List Out:=[⟨(.exit 8),{ t:=((.imm [.str,.str,.str])::qB 6 ((.int .i64)::(.int .i64)::qB 80 [])),h:=[] }⟩,⟨.ret,{ t:=(.any::.any::(.vec 2)::qB 86 []),h:=[.dead,.dead,.vec 3 [(.int .i64)]] }⟩]
noncomputable def q30:=qe [(88,q9 yV yX vk)] [(66,Tryz.f66)] [] 0
noncomputable def q0k:=wX q30 66 Tryz.f66 27 q6w q6P
theorem qgv:qk Tryz.prog qa q30.nimp (qu Tryz.prog q30.iter 66) (zd Tryz.f66 27) (qj q6w q6P (qg q0k)):=
 gk q30 qc q8 (alc yI aln) aln (b1 Tryz.func66) Tryz.func66
def q6e:Tmpl:={ t:=((.imm [.str,.str,.str])::qB 6 ((.int .i64)::(.int .i64)::qB 80 [])),h:=[] }
def q69:List Out:=[⟨(.exit 6),{ t:=((.imm [.str,.str,.str])::qB 6 ((.int .i64)::qB 81 [])),h:=[] }⟩,⟨.ret,{ t:=(.any::.any::(.vec 2)::qB 86 []),h:=[.dead,.dead,.vec 3 [(.int .i64)]] }⟩]
noncomputable def q32:=qe [(88,q9 yV yX vk)] [(66,Tryz.f66)] [((66,27),qj q6w q6P (qg q0k))] 0
noncomputable def q0z:=wX q32 66 Tryz.f66 22 q6e q69
theorem qfW:qk Tryz.prog qa q32.nimp (qu Tryz.prog q32.iter 66) (zd Tryz.f66 22) (qj q6e q69 (qg q0z)):=
 gk q32 qc q8 (alc yI aln) (alc (lk Tryz.func66 qgv) aln) (b1 Tryz.func66) Tryz.func66
def q6g:Tmpl:={ t:=((.imm [.str,.str,.str])::qB 6 ((.int .i64)::qB 81 [])),h:=[] }
def q6M:List Out:=[⟨(.exit 4),{ t:=(qB 89 []),h:=[] }⟩,⟨.ret,{ t:=(.any::.any::(.vec 2)::qB 86 []),h:=[.dead,.dead,.vec 3 [(.int .i64)]] }⟩]
noncomputable def q31:=qe [(88,q9 yV yX vk)] [(66,Tryz.f66)] [((66,22),qj q6e q69 (qg q0z))] 0
noncomputable def q0p:=wX q31 66 Tryz.f66 17 q6g q6M
theorem qgq:qk Tryz.prog qa q31.nimp (qu Tryz.prog q31.iter 66) (zd Tryz.f66 17) (qj q6g q6M (qg q0p)):=
 gk q31 qc q8 (alc yI aln) (alc (lk Tryz.func66 qfW) aln) (b1 Tryz.func66) Tryz.func66
noncomputable def qhM:=qe [(88,q9 yV yX vk)] [(66,Tryz.f66)] [((66,3),qj q82 q8B (qg q1y)),((66,17),qj q6g q6M (qg q0p))] 0
noncomputable def q4z:=qp qhM 66 Tryz.f66 true qco qc7
theorem qk6:zh Tryz.prog qa 66 (q9 qco qc7 q4z):=sk qhM qc q8 (alc yI aln) (alc (lk Tryz.func66 qhO) (alc (lk Tryz.func66 qgq) aln)) (b1 Tryz.func66) Tryz.func66
def q1u:FIn:=⟨[(.imm [.str,.str,.str])],[]⟩
def q1l:List FOut:=[⟨(.tuple [(.imm [(.int .i64)]),(.int .i64)]),[],none⟩]
noncomputable def q66:=qe [(65,q9 q9i q9y kV),(66,q9 qco qc7 q4z)] [(18,Tryz.f18)] [] 0
noncomputable def wN:=qp q66 18 Tryz.f18 true q1u q1l
theorem qbg:zh Tryz.prog qa 18 (q9 q1u q1l wN):=sk q66 qc q8 (alc qdj (alc qk6 aln)) aln (b1 Tryz.func18) Tryz.func18
def q50:FIn:=⟨[(.imm [.str,.str,.str])],[]⟩
def q54:List FOut:=[⟨(.tuple [(.imm [(.int .i64)]),(.int .i64)]),[],none⟩]
def q2m:Tmpl:={ t:=((.imm [.str,.str,.str])::qB 4 ((.ptr 0 0)::(.vec 1)::(.int .i64)::(.ptr 2 0)::qB 9 ((.imm [.str,.str,.str])::(.int .i64)::(.int .i64)::qB 4 ((.imm [.str,.str,.str])::(.int .i64)::(.int .i64)::qB 41 [])))),h:=[.cells [(.int .i64)],.vec 3 [(.int .i64)],.cells [.str,.str,.str]] }
def q2r:List Out:=[⟨(.exit 2),{ t:=((.imm [.str,.str,.str])::qB 4 ((.ptr 0 0)::(.vec 1)::qB 11 ((.imm [.str,.str,.str])::(.int .i64)::(.int .i64)::qB 48 []))),h:=[.cells [(.int .i64)],.vec 3 [(.int .i64)]] }⟩]
noncomputable def uN:=qe [(62,q9 zV zT z7),(67,q9 wC wD qL)] [(19,Tryz.f19)] [] 0
noncomputable def vt:=wX uN 19 Tryz.f19 15 q2m q2r
theorem qbx:qk Tryz.prog qa uN.nimp (qu Tryz.prog uN.iter 19) (zd Tryz.f19 15) (qj q2m q2r (qg vt)):=
 gk uN qc q8 (alc zq (alc vE aln)) aln (b1 Tryz.func19) Tryz.func19
def q3t:Tmpl:={ t:=((.imm [.str,.str,.str])::qB 4 ((.ptr 0 0)::(.vec 1)::qB 11 ((.imm [.str,.str,.str])::(.int .i64)::(.int .i64)::qB 48 []))),h:=[.cells [(.int .i64)],.vec 3 [(.int .i64)]],pro:=[(6,3,[(.int .i64)])] }
def q3o:List Out:=[⟨(.exit 0),{ t:=(qB 5 ((.ptr 0 0)::(.vec 1)::qB 62 [])),h:=[.cells [(.int .i64)],.vec 3 [(.int .i64)]] }⟩]
noncomputable def q00:=qe [(62,q9 zV zT z7),(67,q9 wC wD qL)] [(19,Tryz.f19)] [((19,15),qj q2m q2r (qg vt))] 0
noncomputable def vN:=wX q00 19 Tryz.f19 9 q3t q3o
theorem qd1:qk Tryz.prog qa q00.nimp (qu Tryz.prog q00.iter 19) (zd Tryz.f19 9) (qj q3t q3o (qg vN)):=
 gk q00 qc q8 (alc zq (alc vE aln)) (alc (lk Tryz.func19 qbx) aln) (b1 Tryz.func19) Tryz.func19
noncomputable def qay:=qe [(62,q9 zV zT z7),(67,q9 wC wD qL)] [(19,Tryz.f19)] [((19,9),qj q3t q3o (qg vN))] 0
noncomputable def jU:=qp qay 19 Tryz.f19 true q50 q54
theorem qeK:zh Tryz.prog qa 19 (q9 q50 q54 jU):=sk qay qc q8 (alc zq (alc vE aln)) (alc (lk Tryz.func19 qd1) aln) (b1 Tryz.func19) Tryz.func19
def qgf:FIn:=⟨[(.agg [.str,.str]),(.agg [.str,.str])],[]⟩
def qgs:List FOut:=[⟨.str,[],none⟩]
noncomputable def qlM:=qe [(176,q9 q84 q8A yh),(177,q9 q4y q3Z jC)] [(134,Tryz.f134)] [] 0
noncomputable def q8C:=qp qlM 134 Tryz.f134 true qgf qgs
theorem qmv:zh Tryz.prog qa 134 (q9 qgf qgs q8C):=sk qlM qc q8 (alc q9Y (alc q6i aln)) aln (b1 Tryz.func134) Tryz.func134
def qbz:FIn:=⟨[(.agg [.str,.str,.str]),(.agg [.str,.str,.str])],[]⟩
def qbL:List FOut:=[⟨(.int .i64),[],none⟩]
noncomputable def qh4:=qe [(26,q9 q3E q3y wL),(55,q9 q04 q0e zm),(134,q9 qgf qgs q8C),(171,q9 q0d q0i qK),(183,q9 q9r q9G q1g)] [(145,Tryz.f145)] [] 0
noncomputable def q41:=qp qh4 145 Tryz.f145 true qbz qbL
theorem qjV:zh Tryz.prog qa 145 (q9 qbz qbL q41):=sk qh4 qc q8 (alc q4r (alc q0x (alc qmv (alc q0y (alc qe3 aln))))) aln (b1 Tryz.func145) Tryz.func145
def q2A:FIn:=⟨[(.agg [.str,.str,.str]),(.agg [.str,.str,.str])],[]⟩
def q2R:List FOut:=[⟨.bool,[],none⟩]
noncomputable def qfy:=qe [(133,q9 q78 q7E q0g),(145,q9 qbz qbL q41)] [(102,Tryz.f102)] [] 0
noncomputable def jL:=qp qfy 102 Tryz.f102 true q2A q2R
theorem q4Y:zh Tryz.prog qa 102 (q9 q2A q2R jL):=sk qfy qc q8 (alc qcX (alc qjV aln)) aln (b1 Tryz.func102) Tryz.func102
def qc9:FIn:=⟨[(.imm [.str,.str,.str])],[]⟩
def qbZ:List FOut:=[⟨(.imm [(.int .i64)]),[],none⟩]
def q6h:Tmpl:={ t:=((.imm [.str,.str,.str])::.any::.any::(.vec 0)::(.int .i64)::.bool::(.int .i64)::qB 52 []),h:=[.vec 3 [(.int .i64)]] }
def q6b:List Out:=[⟨(.exit 2),{ t:=((.imm [.str,.str,.str])::.any::.any::(.vec 0)::(.int .i64)::.bool::qB 53 []),h:=[.vec 3 [(.int .i64)]] }⟩]
noncomputable def q33:=qe [(102,q9 q2A q2R jL)] [(68,Tryz.f68)] [] 0
noncomputable def yP:=wX q33 68 Tryz.f68 11 q6h q6b
theorem qfU:qk Tryz.prog qa q33.nimp (qu Tryz.prog q33.iter 68) (zd Tryz.f68 11) (qj q6h q6b (qg yP)):=
 gk q33 qc q8 (alc q4Y aln) aln (b1 Tryz.func68) Tryz.func68
def q87:Tmpl:={ t:=((.imm [.str,.str,.str])::.any::.any::(.vec 0)::(.int .i64)::qB 54 []),h:=[.vec 3 [(.int .i64)]],pro:=[(3,3,[(.int .i64)])] }
def q8L:List Out:=[⟨(.exit 0),{ t:=(.any::.any::.any::(.vec 0)::qB 55 []),h:=[.vec 3 [(.int .i64)]] }⟩]
noncomputable def q3V:=qe [(102,q9 q2A q2R jL)] [(68,Tryz.f68)] [((68,11),qj q6h q6b (qg yP))] 0
noncomputable def kR:=wX q3V 68 Tryz.f68 4 q87 q8L
theorem qhn:qk Tryz.prog qa q3V.nimp (qu Tryz.prog q3V.iter 68) (zd Tryz.f68 4) (qj q87 q8L (qg kR)):=
 gk q3V qc q8 (alc q4Y aln) (alc (lk Tryz.func68 qfU) aln) (b1 Tryz.func68) Tryz.func68
noncomputable def qgQ:=qe [(102,q9 q2A q2R jL)] [(68,Tryz.f68)] [((68,4),qj q87 q8L (qg kR))] 0
noncomputable def q4i:=qp qgQ 68 Tryz.f68 true qc9 qbZ
theorem qjL:zh Tryz.prog qa 68 (q9 qc9 qbZ q4i):=sk qgQ qc q8 (alc q4Y aln) (alc (lk Tryz.func68 qhn) aln) (b1 Tryz.func68) Tryz.func68
def q5a:FIn:=⟨[(.imm [.str,.str,.str])],[]⟩
def q5l:List FOut:=[⟨(.tuple [(.imm [(.int .i64)]),(.int .i64)]),[],none⟩]
noncomputable def qb3:=qe [(65,q9 q9i q9y kV),(68,q9 qc9 qbZ q4i)] [(20,Tryz.f20)] [] 0
noncomputable def jW:=qp qb3 20 Tryz.f20 true q5a q5l
theorem qeO:zh Tryz.prog qa 20 (q9 q5a q5l jW):=sk qb3 qc q8 (alc qdj (alc qjL aln)) aln (b1 Tryz.func20) Tryz.func20
def q6J:FIn:=⟨[(.imm [(.int .i64)]),(.imm [(.int .i64)])],[]⟩
def q6a:List FOut:=[⟨.bool,[],none⟩]
def q44:Tmpl:={ t:=((.imm [(.int .i64)])::(.imm [(.int .i64)])::.any::.any::.any::(.int .i64)::qB 20 []),h:=[] }
def q3W:List Out:=[⟨(.exit 0),{ t:=(qB 26 []),h:=[] }⟩,⟨.ret,{ t:=(qB 4 (.bool::qB 21 [])),h:=[] }⟩]
noncomputable def q0Z:=qe [] [(21,Tryz.f21)] [] 0
noncomputable def yU:=wX q0Z 21 Tryz.f21 6 q44 q3W
theorem qe4:qk Tryz.prog qa q0Z.nimp (qu Tryz.prog q0Z.iter 21) (zd Tryz.f21 6) (qj q44 q3W (qg yU)):=
 gk q0Z qc q8 aln aln (b1 Tryz.func21) Tryz.func21
noncomputable def qcT:=qe [] [(21,Tryz.f21)] [((21,6),qj q44 q3W (qg yU))] 0
noncomputable def yF:=qp qcT 21 Tryz.f21 true q6J q6a
theorem qfI:zh Tryz.prog qa 21 (q9 q6J q6a yF):=sk qcT qc q8 aln (alc (lk Tryz.func21 qe4) aln) (b1 Tryz.func21) Tryz.func21
def kY:FIn:=⟨[(.imm [.str,.str,.str])],[]⟩
def q08:List FOut:=[⟨.bool,[],none⟩]
noncomputable def vl:=qe [(15,q9 qg7 qfV q8i),(16,q9 qc8 qbE q1K),(17,q9 yZ yT qZ),(18,q9 q1u q1l wN),(19,q9 q50 q54 jU),(20,q9 q5a q5l jW),(21,q9 q6J q6a yF)] [(3,Tryz.f3)] [] 0
noncomputable def v8:=qp vl 3 Tryz.f3 true kY q08
theorem q9d:zh Tryz.prog qa 3 (q9 kY q08 v8):=sk vl qc q8 (alc qmB (alc qjF (alc q3D (alc qbg (alc qeK (alc qeO (alc qfI aln))))))) aln (b1 Tryz.func3) Tryz.func3
end Go.Eng

