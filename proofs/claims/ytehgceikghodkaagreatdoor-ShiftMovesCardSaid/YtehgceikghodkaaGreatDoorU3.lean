/- Texts of the proof, merged: what the code computes, and plain laws. No statement stands here. -/
import Derived.Shelf.Strings.SlTrimAscii
import Derived.Shelf.Strings.Search2
import Derived.Shelf.Small.Strs
import Derived.Shelf.Strconv.Itoa3
import Derived.Shelf.Strconv.Atoi
import Derived.Shelf.Strings.BuilderK
import Derived.Shelf.LaysM
import Derived.Test.YtehgceikghodkaaGreatDoorProg
import Derived.WalkKit
import Derived.BigCall
import Derived.Deep.RegionWith
import Derived.Laws.Externs
import Derived.Lib.Builder
import Derived.Lib.AppendStr
import Derived.KernelRfl
import Derived.Test.YtehgceikghodkaaGreatDoorU2
namespace Go.Eng
open Go.Shelf Go.RowKit Go.Proofs Go.Sort
theorem qm3(w:World)(q:Nat)(os:Array Obj):Below w.heap.size w (grow (w.drewN q) os):=
 ⟨rfl,rfl,rfl,by simp[grow],fun i hi=>by
  show ((w.drewN q).heap++os)[i]?=_
  rw[Array.getElem?_append_left (by show i<w.heap.size;omega)]
  rfl⟩
theorem qsY(w:World)(e:TypeId)(s:ByteArray):Below w.heap.size w (Lib.bytesWorld w e s):=
 ⟨rfl,rfl,rfl,by rw[Lib.bytesWorld_size];omega,fun k hk=>Lib.bytesWorld_at_old w e s k (by omega)⟩
theorem HSim.grow{B:Base}{X:Ctx}(hs:HSim B X){w':World}(hb:Below X.w.heap.size X.w w'):HSim B { X with w:=w' }∧Ext X { X with w:=w' }:=by
 have hold:∀n (o:Obj),X.w.heap[n]?=some o→w'.heap[n]?=some o:=fun n o h=>(hb.block n (Array.getElem?_eq_some_iff.1 h).1).trans h
 have hx:Ext X { X with w:=w' }:=Move.of (fun _ h=>h) (fun a ha=>World.cell?_of_block (hb.block _ (hs.ltM _ ha))) (fun b b' hb' h=>by
  cases h
  exact⟨hb',rfl,fun _ _ h=>h,fun _ _ _ n _ c T fr h=>⟨c,T,fr,hold n _ h,rfl⟩⟩)
 refine⟨⟨fun b k hk=>?_,hs.inj,hs.notM,fun n hn=>Nat.lt_of_lt_of_le (hs.ltM n hn) hb.size,hs.M0,hs.newM,hb.os.trans hs.os,hb.tape.trans hs.tape,hb.output.trans hs.output,Nat.le_trans hs.size hb.size,
  fun n hn hni=>?_,hs.imps,hs.impc,hs.fresh,fun p hp=>?_⟩,hx⟩
 ·by_cases hd:k=.dead
  ·subst hd;trivial
  ·exact yt.ext hx rfl (fun n hn=>hb.block n (hs.lt hk hd hn)) (hs.blk b k hk)
 ·show w'.heap[n]?=_
  rw[hb.block n (Nat.lt_of_lt_of_le hn hs.size)]
  exact hs.frame n hn hni
 ·obtain⟨q1,q2,q3⟩:=hs.kept p hp
  exact⟨hold _ _ q1,q2,q3⟩
theorem qfZ{P:Program}{gl:List (Nat×AV)}{f:FuncId}{i:FIn}{o:FOut}{T:List PV→TR}(he:qju P f)(hi:i.h.all BP.isCells=true)
  (h:∀(B:Base) (X:Ctx) (ps:List PV) (j:Nat) (qs:List PV) (vargs:List Value),HSim B X→qbK gl X→X.h=(i.make ps).2→RepL X (i.make ps).1 vargs→ps.map PV.kind=i.kinds→(T ps).run=some (j,qs) →
   j=0∧qs.map PV.kind=o.kinds∧(o.make qs).2=(i.make ps).2∧Calls P f vargs.toArray X.w fun e w'=>∃v,e=.returned v∧Below X.w.heap.size X.w w'∧Rep X (o.make qs).1 v) :
  zb P gl f (q8 i [o] T):=by
 refine⟨he,fun B X args vargs r hs hen hgl ha hr=>?_⟩
 obtain⟨ps,j,qs,h1,h2,h3⟩:=quw hr
 unfold FIn.take at h1
 obtain⟨x,y,g1,g2,rfl⟩:=q3o h1
 obtain⟨a1,a2,a3⟩:=AP.takeL_ok (X:=X) _ _ x y g1
 obtain⟨b1,b2,b3,b4,b5⟩:=BP.takeL_ok (X:=X) _ _ y [] g2
 rw[List.append_nil] at b3 b5
 have himp:B.imps.length=X.h.length:=by rw[hen.imps];simp
 obtain⟨d1,d2⟩:=qc0 hs (h':=(BP.makeL i.h y).1) b3 (fun b k' hb=>by obtain⟨k0,e1,e2,_⟩:=b5 b k' hb;exact⟨k0,e1,e2⟩)
  (fun b hb k' hk'=>by
   obtain⟨k0,_,_,e3⟩:=b5 b k' hk'
   have hlt:b<i.h.length:=by omega
   exact e3 i.h[b] (List.getElem?_eq_getElem hlt) (List.all_eq_true.1 hi _ (List.getElem_mem hlt)))
 have hkd:(x++y).map PV.kind=i.kinds:=by simp[FIn.kinds,a2,b2]
 have hgl1:qbK gl ({ X with h:=(BP.makeL i.h y).1 }:Ctx):=fun z hz=>⟨(hgl z hz).1,(hgl z hz).2.move d2.M d2.w ((hgl z hz).2.1.ext d2)⟩
 have hmk:i.make (x++y)=((AP.makeL i.args (x++y)).1,(BP.makeL i.h y).1):=by simp only[FIn.make,a1]
 obtain⟨k1,k2,k3,k4⟩:=h B _ (x++y) j qs vargs d1 hgl1 (by rw[hmk]) (by rw[hmk];exact(a3 _ ha).ext d2) hkd h2
 subst k1
 refine k4.mono fun e w' ⟨v,e1,e2,e3⟩=>?_
 obtain⟨m1,m2⟩:=d1.grow e2
 have hre:=qr6 h2 [o] 0 o r (Nat.zero_le _) rfl k2 h3
 subst hre
 exact⟨v,_,e1,rfl,e3.ext m2,by rw[k3,hmk],m1,rfl⟩
theorem qwU{X:Ctx}{s:List UInt8}{vs:List Value}(h:RepL X [.str s] vs):vs=[.string ⟨s.toArray⟩]:=by
 cases h with
 | cons h t=>cases h;cases t;rfl
theorem qwM{X:Ctx}{k:IntKind}{n:Int}{vs:List Value}(h:RepL X [.int k n] vs):vs=[.int k n]:=by
 cases h with
 | cons h t=>cases h;cases t;rfl
theorem qp1{X:Ctx}{s t:List UInt8}{vs:List Value}(h:RepL X [.str s,.str t] vs):vs=[.string ⟨s.toArray⟩,.string ⟨t.toArray⟩]:=by
 cases h with
 | cons h t=>cases h;rw[qwU t]
theorem qCz{ps:List PV}(h:ps.map PV.kind=[.s]):∃s,ps=[.s s]:=by
 match ps,h with
 | [.s s],_=>exact⟨s,rfl⟩
theorem qCZ{ps:List PV}(h:ps.map PV.kind=[.i]):∃s,ps=[.i s]:=by
 match ps,h with
 | [.i s],_=>exact⟨s,rfl⟩
theorem qrJ{ps:List PV}(h:ps.map PV.kind=[.s,.s]):∃s t,ps=[.s s,.s t]:=by
 match ps,h with
 | [.s s,.s t],_=>exact⟨s,t,rfl⟩
def qtW:List PV→TR
 | [.s s,.s [c]]=>.leaf (0,[.i (Lib.indexByte s c)])
 | _=>.fail
theorem qwc{P:Program}{ρ:Ren}(L:Lays.n219 P ρ)(he:qju P (ρ.f 219)){gl:List (Nat×AV)} :
  zb P gl (ρ.f 219) (q8 { args:=[.str,.str],h:=[] } [{ res:=.int .i64,h:=[] }] qtW):=
 qfZ he rfl fun B X ps j qs vargs hs hg hh ha hk hT=>by
  obtain⟨s,t,rfl⟩:=qrJ hk
  unfold qtW at hT
  split at hT
  ·rename_i s' c hps
   simp only[List.cons.injEq,PV.s.injEq,and_true] at hps
   obtain⟨rfl,rfl⟩:=hps
   cases hT
   have:=qp1 ha
   subst this
   refine⟨rfl,rfl,rfl,(Any.stringslite_Index_one L ⟨s.toArray⟩ c X.w).mono fun e w' ⟨h1,h2⟩=>?_⟩
   subst h2
   exact⟨_,h1,Below.refl _ _,.int _ _⟩
  ·cases hT
def qmF:List PV→TR
 | [.s s,.s t]=>.leaf (0,[.i (Lib.compareBytes s t)])
 | _=>.fail
theorem qsy{P:Program}{ρ:Ren}(L:Lays.n106 P ρ)(he:qju P (ρ.f 106)){gl:List (Nat×AV)} :
  zb P gl (ρ.f 106) (q8 { args:=[.str,.str],h:=[] } [{ res:=.int .i64,h:=[] }] qmF):=
 qfZ he rfl fun B X ps j qs vargs hs hg hh ha hk hT=>by
  obtain⟨s,t,rfl⟩:=qrJ hk
  cases hT
  have:=qp1 ha
  subst this
  refine⟨rfl,rfl,rfl,(Any.strings_Compare L ⟨s.toArray⟩ ⟨t.toArray⟩ X.w).mono fun e w' ⟨h1,h2⟩=>?_⟩
  subst h2
  exact⟨_,h1,Below.refl _ _,.int _ _⟩
def qyB:List PV→TR
 | [.s s,.s t]=>if s.length≤9223372036854775807∧t.length<4294967281∧t.all (fun b=>decide (b.toNat<128))=true then .leaf (0,[.s (Lib.trimS s t)]) else .fail
 | _=>.fail
theorem qxq{P:Program}{ρ:Ren}(L:Lays.n160 P ρ)(he:qju P (ρ.f 160))(h116:(P.info? (ρ.t 116)).map (fun i=>(i.zero,i.size))=some (some (.agg (Array.replicate 256 (.bool false))),256)){gl:List (Nat×AV)} :
  zb P gl (ρ.f 160) (q8 { args:=[.str,.str],h:=[] } [{ res:=.str,h:=[] }] qyB):=
 qfZ he rfl fun B X ps j qs vargs hs hg hh ha hk hT=>by
  obtain⟨s,t,rfl⟩:=qrJ hk
  simp only[qyB] at hT
  split at hT
  ·rename_i hc
   cases hT
   have:=qp1 ha
   subst this
   refine⟨rfl,rfl,rfl,(Any.strings_Trim_laid L h116 ⟨s.toArray⟩ ⟨t.toArray⟩ X.w (by simpa[ByteArray.size] using hc.1) (by simpa[ByteArray.size] using hc.2.1) (fun j b hj=>?_)).mono fun e w' ⟨h1,h2⟩=>⟨_,h1,h2,.str _⟩⟩
   have h3:=hc.2.2
   rw[List.all_eq_true] at h3
   simpa using h3 b (List.mem_of_getElem? hj)
  ·cases hT
def qBY:R:=[Lib.pow10Tab.map U.i]
def qzT:List PV→TR
 | [.i n]=>if -9223372036854775808≤n∧n≤9223372036854775807 then .leaf (0,[.s (Lib.itoa n)]) else .fail
 | _=>.fail
theorem qoB{P:Program}{X:Ctx}{g:Nat}{k:IntKind}{zs:List Int}{name:String}(hn:P.globalNamed name=some g)(hz:zs≠[])
  (h:qBi X (g,.eptr (zs.map fun _=>.int k) [zs.map U.i] 0 0)):Lib.TabIs P X.w name k zs:=by
 obtain⟨h1,h2,h3⟩:=h
 simp only at h1 h2 h3
 have hcell:∀j (hj:j<zs.length),X.w.cell? ⟨g,j,none⟩=some (.int k zs[j]):=by
  intro j hj
  generalize hv:(Value.pointer (some ⟨g,0,none⟩))=vv at h1
  cases h1 with
  | eptr _ _ _ _ a hsp h0 hl hr=>
   simp only[Value.pointer.injEq,Option.some.injEq,Addr.mk.injEq] at hv
   obtain⟨v1,v2,_⟩:=hv
   obtain⟨hM,v,e1,e2⟩:=hr 0 j (by simpa using hj) (by simp)
   have ho:a.off=0:=by omega
   have e1':X.w.cell? ⟨g,j,none⟩=some v:=by
    rw[Nat.zero_mul,Nat.add_zero,ho,Nat.zero_add,←v1] at e1
    exact e1
   rw[e1']
   have e2':RepU X.w X.M (.int k) (U.i zs[j]) v:=by
    simpa[wX,List.getD_eq_getElem?_getD,hj] using e2
   cases e2'
   rfl
 unfold Lib.TabIs World.var?
 rw[hn]
 simp only[Option.bind_some]
 have h0:=hcell 0 (List.length_pos_iff.2 hz)
 unfold World.cell? at h0
 simp only at h0
 split at h0
 ·rename_i cs T fr hheap
  rw[hheap]
  simp only
  congr 1
  have hsz:cs.size≤zs.length:=by
   have h4:X.w.cell? ⟨g,zs.length,none⟩=none:=by
    simpa[AV.span] using h3
   unfold World.cell? at h4
   simp only[hheap] at h4
   simpa using h4
  apply Array.ext
  ·simp
   rcases Nat.lt_or_ge cs.size zs.length with hlt|hge
   ·have:=hcell cs.size hlt
    unfold World.cell? at this
    simp[hheap] at this
   ·omega
  ·intro j hj hj2
   have hjz:j<zs.length:=by omega
   have:=hcell j hjz
   unfold World.cell? at this
   simp only[hheap] at this
   simp[hj] at this
   simp[this]
 ·cases h0
theorem qxR {P:Program} {ρ:Ren} (L:LaysM.n171 P ρ) (he:qju P (ρ.f 171)) {gl:List (Nat×AV)} {g:Nat} (hn:P.globalNamed "internal/strconv.uint64pow10" = some g)
  (hg:(g,AV.eptr (Lib.pow10Tab.map fun _=>.int .u64) qBY 0 0)∈gl) :
  zb P gl (ρ.f 171) (q8 { args:=[.int .i64],h:=[] } [{ res:=.str,h:=[] }] qzT):=
 qfZ he rfl fun B X ps j qs vargs hs hgl hh ha hk hT=>by
  obtain⟨n,rfl⟩:=qCZ hk
  simp only[qzT] at hT
  split at hT
  ·rename_i hc
   cases hT
   have:=qwM ha
   subst this
   refine⟨rfl,rfl,rfl,(Any.strconv_Itoa L n hc.1 hc.2 X.w (qoB hn (by decide) (hgl _ hg).2)).mono fun e w' ⟨h1,k,os,h2⟩=>⟨_,h1,?_,.str _⟩⟩
   subst h2
   exact qm3 _ _ _
  ·cases hT
def qzG:List PV→TR
 | [.s s]=>if s.length≤18 then (match Lib.atoi s with|some n=>.leaf (0,[.i n])|none=>.fail) else .fail
 | _=>.fail
theorem qxM{P:Program}{ρ:Ren}(L:Lays.n172 P ρ)(he:qju P (ρ.f 172)){gl:List (Nat×AV)} :
  zb P gl (ρ.f 172) (q8 { args:=[.str],h:=[] } [{ res:=.tuple [.int .i64,.any],h:=[] }] qzG):=
 qfZ he rfl fun B X ps j qs vargs hs hg hh ha hk hT=>by
  obtain⟨s,rfl⟩:=qCz hk
  simp only[qzG] at hT
  split at hT
  ·rename_i hc
   split at hT
   ·rename_i n hn
    cases hT
    have:=qwU ha
    subst this
    refine⟨rfl,rfl,rfl,(Any.strconv_Atoi L ⟨s.toArray⟩ n (by simpa[ByteArray.size] using hc) (by simpa using hn) X.w).mono fun e w' ⟨h1,t,h2⟩=>⟨_,h1,?_,.tuple _ _ (.cons (.int _ _) (.cons (.undef _) .nil))⟩⟩
    subst h2
    exact qsY _ _ _
   ·cases hT
  ·cases hT
def qyW(s:List UInt8):List UInt8:=qbC (qaA [48,48,48,48,48,48,48,48,48] (qm s) 9) s
def qiG(w:R):Nat→List UInt8
 | 0=>[]
 | i+1=>qyW (Lib.itoa (cI w i 0))++qiG w i
def qAk(b:Bool)(n:Int)(w:R):List UInt8:=if n=0 then [48] else (if b then [45] else [])++Lib.itoa (cI w (n-1) 0)++qiG w (n-1).toNat
def qrv(n:Int)(w:R):Bool:=decide (0≤n)&&decide (n≤232)&&(List.range n.toNat).all fun i=>decide (0≤cI w i 0∧cI w i 0<1000000000)
def qAC:List PV→TR
 | [.b b,.i n,.r w]=>if qrv n w then .leaf (0,[.s (qAk b n w),.b b,.i n,.r w]) else .fail
 | _=>.fail
end Go.Eng

namespace Go.Proofs
open Go.Shelf
def Tryz.lays219_ren:Go.Shelf.Ren:=⟨fun|219=>217|217=>237|225=>238|224=>239|267=>240|266=>262|314=>263|n=>n,fun|9=>9|3=>3|4=>4|5=>5|46=>272|146=>289|51=>288|n=>n,fun|1=>1|n=>n⟩
theorem Tryz.lays219:Go.Proofs.Lays.n219 Tryz.prog Tryz.lays219_ren:={
 mixed:=by kernel_rfl
 f217:=Tryz.func237.trans (congrArg some (by kernel_rfl))
 f219:=Tryz.func217.trans (congrArg some (by kernel_rfl))
 f224:=Tryz.func239.trans (congrArg some (by kernel_rfl))
 f225:=Tryz.func238.trans (congrArg some (by kernel_rfl))
 f266:=Tryz.func262.trans (congrArg some (by kernel_rfl))
 f267:=Tryz.func240.trans (congrArg some (by kernel_rfl))
 f314:=Tryz.func263.trans (congrArg some (by kernel_rfl))
 t3:=Tryz.underlying3
 a3:=Tryz.isAgg3
 z3:=Tryz.sizeOf3
 v3:=Tryz.zeroValue3
 t4:=Tryz.underlying4
 a4:=Tryz.isAgg4
 z4:=Tryz.sizeOf4
 v4:=Tryz.zeroValue4
 t5:=Tryz.underlying5
 a5:=Tryz.isAgg5
 z5:=Tryz.sizeOf5
 v5:=Tryz.zeroValue5
 t9:=Tryz.underlying9
 a9:=Tryz.isAgg9
 z9:=Tryz.sizeOf9
 v9:=Tryz.zeroValue9
 t46:=Tryz.underlying272
 a46:=Tryz.isAgg272
 z46:=Tryz.sizeOf272
 v46:=Tryz.zeroValue272
 t51:=Tryz.underlying288
 a51:=Tryz.isAgg288
 z51:=Tryz.sizeOf288
 v51:=Tryz.zeroValue288
 t146:=Tryz.underlying289
 a146:=Tryz.isAgg289
 z146:=Tryz.sizeOf289
 v146:=Tryz.zeroValue289
 g1:=by kernel_rfl }
def Tryz.lays106_ren:Go.Shelf.Ren:=⟨fun|106=>193|213=>223|265=>244|n=>n,fun|9=>9|3=>3|n=>n,fun|n=>n⟩
theorem Tryz.lays106:Go.Proofs.Lays.n106 Tryz.prog Tryz.lays106_ren:={
 mixed:=by kernel_rfl
 f106:=Tryz.func193.trans (congrArg some (by kernel_rfl))
 f213:=Tryz.func223.trans (congrArg some (by kernel_rfl))
 f265:=Tryz.func244.trans (congrArg some (by kernel_rfl))
 t3:=Tryz.underlying3
 a3:=Tryz.isAgg3
 z3:=Tryz.sizeOf3
 v3:=Tryz.zeroValue3
 t9:=Tryz.underlying9
 a9:=Tryz.isAgg9
 z9:=Tryz.sizeOf9
 v9:=Tryz.zeroValue9 }
def Tryz.lays160_ren:Go.Shelf.Ren:=⟨fun|160=>154|232=>187|231=>186|227=>188|234=>190|233=>189|236=>192|235=>191|228=>219|271=>222|151=>221|197=>220|120=>243|152=>242|260=>241|137=>264|119=>265|224=>239|225=>238|217=>237|266=>262|n=>n,fun|9=>9|4=>4|3=>3|5=>5|117=>232|116=>231|0=>0|124=>235|21=>21|105=>260|46=>272|119=>291|139=>294|138=>293|n=>n,fun|3=>2|4=>3|n=>n⟩
theorem Tryz.lays160:Go.Proofs.Lays.n160 Tryz.prog Tryz.lays160_ren:={
 mixed:=by kernel_rfl
 f119:=Tryz.func265.trans (congrArg some (by kernel_rfl))
 f120:=Tryz.func243.trans (congrArg some (by kernel_rfl))
 f137:=Tryz.func264.trans (congrArg some (by kernel_rfl))
 f151:=Tryz.func221.trans (congrArg some (by kernel_rfl))
 f152:=Tryz.func242.trans (congrArg some (by kernel_rfl))
 f160:=Tryz.func154.trans (congrArg some (by kernel_rfl))
 f197:=Tryz.func220.trans (congrArg some (by kernel_rfl))
 f217:=Tryz.func237.trans (congrArg some (by kernel_rfl))
 f224:=Tryz.func239.trans (congrArg some (by kernel_rfl))
 f225:=Tryz.func238.trans (congrArg some (by kernel_rfl))
 f227:=Tryz.func188.trans (congrArg some (by kernel_rfl))
 f228:=Tryz.func219.trans (congrArg some (by kernel_rfl))
 f231:=Tryz.func186.trans (congrArg some (by kernel_rfl))
 f232:=Tryz.func187.trans (congrArg some (by kernel_rfl))
 f233:=Tryz.func189.trans (congrArg some (by kernel_rfl))
 f234:=Tryz.func190.trans (congrArg some (by kernel_rfl))
 f235:=Tryz.func191.trans (congrArg some (by kernel_rfl))
 f236:=Tryz.func192.trans (congrArg some (by kernel_rfl))
 f260:=Tryz.func241.trans (congrArg some (by kernel_rfl))
 f266:=Tryz.func262.trans (congrArg some (by kernel_rfl))
 f271:=Tryz.func222.trans (congrArg some (by kernel_rfl))
 t0:=Tryz.underlying0
 a0:=Tryz.isAgg0
 z0:=Tryz.sizeOf0
 v0:=Tryz.zeroValue0
 t3:=Tryz.underlying3
 a3:=Tryz.isAgg3
 z3:=Tryz.sizeOf3
 v3:=Tryz.zeroValue3
 t4:=Tryz.underlying4
 a4:=Tryz.isAgg4
 z4:=Tryz.sizeOf4
 v4:=Tryz.zeroValue4
 t5:=Tryz.underlying5
 a5:=Tryz.isAgg5
 z5:=Tryz.sizeOf5
 v5:=Tryz.zeroValue5
 t9:=Tryz.underlying9
 a9:=Tryz.isAgg9
 z9:=Tryz.sizeOf9
 v9:=Tryz.zeroValue9
 t21:=Tryz.underlying21
 a21:=Tryz.isAgg21
 z21:=Tryz.sizeOf21
 v21:=Tryz.zeroValue21
 t46:=Tryz.underlying272
 a46:=Tryz.isAgg272
 z46:=Tryz.sizeOf272
 v46:=Tryz.zeroValue272
 t105:=Tryz.underlying260
 a105:=Tryz.isAgg260
 z105:=Tryz.sizeOf260
 v105:=Tryz.zeroValue260
 t116:=Tryz.underlying231
 a116:=Tryz.isAgg231
 z116:=Tryz.sizeOf231
 t117:=Tryz.underlying232
 a117:=Tryz.isAgg232
 z117:=Tryz.sizeOf232
 v117:=Tryz.zeroValue232
 t119:=Tryz.underlying291
 a119:=Tryz.isAgg291
 z119:=Tryz.sizeOf291
 t124:=Tryz.underlying235
 a124:=Tryz.isAgg235
 z124:=Tryz.sizeOf235
 v124:=Tryz.zeroValue235
 t138:=Tryz.underlying293
 a138:=Tryz.isAgg293
 z138:=Tryz.sizeOf293
 v138:=Tryz.zeroValue293
 t139:=Tryz.underlying294
 a139:=Tryz.isAgg294
 z139:=Tryz.sizeOf294
 v139:=Tryz.zeroValue294
 g3:=by kernel_rfl
 g4:=by kernel_rfl }
def Tryz.lays172_ren:Go.Shelf.Ren:=⟨fun|172=>194|244=>224|245=>225|247=>245|279=>246|280=>247|281=>248|282=>249|287=>266|316=>267|171=>196|205=>268|321=>275|322=>276|243=>226|246=>250|283=>269|284=>270|285=>271|286=>272|129=>278|317=>277|318=>279|319=>280|320=>281|337=>282|338=>283|n=>n,fun|9=>9|3=>3|75=>237|76=>238|4=>4|5=>5|167=>274|37=>162|0=>0|85=>275|2=>2|168=>277|53=>296|175=>297|46=>272|210=>300|127=>265|145=>314|143=>312|21=>21|171=>302|173=>305|212=>316|51=>288|20=>20|213=>317|232=>320|233=>321|80=>249|n=>n,fun|15=>4|16=>5|17=>6|18=>7|19=>8|n=>n⟩
theorem Tryz.lays172:Go.Proofs.Lays.n172 Tryz.prog Tryz.lays172_ren:={
 mixed:=by kernel_rfl
 f129:=Tryz.func278.trans (congrArg some (by kernel_rfl))
 f171:=Tryz.func196.trans (congrArg some (by kernel_rfl))
 f172:=Tryz.func194.trans (congrArg some (by kernel_rfl))
 f205:=Tryz.func268.trans (congrArg some (by kernel_rfl))
 f243:=Tryz.func226.trans (congrArg some (by kernel_rfl))
 f244:=Tryz.func224.trans (congrArg some (by kernel_rfl))
 f245:=Tryz.func225.trans (congrArg some (by kernel_rfl))
 f246:=Tryz.func250.trans (congrArg some (by kernel_rfl))
 f247:=Tryz.func245.trans (congrArg some (by kernel_rfl))
 f279:=Tryz.func246.trans (congrArg some (by kernel_rfl))
 f280:=Tryz.func247.trans (congrArg some (by kernel_rfl))
 f281:=Tryz.func248.trans (congrArg some (by kernel_rfl))
 f282:=Tryz.func249.trans (congrArg some (by kernel_rfl))
 f283:=Tryz.func269.trans (congrArg some (by kernel_rfl))
 f284:=Tryz.func270.trans (congrArg some (by kernel_rfl))
 f285:=Tryz.func271.trans (congrArg some (by kernel_rfl))
 f286:=Tryz.func272.trans (congrArg some (by kernel_rfl))
 f287:=Tryz.func266.trans (congrArg some (by kernel_rfl))
 f316:=Tryz.func267.trans (congrArg some (by kernel_rfl))
 f317:=Tryz.func277.trans (congrArg some (by kernel_rfl))
 f318:=Tryz.func279.trans (congrArg some (by kernel_rfl))
 f319:=Tryz.func280.trans (congrArg some (by kernel_rfl))
 f320:=Tryz.func281.trans (congrArg some (by kernel_rfl))
 f321:=Tryz.func275.trans (congrArg some (by kernel_rfl))
 f322:=Tryz.func276.trans (congrArg some (by kernel_rfl))
 f337:=Tryz.func282.trans (congrArg some (by kernel_rfl))
 f338:=Tryz.func283.trans (congrArg some (by kernel_rfl))
 t0:=Tryz.underlying0
 a0:=Tryz.isAgg0
 z0:=Tryz.sizeOf0
 v0:=Tryz.zeroValue0
 t2:=Tryz.underlying2
 a2:=Tryz.isAgg2
 z2:=Tryz.sizeOf2
 v2:=Tryz.zeroValue2
 t3:=Tryz.underlying3
 a3:=Tryz.isAgg3
 z3:=Tryz.sizeOf3
 v3:=Tryz.zeroValue3
 t4:=Tryz.underlying4
 a4:=Tryz.isAgg4
 z4:=Tryz.sizeOf4
 v4:=Tryz.zeroValue4
 t5:=Tryz.underlying5
 a5:=Tryz.isAgg5
 z5:=Tryz.sizeOf5
 v5:=Tryz.zeroValue5
 t9:=Tryz.underlying9
 a9:=Tryz.isAgg9
 z9:=Tryz.sizeOf9
 v9:=Tryz.zeroValue9
 t20:=Tryz.underlying20
 a20:=Tryz.isAgg20
 z20:=Tryz.sizeOf20
 v20:=Tryz.zeroValue20
 t21:=Tryz.underlying21
 a21:=Tryz.isAgg21
 z21:=Tryz.sizeOf21
 v21:=Tryz.zeroValue21
 t37:=Tryz.underlying162
 a37:=Tryz.isAgg162
 z37:=Tryz.sizeOf162
 v37:=Tryz.zeroValue162
 t46:=Tryz.underlying272
 a46:=Tryz.isAgg272
 z46:=Tryz.sizeOf272
 v46:=Tryz.zeroValue272
 t51:=Tryz.underlying288
 a51:=Tryz.isAgg288
 z51:=Tryz.sizeOf288
 v51:=Tryz.zeroValue288
 t53:=Tryz.underlying296
 a53:=Tryz.isAgg296
 z53:=Tryz.sizeOf296
 v53:=Tryz.zeroValue296
 t75:=Tryz.underlying237
 a75:=Tryz.isAgg237
 z75:=Tryz.sizeOf237
 v75:=Tryz.zeroValue237
 t76:=Tryz.underlying238
 a76:=Tryz.isAgg238
 z76:=Tryz.sizeOf238
 v76:=Tryz.zeroValue238
 t85:=Tryz.underlying275
 a85:=Tryz.isAgg275
 z85:=Tryz.sizeOf275
 v85:=Tryz.zeroValue275
 t127:=Tryz.underlying265
 a127:=Tryz.isAgg265
 z127:=Tryz.sizeOf265
 v127:=Tryz.zeroValue265
 t143:=Tryz.underlying312
 a143:=Tryz.isAgg312
 z143:=Tryz.sizeOf312
 v143:=Tryz.zeroValue312
 t145:=Tryz.underlying314
 a145:=Tryz.isAgg314
 z145:=Tryz.sizeOf314
 v145:=Tryz.zeroValue314
 t167:=Tryz.underlying274
 a167:=Tryz.isAgg274
 z167:=Tryz.sizeOf274
 v167:=Tryz.zeroValue274
 t168:=Tryz.underlying277
 a168:=Tryz.isAgg277
 z168:=Tryz.sizeOf277
 v168:=Tryz.zeroValue277
 t171:=Tryz.underlying302
 a171:=Tryz.isAgg302
 z171:=Tryz.sizeOf302
 v171:=Tryz.zeroValue302
 t173:=Tryz.underlying305
 a173:=Tryz.isAgg305
 z173:=Tryz.sizeOf305
 v173:=Tryz.zeroValue305
 t175:=Tryz.underlying297
 a175:=Tryz.isAgg297
 z175:=Tryz.sizeOf297
 v175:=Tryz.zeroValue297
 t210:=Tryz.underlying300
 a210:=Tryz.isAgg300
 z210:=Tryz.sizeOf300
 v210:=Tryz.zeroValue300
 t212:=Tryz.underlying316
 a212:=Tryz.isAgg316
 z212:=Tryz.sizeOf316
 v212:=Tryz.zeroValue316
 t213:=Tryz.underlying317
 a213:=Tryz.isAgg317
 z213:=Tryz.sizeOf317
 t232:=Tryz.underlying320
 a232:=Tryz.isAgg320
 z232:=Tryz.sizeOf320
 v232:=Tryz.zeroValue320
 t233:=Tryz.underlying321
 a233:=Tryz.isAgg321
 z233:=Tryz.sizeOf321
 v233:=Tryz.zeroValue321
 g15:=by kernel_rfl
 g16:=by kernel_rfl
 g17:=by kernel_rfl
 g18:=by kernel_rfl
 g19:=by kernel_rfl }
def Tryz.lays169_ren:Go.Shelf.Ren:=⟨fun|169=>202|n=>n,fun|70=>245|9=>9|0=>0|72=>247|37=>162|127=>265|3=>3|5=>5|n=>n,fun|n=>n⟩
theorem Tryz.lays169:Go.Proofs.Lays.n169 Tryz.prog Tryz.lays169_ren:={
 mixed:=by kernel_rfl
 f169:=Tryz.func202.trans (congrArg some (by kernel_rfl))
 t0:=Tryz.underlying0
 a0:=Tryz.isAgg0
 z0:=Tryz.sizeOf0
 v0:=Tryz.zeroValue0
 t3:=Tryz.underlying3
 a3:=Tryz.isAgg3
 z3:=Tryz.sizeOf3
 v3:=Tryz.zeroValue3
 t9:=Tryz.underlying9
 a9:=Tryz.isAgg9
 z9:=Tryz.sizeOf9
 v9:=Tryz.zeroValue9
 t37:=Tryz.underlying162
 a37:=Tryz.isAgg162
 z37:=Tryz.sizeOf162
 v37:=Tryz.zeroValue162
 t70:=Tryz.underlying245
 a70:=Tryz.isAgg245
 z70:=Tryz.sizeOf245
 v70:=Tryz.zeroValue245
 t72:=Tryz.underlying247
 a72:=Tryz.isAgg247
 z72:=Tryz.sizeOf247
 v72:=Tryz.zeroValue247
 t127:=Tryz.underlying265
 a127:=Tryz.isAgg265
 z127:=Tryz.sizeOf265
 v127:=Tryz.zeroValue265 }
def Tryz.laysM171_ren:Go.Shelf.Ren:=⟨fun|171=>196|243=>226|246=>250|283=>269|284=>270|285=>271|286=>272|129=>278|317=>277|318=>279|319=>280|320=>281|337=>282|338=>283|n=>n,fun|3=>3|9=>9|2=>2|4=>4|171=>302|0=>0|53=>296|37=>162|5=>5|173=>305|212=>316|51=>288|20=>20|213=>317|46=>272|232=>320|233=>321|n=>n,fun|17=>6|18=>7|19=>8|n=>n⟩
theorem Tryz.laysM171:Go.Proofs.LaysM.n171 Tryz.prog Tryz.laysM171_ren:={
 mixed:=by kernel_rfl
 f129:=Tryz.func278.trans (congrArg some (by kernel_rfl))
 f171:=Tryz.func196.trans (congrArg some (by kernel_rfl))
 f243:=Tryz.func226.trans (congrArg some (by kernel_rfl))
 f246:=Tryz.func250.trans (congrArg some (by kernel_rfl))
 f283:=Tryz.func269.trans (congrArg some (by kernel_rfl))
 f284:=Tryz.func270.trans (congrArg some (by kernel_rfl))
 f285:=Tryz.func271.trans (congrArg some (by kernel_rfl))
 f286:=Tryz.func272.trans (congrArg some (by kernel_rfl))
 f317:=Tryz.func277.trans (congrArg some (by kernel_rfl))
 f318:=Tryz.func279.trans (congrArg some (by kernel_rfl))
 f319:=Tryz.func280.trans (congrArg some (by kernel_rfl))
 f320:=Tryz.func281.trans (congrArg some (by kernel_rfl))
 f337:=Tryz.func282.trans (congrArg some (by kernel_rfl))
 f338:=Tryz.func283.trans (congrArg some (by kernel_rfl))
 t0:=Tryz.underlying0
 a0:=Tryz.isAgg0
 z0:=Tryz.sizeOf0
 v0:=Tryz.zeroValue0
 t2:=Tryz.underlying2
 a2:=Tryz.isAgg2
 z2:=Tryz.sizeOf2
 v2:=Tryz.zeroValue2
 t3:=Tryz.underlying3
 a3:=Tryz.isAgg3
 z3:=Tryz.sizeOf3
 v3:=Tryz.zeroValue3
 t4:=Tryz.underlying4
 a4:=Tryz.isAgg4
 z4:=Tryz.sizeOf4
 v4:=Tryz.zeroValue4
 t5:=Tryz.underlying5
 a5:=Tryz.isAgg5
 z5:=Tryz.sizeOf5
 v5:=Tryz.zeroValue5
 t9:=Tryz.underlying9
 a9:=Tryz.isAgg9
 z9:=Tryz.sizeOf9
 v9:=Tryz.zeroValue9
 t20:=Tryz.underlying20
 a20:=Tryz.isAgg20
 z20:=Tryz.sizeOf20
 v20:=Tryz.zeroValue20
 t37:=Tryz.underlying162
 a37:=Tryz.isAgg162
 z37:=Tryz.sizeOf162
 v37:=Tryz.zeroValue162
 t46:=Tryz.underlying272
 a46:=Tryz.isAgg272
 z46:=Tryz.sizeOf272
 v46:=Tryz.zeroValue272
 t51:=Tryz.underlying288
 a51:=Tryz.isAgg288
 z51:=Tryz.sizeOf288
 v51:=Tryz.zeroValue288
 t53:=Tryz.underlying296
 a53:=Tryz.isAgg296
 z53:=Tryz.sizeOf296
 v53:=Tryz.zeroValue296
 t171:=Tryz.underlying302
 a171:=Tryz.isAgg302
 z171:=Tryz.sizeOf302
 v171:=Tryz.zeroValue302
 t173:=Tryz.underlying305
 a173:=Tryz.isAgg305
 z173:=Tryz.sizeOf305
 v173:=Tryz.zeroValue305
 t212:=Tryz.underlying316
 a212:=Tryz.isAgg316
 z212:=Tryz.sizeOf316
 v212:=Tryz.zeroValue316
 t213:=Tryz.underlying317
 a213:=Tryz.isAgg317
 z213:=Tryz.sizeOf317
 t232:=Tryz.underlying320
 a232:=Tryz.isAgg320
 z232:=Tryz.sizeOf320
 v232:=Tryz.zeroValue320
 t233:=Tryz.underlying321
 a233:=Tryz.isAgg321
 z233:=Tryz.sizeOf321
 v233:=Tryz.zeroValue321
 g17:=by kernel_rfl
 g18:=by kernel_rfl
 g19:=by kernel_rfl
 i0:=by kernel_rfl
 i2:=by kernel_rfl
 i3:=by kernel_rfl
 i4:=by kernel_rfl
 i5:=by kernel_rfl
 i9:=by kernel_rfl
 i20:=by kernel_rfl
 i37:=by kernel_rfl
 i46:=by kernel_rfl
 i51:=by kernel_rfl
 i53:=by kernel_rfl
 i171:=by kernel_rfl
 i173:=by kernel_rfl
 i212:=by kernel_rfl
 i232:=by kernel_rfl
 i233:=by kernel_rfl
 m17:=by kernel_rfl
 m18:=by kernel_rfl
 m19:=by kernel_rfl }
end Go.Proofs

namespace Go.Eng
open Go.Shelf Go.RowKit Go.Proofs
set_option maxHeartbeats 2000000 in
set_option maxRecDepth 100000 in
theorem qBc(b:Nat)(w:World)(h0:w.cell? ⟨b,0,none⟩=some (.pointer (some ⟨b,0,none⟩))) :
  Calls Tryz.prog 228 #[.pointer (some ⟨b,0,none⟩)] w fun e w'=>e=.returned (.tuple #[])∧w'=w:=by
 obtain⟨j,hj,_⟩:=Option.map_eq_some_iff.1 (show (Tryz.prog.info? 247).map (·.size)=some 2 by kernel_rfl)
 go_enter Tryz.func228,Tryz.ntmps228
 go_wp2
 rw[Lib.run_neq_ptr_same w ⟨b,0,none⟩ Tryz.underlying245 hj]
 go_wp2
 go_end0
 exact⟨rfl,rfl⟩
set_option maxHeartbeats 2000000 in
set_option maxRecDepth 100000 in
theorem qAq(b:Nat)(w:World)(h0:w.cell? ⟨b,0,none⟩=some (.pointer none))(hsh:w.shape? b=some (247,2))(hfz:w.frozen? ⟨b,0,none⟩=false) :
  Calls Tryz.prog 228 #[.pointer (some ⟨b,0,none⟩)] w fun e w'=>e=.returned (.tuple #[])∧w'=w.setCell ⟨b,0,none⟩ (.pointer (some ⟨b,0,none⟩)):=by
 obtain⟨j,hj,hjs⟩:=Option.map_eq_some_iff.1 (show (Tryz.prog.info? 247).map (·.size)=some 2 by kernel_rfl)
 go_enter Tryz.func228,Tryz.ntmps228
 go_wp2
 rw[Lib.run_to_unsafe w ⟨b,0,none⟩ Tryz.underlying245 Tryz.underlying281 hj (by rw[hjs];decide) hsh (Nat.zero_lt_succ 1)]
 simp only[Result.andThen]
 rw[Oper.upon_value]
 go_wp2
 rw[run_callFunc_extern Tryz.func251 (by kernel_rfl) (by kernel_rfl) (by kernel_rfl) (e:=Extern.AbiNoEscape.same) (by kernel_rfl)]
 rw[Lib.run_noEscape]
 simp only[Result.andThen]
 rw[Oper.upon_value]
 go_wp2
 rw[Lib.run_from_unsafe w ⟨b,0,none⟩ Tryz.underlying281 Tryz.underlying245 hj hsh (by kernel_rfl)]
 simp only[Result.andThen]
 rw[Oper.upon_value]
 go_wp2
 go_end0
 exact⟨rfl,rfl⟩
abbrev BtB(B b:Nat)(bs:List Value)(w:World):Prop:=Lib.IsBuilder 247 5 B b bs w
set_option maxHeartbeats 2000000 in
set_option maxRecDepth 100000 in
theorem qtl(B b:Nat)(bs:List Value)(w:World)(h:BtB B b bs w) :
  Calls Tryz.prog 228 #[.pointer (some ⟨b,0,none⟩)] w fun e w'=>e=.returned (.tuple #[])∧Lib.BuilderAt 247 5 B b (.pointer (some ⟨b,0,none⟩)) bs w'∧Below B w w':=by
 rcases h with h|h
 ·refine(qAq b w h.cell0 h.shape h.frozen0).mono ?_
  rintro e w' ⟨rfl,rfl⟩
  exact⟨rfl,h.used _,(Below.refl B w).setCell (p:=⟨b,0,none⟩) h.1 _⟩
 ·refine(qBc b w h.cell0).mono ?_
  rintro e w' ⟨rfl,rfl⟩
  exact⟨rfl,h,Below.refl B _⟩
set_option maxHeartbeats 2000000 in
set_option maxRecDepth 100000 in
theorem qAQ(B b:Nat)(bs:List Value)(c:Int)(w:World)(h:BtB B b bs w)(hlen:bs.length+1≤140737488355328)(hBw:B≤w.heap.size) :
  Calls Tryz.prog 200 #[.pointer (some ⟨b,0,none⟩),.int .u8 c] w fun e w'=>e=.returned .nilIface∧BtB B b (bs++[.int .u8 c]) w'∧Below B w w':=by
 obtain⟨i0,hi,hz0,hz1,hz2⟩:=info_parts (show (Tryz.prog.info? 5).map (fun i=>(i.zero,i.size,i.bytes))=some (some (.int .u8 0),1,1) by kernel_rfl)
 go_enter Tryz.func200,Tryz.ntmps200
 go_wp2_with (go_at_call 228;refine(qtl B b bs _ h).mono ?_)
 rintro e w1 ⟨rfl,h1,hb1⟩
 obtain⟨hB,v,hbk,hown,hne⟩:=h1
 have c0:w1.cell? ⟨b,0,none⟩=some (.pointer (some ⟨b,0,none⟩)):=by rw[Lib.cell_of_heap hbk];rfl
 have c1:w1.cell? ⟨b,1,none⟩=some v:=by rw[Lib.cell_of_heap hbk];rfl
 have hsz1:=hb1.size
 go_wp2_with (at_builtin;refine wpList_append_own _ rfl _ _ 162 rfl B 5 i0 (.int .u8 0) 1 1 Tryz.underlying162 hi hz0 hz1 hz2 rfl (by decide) _ _ _ rfl (hown.alloc _) ⟨w1.heap.size,0,none⟩ 1 1 [.int .u8 c] rfl rfl ?c1 ?c2 ?c3 ?c4 ?c5 ?_)
 case c1=>
  intro j u hj
  match j,hj with
  | 0,hj=>simp at hj;subst hj;simp[Addr.add]
 case c2=>intro u hu;simp at hu;subst hu;rfl
 case c3=>unfold maxLen;omega
 case c4=>omega
 case c5=>simp;omega
 intro v' w2 hown' hgrow _
 have hlt:b<w1.heap.size:=by
  rcases Nat.lt_or_ge b w1.heap.size with h'|h'
  ·exact h'
  ·simp[Array.getElem?_eq_none h'] at hbk
 have hb2:w2.heap[b]?=some (.cells #[.pointer (some ⟨b,0,none⟩),v] 247 (0,0)):=by
  rw[hgrow.block b (by simp;omega) (fun e=>hne e.symm),Lib.alloc_old w1 _ b hlt]
  exact hbk
 have d0:w2.cell? ⟨b,0,none⟩=some (.pointer (some ⟨b,0,none⟩)):=by rw[Lib.cell_of_heap hb2];rfl
 have d1:w2.cell? ⟨b,1,none⟩=some v:=by rw[Lib.cell_of_heap hb2];rfl
 have f1:w2.frozen? ⟨b,1,none⟩=false:=Lib.frozen_of_heap hb2 1
 obtain⟨ao,n',cap,rfl⟩:∃ao n' cap,v'=.slice ao n' cap:=by
  rcases hown'.2 with⟨hv,_⟩|⟨g,cap,cur,hv,_⟩
  ·exact⟨_,_,_,hv⟩
  ·exact⟨_,_,_,hv⟩
 go_wp2
 go_ret
 refine⟨rfl,.inr ?_,?_⟩
 ·exact Lib.BuilderAt.put (T:=247) (e:=5) hB hb2 (bs':=bs++[.int .u8 c]) (by simpa using hown') (by decide)
 ·exact((hb1.alloc (by omega) _).grown hgrow (by simp;omega) (fun k hk=>(hown.lt k hk).1)).setCell (p:=⟨b,1,none⟩) hB _
set_option maxHeartbeats 2000000 in
set_option maxRecDepth 100000 in
theorem qyF(B b:Nat)(bs:List Value)(s:ByteArray)(w:World)(h:BtB B b bs w)(hlen:bs.length+s.size≤140737488355328)(hBw:B≤w.heap.size) :
  Calls Tryz.prog 201 #[.pointer (some ⟨b,0,none⟩),.string s] w fun e w'=>e=.returned (.tuple #[.int .i64 s.size,.nilIface])∧BtB B b (bs++Lib.strCells s) w'∧Below B w w':=by
 obtain⟨i0,hi,hz0,hz1,hz2⟩:=info_parts (show (Tryz.prog.info? 5).map (fun i=>(i.zero,i.size,i.bytes))=some (some (.int .u8 0),1,1) by kernel_rfl)
 go_enter Tryz.func201,Tryz.ntmps201
 go_wp2_with (go_at_call 228;refine(qtl B b bs _ h).mono ?_)
 rintro e w1 ⟨rfl,h1,hb1⟩
 obtain⟨hB,v,hbk,hown,hne⟩:=h1
 have c0:w1.cell? ⟨b,0,none⟩=some (.pointer (some ⟨b,0,none⟩)):=by rw[Lib.cell_of_heap hbk];rfl
 have c1:w1.cell? ⟨b,1,none⟩=some v:=by rw[Lib.cell_of_heap hbk];rfl
 have hsz1:=hb1.size
 go_wp2_with (at_builtin;refine Lib.wpList_append_own_string _ rfl _ _ 162 9 rfl B 5 i0 Tryz.underlying162 Tryz.underlying9 hi hz0 hz1 hz2 _ _ _ rfl hown s rfl ?c3 ?c4 ?c5 ?_)
 case c3=>unfold maxLen;omega
 case c4=>omega
 case c5=>omega
 intro v' w2 hown' hgrow _
 have hlt:b<w1.heap.size:=by
  rcases Nat.lt_or_ge b w1.heap.size with h'|h'
  ·exact h'
  ·simp[Array.getElem?_eq_none h'] at hbk
 have hb2:w2.heap[b]?=some (.cells #[.pointer (some ⟨b,0,none⟩),v] 247 (0,0)):=by
  rw[hgrow.block b hlt (fun e=>hne e.symm)]
  exact hbk
 have d0:w2.cell? ⟨b,0,none⟩=some (.pointer (some ⟨b,0,none⟩)):=by rw[Lib.cell_of_heap hb2];rfl
 have d1:w2.cell? ⟨b,1,none⟩=some v:=by rw[Lib.cell_of_heap hb2];rfl
 have f1:w2.frozen? ⟨b,1,none⟩=false:=Lib.frozen_of_heap hb2 1
 obtain⟨ao,n',cap,rfl⟩:∃ao n' cap,v'=.slice ao n' cap:=by
  rcases hown'.2 with⟨hv,_⟩|⟨g,cap,cur,hv,_⟩
  ·exact⟨_,_,_,hv⟩
  ·exact⟨_,_,_,hv⟩
 go_wp2
 go_ret2
 refine⟨rfl,.inr ?_,?_⟩
 ·exact Lib.BuilderAt.put (T:=247) (e:=5) hB hb2 (bs':=bs++Lib.strCells s) (by simpa[Lib.strCells_length] using hown') (by decide)
 ·exact(hb1.grown hgrow (by omega) (fun k hk=>(hown.lt k hk).1)).setCell (p:=⟨b,1,none⟩) hB _
theorem qzy:Builder.Extra Tryz.prog Tryz.lays169_ren where
 sizeBuilder:=by kernel_rfl
 liesBuilder:=by kernel_rfl
 t5:=Tryz.underlying5
 a5:=Tryz.isAgg5
 z5:=Tryz.sizeOf5
 v5:=Tryz.zeroValue5
 infoByte:=by kernel_rfl
 cellsByte:=by kernel_rfl
 sizeByte:=by kernel_rfl
 neB5:=by decide
set_option maxHeartbeats 2000000 in
set_option maxRecDepth 100000 in
theorem qxF(B b:Nat)(l:List UInt8)(w:World)(h:BtB B b (Lib.byteCells l) w)(h0:l≠[]) :
  Calls Tryz.prog 202 #[.pointer (some ⟨b,0,none⟩)] w fun e w'=>e=.returned (.string ⟨l.toArray⟩)∧Below B w w':=
 Any.Builder_String Tryz.lays169 qzy B b l w h h0
def qkg(f:Nat→Int):Nat→List UInt8
 | 0=>[]
 | i+1=>qyW (Lib.itoa (f i))++qkg f i
def qx6(b:Bool)(n:Nat)(f:Nat→Int):List UInt8:=if n=0 then [48] else (if b then [45] else [])++Lib.itoa (f (n-1))++qkg f (n-1)
theorem qwv (n:Int) (h:-9223372036854775808≤n∧n≤9223372036854775807) (w:World) (ht:Lib.TabIs Tryz.prog w "internal/strconv.uint64pow10" .u64 Lib.pow10Tab) :
  Calls Tryz.prog 196 #[.int .i64 n] w fun e w'=>e=.returned (.string ⟨(Lib.itoa n).toArray⟩)∧Below w.heap.size w w':=
 (Any.strconv_Itoa Tryz.laysM171 n h.1 h.2 w ht).mono fun e w' ⟨h1,k,os,h2⟩=>⟨h1,by subst h2;exact qm3 _ _ _⟩
theorem qoU{P:Program}{w w':World}{name:String}{k:IntKind}{zs:List Int}(h:Lib.TabIs P w name k zs)(hb:Below w.heap.size w w'):Lib.TabIs P w' name k zs:=by
 unfold Lib.TabIs World.var? at *
 cases hg:P.globalNamed name with
 | none=>rw[hg] at h;cases h
 | some g=>
  rw[hg] at h
  simp only[Option.bind_some] at h ⊢
  by_cases hlt:g<w.heap.size
  ·rw[hb.block g hlt];exact h
  ·rw[Array.getElem?_eq_none (by omega)] at h;cases h
theorem qg0{w w':World}(hb:Below w.heap.size w w'){n:Nat}(hn:n<w.heap.size)(o:Nat):w'.cell? ⟨n,o,none⟩=w.cell? ⟨n,o,none⟩:=World.cell?_of_block (hb.block n hn)
theorem qtB{B b:Nat}{bs:List Value}{w w':World}(h:BtB B b bs w)(hb:Below w.heap.size w w'):BtB B b bs w':=by
 have key:∀p,Lib.BuilderAt 247 5 B b p bs w→Lib.BuilderAt 247 5 B b p bs w':=by
  intro p h
  have hlt:=h.lt
  obtain⟨hB,v,hbk,⟨hl,hown⟩,hne⟩:=h
  refine⟨hB,v,(hb.block b hlt).trans hbk,⟨hl,?_⟩,hne⟩
  rcases hown with h|⟨g,cap,cur,h1,h2,h3,h4⟩
  ·exact .inl h
  ·exact .inr ⟨g,cap,cur,h1,h2,(hb.block g (Array.getElem?_eq_some_iff.1 h3).1).trans h3,h4⟩
 exact h.elim (fun x=>.inl (key _ x)) (fun x=>.inr (key _ x))
theorem qBN{B b:Nat}{bs:List Value}{w:World}(h:BtB B b bs w):BtB B b bs w.drew:=h.elim (fun x=>.inl x.drew) (fun x=>.inr x.drew)
theorem qzN:∀(k n:Nat),n<10^(k+1)→(Lib.decDigits n).length≤k+1
 | 0,n,h=>by rw[Lib.decDigits,dif_pos (by omega)];simp
 | k+1,n,h=>by
  rw[Lib.decDigits]
  split
  ·simp
  ·have:=qzN k (n/10) (by rw[Nat.pow_succ] at h;omega)
   simp;omega
theorem qB4{pre l:List UInt8}{k:Nat}(hp:pre.length≤k)(hl:l.length≤9)(hk:k≤100000:=by omega):(Lib.byteCells pre).length+(⟨l.toArray⟩:ByteArray).size≤140737488355328:=by
 rw[Lib.byteCells_length]
 have:(⟨l.toArray⟩:ByteArray).size=l.length:=by simp[ByteArray.size]
 omega
theorem qxa{x:Int}(h:0≤x∧x<1000000000):(Lib.itoa x).length≤9:=by
 unfold Lib.itoa
 rw[if_neg (by omega)]
 exact qzN 8 _ (by omega)
theorem qx3{l:List UInt8}(h:l.length≤9):(qyW l).length=9:=by
 unfold qyW qbC qaA qm
 simp;omega
theorem qzt{l:List UInt8}(h:l.length≤9):(⟨#[48,48,48,48,48,48,48,48,48]⟩:ByteArray).extract l.length 9++⟨l.toArray⟩=⟨(qyW l).toArray⟩:=by
 have key:∀k:Nat,k≤9→(⟨#[48,48,48,48,48,48,48,48,48]⟩:ByteArray).extract k 9=⟨(qaA [48,48,48,48,48,48,48,48,48] (k:Int) 9).toArray⟩:=by
  intro k hk
  have:k=0∨k=1∨k=2∨k=3∨k=4∨k=5∨k=6∨k=7∨k=8∨k=9:=by omega
  rcases this with rfl|rfl|rfl|rfl|rfl|rfl|rfl|rfl|rfl|rfl<;>rfl
 rw[key _ h]
 unfold qyW qbC qm
 apply ByteArray.ext
 simp
theorem qz1(l:List UInt8):Lib.strCells ⟨l.toArray⟩=Lib.byteCells l:=rfl
theorem qAM(x:Int):0<(Lib.itoa x).length:=by
 unfold Lib.itoa
 split
 ·simp
 ·rw[Lib.decDigits];split<;>simp
set_option maxHeartbeats 4000000 in
set_option maxRecDepth 1000000 in
theorem qB0(n0:Nat)(b:Bool)(n:Nat)(f:Nat→Int)(w:World)(hlt:n0<w.heap.size)(h0:w.cell? ⟨n0,0,none⟩=some (.bool b))(h1:w.cell? ⟨n0,1,none⟩=some (.int .i64 (n:Int)))(hw:∀i,i<232→w.cell? ⟨n0,2+i,none⟩=some (.int .i64 (f i)))
  (hn:n≤232) (hf:∀i,i<n→0≤f i∧f i<1000000000) (ht:Lib.TabIs Tryz.prog w "internal/strconv.uint64pow10" .u64 Lib.pow10Tab) :
  Calls Tryz.prog 161 #[.pointer (some ⟨n0,0,none⟩)] w fun e w'=>e=.returned (.string ⟨(qx6 b n f).toArray⟩)∧Below w.heap.size w w':=by
 rcases Nat.eq_zero_or_pos n with rfl|hpos
 ·go_enter Tryz.func161,Tryz.ntmps161
  go_wp2
  go_ret
  exact⟨rfl,Below.refl _ _⟩
 obtain⟨m,rfl⟩:∃m,n=m+1:=⟨n-1,by omega⟩
 have hne:(((m+1:Nat):Int)==0)=false:=by simp;omega
 have w1:IntKind.i64.wrap (((m+1:Nat):Int)-1)=(m:Int):=by unfold IntKind.wrap;simp[IntKind.signed,IntKind.bits];omega
 have w1':IntKind.i64.wrap (m:Int)=(m:Int):=by unfold IntKind.wrap;simp[IntKind.signed,IntKind.bits];omega
 have hi:0≤(m:Int)∧(m:Int)<232:=by omega
 have hwm:=hw m (by omega)
 have w2:IntKind.i64.wrap (((m+1:Nat):Int)-2)=(m:Int)-1:=by unfold IntKind.wrap;simp[IntKind.signed,IntKind.bits];omega
 have hitm:=qxa (hf m (by omega))
 cases b
 case' false=>
  go_enter Tryz.func161,Tryz.ntmps161
  go_wp2
  have hB0:=Lib.fresh_isBuilder 247 5 w
  have hb0:=(Below.refl w.heap.size w).alloc (Nat.le_refl _) (.cells #[.pointer none,.slice none 0 0] 247)
  generalize w.alloc (.cells #[.pointer none,.slice none 0 0] 247)=W0 at *
  obtain⟨pre,hpre⟩:∃pre:List UInt8,pre=if false=true then [45] else []:=⟨_,rfl⟩
  replace hB0:BtB w.heap.size w.heap.size (Lib.byteCells pre) W0:=by subst hpre;exact hB0
 case' true=>
  go_enter Tryz.func161,Tryz.ntmps161
  go_wp2_with (go_at_call 200;refine(qAQ w.heap.size w.heap.size [] 45 _ (Lib.fresh_isBuilder 247 5 w) (by simp) (by simp)).mono ?_)
  rintro e W0 ⟨rfl,hB0,hb0⟩
  replace hb0:=((Below.refl w.heap.size w).alloc (Nat.le_refl _) (.cells #[.pointer none,.slice none 0 0] 247)).trans hb0
  obtain⟨pre,hpre⟩:∃pre:List UInt8,pre=if true=true then [45] else []:=⟨_,rfl⟩
  replace hB0:BtB w.heap.size w.heap.size (Lib.byteCells pre) W0:=by subst hpre;exact hB0
  go_wp2
 all_goals
  have hp1:pre.length≤1:=by subst hpre;split<;>simp
  have hs0:=hb0.size
  have d1:=(qg0 hb0 hlt 1).trans h1
  have dm:=(qg0 hb0 hlt (2+m)).trans hwm
  go_region_with (first
   | (go_at_call 196;refine(qwv (f m) (by have:=hf m (by omega);omega) _ (qoU ht hb0.drew)).mono ?_;rintro e W1 ⟨rfl,b1⟩)
   | (go_at_call 201;refine(qyF w.heap.size w.heap.size _ _ _ (qtB (qBN hB0) b1) (qB4 hp1 hitm) (Nat.le_trans hs0 b1.size)).mono ?_;rintro e W2 ⟨rfl,hB2,b2⟩))
  have b02:Below w.heap.size w W2:=(hb0.drew.trans (b1.mono hs0)).trans b2
  have e1:=(qg0 b02 hlt 1).trans h1
  replace hB2:BtB w.heap.size w.heap.size (Lib.byteCells (pre++Lib.itoa (f m))) W2:=by rw[Lib.byteCells_append];exact hB2
  go_wp2
  go_loopw [4] (fun vi wr=>∃(k:Nat) (acc:List UInt8),vi=.int .i64 ((k:Int)-1)∧k≤m∧BtB w.heap.size w.heap.size (Lib.byteCells acc) wr∧Below w.heap.size w wr∧acc++qkg f k=pre++Lib.itoa (f m)++qkg f m∧acc.length≤10+9*(m-k)) (fun vi _=>(intOf vi+1).toNat)
  case atStart=>exact⟨m,_,by congr 1<;>omega,Nat.le_refl _,hB2,b02,rfl,by simp;omega⟩
  case round=>
   obtain⟨k,acc,rfl,hkm,hI,hbw,hacc,hal⟩:=hrel
   have hbs:=hbw.size
   rcases Nat.eq_zero_or_pos k with rfl|hk0
   ·go_wp2_with (go_at_call 202;refine(qxF w.heap.size w.heap.size acc _ hI ?hne).mono ?_)
    case hne=>
     intro h0
     subst h0
     have:=congrArg List.length hacc
     have h9:=qAM (f m)
     simp[qkg] at this
     omega
    rintro e W3 ⟨rfl,b3⟩
    go_wp2
    go_ret
    refine⟨?_,hbw.trans b3⟩
    simp only[qkg,List.append_nil] at hacc
    rw[hacc,hpre]
    simp[qx6]
   ·obtain⟨q,rfl⟩:∃q,k=q+1:=⟨k-1,by omega⟩
    have x1:(((q+1:Nat):Int)-1)=(q:Int):=by omega
    have x2:(0:Int)≤(q:Int)∧(q:Int)<232:=by omega
    have x3:(q:Int).toNat=q:=Int.toNat_natCast q
    have dq:=(qg0 hbw hlt (2+q)).trans (hw q (by omega))
    have hq9:=qxa (hf q (by omega))
    rw[x1]
    go_wp2_with (go_at_call 196;refine(qwv (f q) (by have:=hf q (by omega);omega) _ (qoU ht hbw)).mono ?_)
    rintro e W3 ⟨rfl,b3⟩
    clear w1 w1' w2 hi hwm hne h1 hf hw ht
    have hl9:((⟨(Lib.itoa (f q)).toArray⟩:ByteArray).size:Int)≤9:=by simp[ByteArray.size];omega
    go_wp2_with (go_at_call 201;refine(qyF w.heap.size w.heap.size (Lib.byteCells acc) _ _ (qtB hI b3) ?hl (Nat.le_trans hbs b3.size)).mono ?_)
    case hl=>rw[qzt hq9,Lib.byteCells_length];have:=qx3 hq9;simp[ByteArray.size];omega
    rintro e W4 ⟨rfl,hB4,b4⟩
    rw[qzt hq9,qz1,←Lib.byteCells_append] at hB4
    go_wp2
    go_roundw
    case rel=>
     refine⟨q,_,by congr 1<;>omega,by omega,hB4,(hbw.trans (b3.mono hbs)).trans b4,?_,?_⟩
     ·rw[←hacc];simp[qkg]
     ·have:=qx3 hq9
      simp;omega
    case measure=>simp[intOf]
theorem qwK(w:R):∀i,qiG w i=qkg (fun i=>cI w i 0) i
 | 0=>rfl
 | i+1=>by unfold qiG qkg;rw[qwK w i]
theorem qBF(b:Bool)(n:Nat)(w:R):qAk b (n:Int) w=qx6 b n (fun i=>cI w i 0):=by
 unfold qAk qx6
 by_cases h:n=0
 ·subst h;rfl
 ·rw[if_neg (by omega),if_neg h,qwK]
  have e:((n:Int)-1)=((n-1:Nat):Int):=by omega
  rw[e,Int.toNat_natCast]
theorem qAx{ps:List PV}(h:ps.map PV.kind=[.b,.i,.r]):∃b n w,ps=[.b b,.i n,.r w]:=by
 match ps,h with
 | [.b b,.i n,.r w],_=>exact⟨b,n,w,rfl⟩
theorem qxA{gl:List (Nat×AV)}(hg:(6,AV.eptr (Lib.pow10Tab.map fun _=>.int .u64) qBY 0 0)∈gl) :
  zb Tryz.prog gl 161 (q8 { args:=[.ptr 0 0],h:=[.big [.bool,.int .i64] .i64 232] } [{ res:=.str,h:=[.big [.bool,.int .i64] .i64 232] }] qAC):=
 qfZ (q2n Tryz.func161 (by kernel_rfl) (by kernel_rfl)) rfl fun B X ps j qs vargs hs hgl hh ha hk hT=>by
  obtain⟨b,n,r,rfl⟩:=qAx hk
  simp only[qAC] at hT
  split at hT
  ·rename_i hc
   cases hT
   unfold qrv at hc
   simp only[Bool.and_eq_true,decide_eq_true_eq,List.all_eq_true,List.mem_range] at hc
   obtain⟨⟨c1,c2⟩,c3⟩:=hc
   obtain⟨m,rfl⟩:∃m:Nat,n=(m:Int):=⟨n.toNat,by omega⟩
   have hb0:X.h[0]?=some (.big [.bool b,.int .i64 (m:Int)] .i64 232 r):=by rw[hh];rfl
   obtain⟨n0,c,T,vs,hσ,hheap,hrep,hcl,hrl⟩:=hs.blk 0 _ hb0
   have hvs:vs=[.bool b,.int .i64 (m:Int)]:=by
    cases hrep with
    | cons h t=>cases h;rw[qwM t]
   subst hvs
   have hva:vargs=[.pointer (some ⟨n0,0,none⟩)]:=by
    cases ha with
    | cons h t=>
     cases t
     cases h with
     | ptr _ _ n1 hb hσ2=>
      have:n1=n0:=Option.some.inj (hσ2.symm.trans hσ)
      rw[this]
   subst hva
   have hlt:n0<X.w.heap.size:=(Array.getElem?_eq_some_iff.1 hheap).1
   have hcell:∀o,X.w.cell? ⟨n0,o,none⟩=c[o]?:=fun o=>by unfold World.cell?;simp only[hheap];rfl
   have g0:X.w.cell? ⟨n0,0,none⟩=some (.bool b):=by rw[hcell,←Array.getElem?_toList,hcl];rfl
   have g1:X.w.cell? ⟨n0,1,none⟩=some (.int .i64 (m:Int)):=by rw[hcell,←Array.getElem?_toList,hcl];rfl
   have gw:∀i,i<232→X.w.cell? ⟨n0,2+i,none⟩=some (.int .i64 (cI r (i:Int) 0)):=fun i hi=>by
    rw[hcell]
    exact qrS (vs:=[.bool b,.int .i64 (m:Int)]) hcl (by omega)
   refine⟨rfl,rfl,rfl,?_⟩
   have hT:=qoB (k:=.u64) (zs:=Lib.pow10Tab) (show Tryz.prog.globalNamed "internal/strconv.uint64pow10" = some 6 by kernel_rfl) (by decide) (hgl _ hg).2
   refine(qB0 n0 b m (fun i=>cI r (i:Int) 0) X.w hlt g0 g1 gw (by omega) (fun i hi=>c3 i (by omega)) hT).mono fun e w' ⟨k1,k2⟩=>⟨_,k1,k2,?_⟩
   rw[←qBF]
   exact .str _
  ·cases hT
end Go.Eng

namespace Go.Eng
open Go.Proofs
noncomputable def qde:List (TypeId×TI):=[(1,(.mk .func 1 [.nilFunc] 8 false false)),(2,(.mk (.int .i64) 1 [(.int .i64 0)] 8 false false)),(3,(.mk (.int .i64) 1 [(.int .i64 0)] 8 false false)),(4,(.mk .bool 1 [(.bool false)] 1 false false)),(5,(.mk (.int .u8) 1 [(.int .u8 0)] 1 false false)),(6,(.mk (.int .u8) 1 [(.int .u8 0)] 1 false false)),(8,(.mk (.struct [(0,(2,1)),(1,(3,1)),(2,(4,1)),(3,(6,1))]) 4 [(.int .i64 0),(.int .i64 0),(.bool false),(.int .u8 0)] 24 true true)),(9,(.mk .str 1 [(.string (.mk (.mk [])))] 16 false false)),(10,(.mk .str 1 [(.string (.mk (.mk [])))] 16 false false)),(11,(.mk .str 1 [(.string (.mk (.mk [])))] 16 false false)),(12,(.mk (.int .u64) 1 [(.int .u64 0)] 8 false false)),(13,(.mk (.struct [(0,(9,1)),(1,(12,1))]) 2 [(.string (.mk (.mk []))),(.int .u64 0)] 24 false true)),(14,(.mk (.struct [(0,(9,1)),(1,(12,1))]) 2 [(.string (.mk (.mk []))),(.int .u64 0)] 24 false true)),(16,(.mk (.ptr 326) 1 [(.pointer .none)] 8 false false)),(17,(.mk (.ptr 334) 1 [(.pointer .none)] 8 false false)),(18,(.mk (.struct [(0,(17,1))]) 1 [(.pointer .none)] 8 false true)),(22,(.mk (.slice 40 3) 1 [(.slice .none 0 0)] 24 false false)),(24,(.mk .func 1 [.nilFunc] 8 false false)),(25,(.mk (.slice 3 1) 1 [(.slice .none 0 0)] 24 false false)),(26,(.mk (.int .i64) 1 [(.int .i64 0)] 8 false false)),(30,(.mk .func 1 [.nilFunc] 8 false false)),(32,(.mk (.struct [(0,(3,1)),(1,(3,1)),(2,(3,1))]) 3 [(.int .i64 0),(.int .i64 0),(.int .i64 0)] 24 true true)),(33,(.mk (.struct [(0,(3,1)),(1,(3,1)),(2,(3,1))]) 3 [(.int .i64 0),(.int .i64 0),(.int .i64 0)] 24 true true)),(36,(.mk .str 1 [(.string (.mk (.mk [])))] 16 false false)),(38,(.mk (.struct [(0,(36,1)),(1,(36,1))]) 2 [(.string (.mk (.mk []))),(.string (.mk (.mk [])))] 32 true true)),(40,(.mk (.struct [(0,(38,2)),(2,(36,1))]) 3 [(.string (.mk (.mk []))),(.string (.mk (.mk []))),(.string (.mk (.mk [])))] 48 true true)),(47,(.mk .func 1 [.nilFunc] 8 false false)),(48,(.mk .func 1 [.nilFunc] 8 false false)),(49,(.mk .func 1 [.nilFunc] 8 false false)),(50,(.mk .func 1 [.nilFunc] 8 false false)),(51,(.mk .func 1 [.nilFunc] 8 false false)),(52,(.mk (.slice 97 7) 1 [(.slice .none 0 0)] 24 false false)),(53,(.mk (.slice 89 3) 1 [(.slice .none 0 0)] 24 false false)),(54,(.mk (.struct [(0,(52,1)),(1,(53,1)),(2,(3,1))]) 3 [(.slice .none 0 0),(.slice .none 0 0),(.int .i64 0)] 56 true true)),(55,(.mk (.struct [(0,(52,1)),(1,(53,1)),(2,(3,1))]) 3 [(.slice .none 0 0),(.slice .none 0 0),(.int .i64 0)] 56 true true)),(56,(.mk .func 1 [.nilFunc] 8 false false)),(61,(.mk (.struct [(0,(52,1)),(1,(53,1)),(2,(3,1))]) 3 [(.slice .none 0 0),(.slice .none 0 0),(.int .i64 0)] 56 true true)),(64,(.mk .func 1 [.nilFunc] 8 false false)),(74,(.mk (.struct [(0,(3,1)),(1,(3,1)),(2,(3,1))]) 3 [(.int .i64 0),(.int .i64 0),(.int .i64 0)] 24 true true)),(83,(.mk (.int .i8) 1 [(.int .i8 0)] 1 false false)),(84,(.mk (.array 2 83 1) 2 [(.int .i8 0),(.int .i8 0)] 2 false false)),(87,(.mk (.struct [(0,(3,1)),(1,(3,1))]) 2 [(.int .i64 0),(.int .i64 0)] 16 true true)),(89,(.mk (.struct [(0,(87,2)),(2,(3,1))]) 3 [(.int .i64 0),(.int .i64 0),(.int .i64 0)] 24 true true)),(95,(.mk (.struct [(0,(3,1)),(1,(3,1))]) 2 [(.int .i64 0),(.int .i64 0)] 16 true true)),(97,(.mk (.struct [(0,(87,2)),(2,(95,2)),(4,(3,1)),(5,(3,1)),(6,(4,1))]) 7 [(.int .i64 0),(.int .i64 0),(.int .i64 0),(.int .i64 0),(.int .i64 0),(.int .i64 0),(.bool false)] 56 true true)),(101,(.mk .func 1 [.nilFunc] 8 false false)),(104,(.mk (.ptr 106) 1 [(.pointer .none)] 8 false false)),(106,(.mk (.struct [(0,(26,1))]) 1 [(.int .i64 0)] 8 true true)),(109,(.mk .func 1 [.nilFunc] 8 false false)),(114,(.mk (.slice 117 1) 1 [(.slice .none 0 0)] 24 false false)),(117,(.mk .str 1 [(.string (.mk (.mk [])))] 16 false false)),(121,(.mk (.slice 36 1) 1 [(.slice .none 0 0)] 24 false false)),(128,(.mk .func 1 [.nilFunc] 8 false false)),(138,(.mk (.ptr 140) 1 [(.pointer .none)] 8 false false)),(140,(.mk (.struct [(0,(22,1)),(1,(26,1))]) 2 [(.slice .none 0 0),(.int .i64 0)] 32 true true)),(141,(.mk .func 1 [.nilFunc] 8 false false)),(149,(.mk .func 1 [.nilFunc] 8 false false)),(150,(.mk .func 1 [.nilFunc] 8 false false)),(162,(.mk (.slice 5 1) 1 [(.slice .none 0 0)] 24 false false)),(168,(.mk .func 1 [.nilFunc] 8 false false)),(172,(.mk (.struct [(0,(38,2)),(2,(38,2)),(4,(36,1))]) 5 [(.string (.mk (.mk []))),(.string (.mk (.mk []))),(.string (.mk (.mk []))),(.string (.mk (.mk []))),(.string (.mk (.mk [])))] 80 true true)),(190,(.mk (.struct [(0,(97,7)),(7,(3,1))]) 8 [(.int .i64 0),(.int .i64 0),(.int .i64 0),(.int .i64 0),(.int .i64 0),(.int .i64 0),(.bool false),(.int .i64 0)] 64 true true)),(193,(.mk .func 1 [.nilFunc] 8 false false)),(205,(.mk (.ptr 210) 1 [(.pointer .none)] 8 false false)),(208,(.mk (.array 232 3 1) 232 [(.int .i64 0),(.int .i64 0),(.int .i64 0),(.int .i64 0),(.int .i64 0),(.int .i64 0),(.int .i64 0),(.int .i64 0),(.int .i64 0),(.int .i64 0),(.int .i64 0),(.int .i64 0),(.int .i64 0),(.int .i64 0),(.int .i64 0),(.int .i64 0),(.int .i64 0),(.int .i64 0),(.int .i64 0),(.int .i64 0),(.int .i64 0),(.int .i64 0),(.int .i64 0),(.int .i64 0),(.int .i64 0),(.int .i64 0),(.int .i64 0),(.int .i64 0),(.int .i64 0),(.int .i64 0),(.int .i64 0),(.int .i64 0),(.int .i64 0),(.int .i64 0),(.int .i64 0),(.int .i64 0),(.int .i64 0),(.int .i64 0),(.int .i64 0),(.int .i64 0),(.int .i64 0),(.int .i64 0),(.int .i64 0),(.int .i64 0),(.int .i64 0),(.int .i64 0),(.int .i64 0),(.int .i64 0),(.int .i64 0),(.int .i64 0),(.int .i64 0),(.int .i64 0),(.int .i64 0),(.int .i64 0),(.int .i64 0),(.int .i64 0),(.int .i64 0),(.int .i64 0),(.int .i64 0),(.int .i64 0),(.int .i64 0),(.int .i64 0),(.int .i64 0),(.int .i64 0),(.int .i64 0),(.int .i64 0),(.int .i64 0),(.int .i64 0),(.int .i64 0),(.int .i64 0),(.int .i64 0),(.int .i64 0),(.int .i64 0),(.int .i64 0),(.int .i64 0),(.int .i64 0),(.int .i64 0),(.int .i64 0),(.int .i64 0),(.int .i64 0),(.int .i64 0),(.int .i64 0),(.int .i64 0),(.int .i64 0),(.int .i64 0),(.int .i64 0),(.int .i64 0),(.int .i64 0),(.int .i64 0),(.int .i64 0),(.int .i64 0),(.int .i64 0),(.int .i64 0),(.int .i64 0),(.int .i64 0),(.int .i64 0),(.int .i64 0),(.int .i64 0),(.int .i64 0),(.int .i64 0),(.int .i64 0),(.int .i64 0),(.int .i64 0),(.int .i64 0),(.int .i64 0),(.int .i64 0),(.int .i64 0),(.int .i64 0),(.int .i64 0),(.int .i64 0),(.int .i64 0),(.int .i64 0),(.int .i64 0),(.int .i64 0),(.int .i64 0),(.int .i64 0),(.int .i64 0),(.int .i64 0),(.int .i64 0),(.int .i64 0),(.int .i64 0),(.int .i64 0),(.int .i64 0),(.int .i64 0),(.int .i64 0),(.int .i64 0),(.int .i64 0),(.int .i64 0),(.int .i64 0),(.int .i64 0),(.int .i64 0),(.int .i64 0),(.int .i64 0),(.int .i64 0),(.int .i64 0),(.int .i64 0),(.int .i64 0),(.int .i64 0),(.int .i64 0),(.int .i64 0),(.int .i64 0),(.int .i64 0),(.int .i64 0),(.int .i64 0),(.int .i64 0),(.int .i64 0),(.int .i64 0),(.int .i64 0),(.int .i64 0),(.int .i64 0),(.int .i64 0),(.int .i64 0),(.int .i64 0),(.int .i64 0),(.int .i64 0),(.int .i64 0),(.int .i64 0),(.int .i64 0),(.int .i64 0),(.int .i64 0),(.int .i64 0),(.int .i64 0),(.int .i64 0),(.int .i64 0),(.int .i64 0),(.int .i64 0),(.int .i64 0),(.int .i64 0),(.int .i64 0),(.int .i64 0),(.int .i64 0),(.int .i64 0),(.int .i64 0),(.int .i64 0),(.int .i64 0),(.int .i64 0),(.int .i64 0),(.int .i64 0),(.int .i64 0),(.int .i64 0),(.int .i64 0),(.int .i64 0),(.int .i64 0),(.int .i64 0),(.int .i64 0),(.int .i64 0),(.int .i64 0),(.int .i64 0),(.int .i64 0),(.int .i64 0),(.int .i64 0),(.int .i64 0),(.int .i64 0),(.int .i64 0),(.int .i64 0),(.int .i64 0),(.int .i64 0),(.int .i64 0),(.int .i64 0),(.int .i64 0),(.int .i64 0),(.int .i64 0),(.int .i64 0),(.int .i64 0),(.int .i64 0),(.int .i64 0),(.int .i64 0),(.int .i64 0),(.int .i64 0),(.int .i64 0),(.int .i64 0),(.int .i64 0),(.int .i64 0),(.int .i64 0),(.int .i64 0),(.int .i64 0),(.int .i64 0),(.int .i64 0),(.int .i64 0),(.int .i64 0),(.int .i64 0),(.int .i64 0),(.int .i64 0),(.int .i64 0),(.int .i64 0),(.int .i64 0),(.int .i64 0),(.int .i64 0),(.int .i64 0),(.int .i64 0),(.int .i64 0),(.int .i64 0)] 1856 false false)),(210,(.mk (.struct [(0,(4,1)),(1,(3,1)),(2,(208,232))]) 234 [(.bool false),(.int .i64 0),(.int .i64 0),(.int .i64 0),(.int .i64 0),(.int .i64 0),(.int .i64 0),(.int .i64 0),(.int .i64 0),(.int .i64 0),(.int .i64 0),(.int .i64 0),(.int .i64 0),(.int .i64 0),(.int .i64 0),(.int .i64 0),(.int .i64 0),(.int .i64 0),(.int .i64 0),(.int .i64 0),(.int .i64 0),(.int .i64 0),(.int .i64 0),(.int .i64 0),(.int .i64 0),(.int .i64 0),(.int .i64 0),(.int .i64 0),(.int .i64 0),(.int .i64 0),(.int .i64 0),(.int .i64 0),(.int .i64 0),(.int .i64 0),(.int .i64 0),(.int .i64 0),(.int .i64 0),(.int .i64 0),(.int .i64 0),(.int .i64 0),(.int .i64 0),(.int .i64 0),(.int .i64 0),(.int .i64 0),(.int .i64 0),(.int .i64 0),(.int .i64 0),(.int .i64 0),(.int .i64 0),(.int .i64 0),(.int .i64 0),(.int .i64 0),(.int .i64 0),(.int .i64 0),(.int .i64 0),(.int .i64 0),(.int .i64 0),(.int .i64 0),(.int .i64 0),(.int .i64 0),(.int .i64 0),(.int .i64 0),(.int .i64 0),(.int .i64 0),(.int .i64 0),(.int .i64 0),(.int .i64 0),(.int .i64 0),(.int .i64 0),(.int .i64 0),(.int .i64 0),(.int .i64 0),(.int .i64 0),(.int .i64 0),(.int .i64 0),(.int .i64 0),(.int .i64 0),(.int .i64 0),(.int .i64 0),(.int .i64 0),(.int .i64 0),(.int .i64 0),(.int .i64 0),(.int .i64 0),(.int .i64 0),(.int .i64 0),(.int .i64 0),(.int .i64 0),(.int .i64 0),(.int .i64 0),(.int .i64 0),(.int .i64 0),(.int .i64 0),(.int .i64 0),(.int .i64 0),(.int .i64 0),(.int .i64 0),(.int .i64 0),(.int .i64 0),(.int .i64 0),(.int .i64 0),(.int .i64 0),(.int .i64 0),(.int .i64 0),(.int .i64 0),(.int .i64 0),(.int .i64 0),(.int .i64 0),(.int .i64 0),(.int .i64 0),(.int .i64 0),(.int .i64 0),(.int .i64 0),(.int .i64 0),(.int .i64 0),(.int .i64 0),(.int .i64 0),(.int .i64 0),(.int .i64 0),(.int .i64 0),(.int .i64 0),(.int .i64 0),(.int .i64 0),(.int .i64 0),(.int .i64 0),(.int .i64 0),(.int .i64 0),(.int .i64 0),(.int .i64 0),(.int .i64 0),(.int .i64 0),(.int .i64 0),(.int .i64 0),(.int .i64 0),(.int .i64 0),(.int .i64 0),(.int .i64 0),(.int .i64 0),(.int .i64 0),(.int .i64 0),(.int .i64 0),(.int .i64 0),(.int .i64 0),(.int .i64 0),(.int .i64 0),(.int .i64 0),(.int .i64 0),(.int .i64 0),(.int .i64 0),(.int .i64 0),(.int .i64 0),(.int .i64 0),(.int .i64 0),(.int .i64 0),(.int .i64 0),(.int .i64 0),(.int .i64 0),(.int .i64 0),(.int .i64 0),(.int .i64 0),(.int .i64 0),(.int .i64 0),(.int .i64 0),(.int .i64 0),(.int .i64 0),(.int .i64 0),(.int .i64 0),(.int .i64 0),(.int .i64 0),(.int .i64 0),(.int .i64 0),(.int .i64 0),(.int .i64 0),(.int .i64 0),(.int .i64 0),(.int .i64 0),(.int .i64 0),(.int .i64 0),(.int .i64 0),(.int .i64 0),(.int .i64 0),(.int .i64 0),(.int .i64 0),(.int .i64 0),(.int .i64 0),(.int .i64 0),(.int .i64 0),(.int .i64 0),(.int .i64 0),(.int .i64 0),(.int .i64 0),(.int .i64 0),(.int .i64 0),(.int .i64 0),(.int .i64 0),(.int .i64 0),(.int .i64 0),(.int .i64 0),(.int .i64 0),(.int .i64 0),(.int .i64 0),(.int .i64 0),(.int .i64 0),(.int .i64 0),(.int .i64 0),(.int .i64 0),(.int .i64 0),(.int .i64 0),(.int .i64 0),(.int .i64 0),(.int .i64 0),(.int .i64 0),(.int .i64 0),(.int .i64 0),(.int .i64 0),(.int .i64 0),(.int .i64 0),(.int .i64 0),(.int .i64 0),(.int .i64 0),(.int .i64 0),(.int .i64 0),(.int .i64 0),(.int .i64 0),(.int .i64 0),(.int .i64 0),(.int .i64 0),(.int .i64 0),(.int .i64 0),(.int .i64 0),(.int .i64 0),(.int .i64 0),(.int .i64 0),(.int .i64 0)] 1872 true true)),(216,(.mk .func 1 [.nilFunc] 8 false false)),(223,(.mk (.struct [(0,(38,2)),(2,(38,2)),(4,(36,1))]) 5 [(.string (.mk (.mk []))),(.string (.mk (.mk []))),(.string (.mk (.mk []))),(.string (.mk (.mk []))),(.string (.mk (.mk [])))] 80 true true)),(227,(.mk (.array 3 3 1) 3 [(.int .i64 0),(.int .i64 0),(.int .i64 0)] 24 false false)),(228,(.mk (.array 2 227 3) 6 [(.int .i64 0),(.int .i64 0),(.int .i64 0),(.int .i64 0),(.int .i64 0),(.int .i64 0)] 48 false false)),(252,(.mk (.ptr 267) 1 [(.pointer .none)] 8 false false)),(264,(.mk .func 1 [.nilFunc] 8 false false)),(265,(.mk (.ptr 5) 1 [(.pointer .none)] 8 false false)),(267,(.mk (.struct [(0,(26,1))]) 1 [(.int .i64 0)] 8 true true)),(269,(.mk .func 1 [.nilFunc] 8 false false)),(270,(.mk .func 1 [.nilFunc] 8 false false)),(288,(.mk (.int .u32) 1 [(.int .u32 0)] 4 false false)),(296,(.mk (.int .u64) 1 [(.int .u64 0)] 8 false false)),(316,(.mk (.array 20 296 1) 20 [(.int .u64 0),(.int .u64 0),(.int .u64 0),(.int .u64 0),(.int .u64 0),(.int .u64 0),(.int .u64 0),(.int .u64 0),(.int .u64 0),(.int .u64 0),(.int .u64 0),(.int .u64 0),(.int .u64 0),(.int .u64 0),(.int .u64 0),(.int .u64 0),(.int .u64 0),(.int .u64 0),(.int .u64 0),(.int .u64 0)] 160 false false)),(324,(.mk (.array 0 16 1) 0 [] 0 false false)),(326,(.mk (.struct [(0,(324,0))]) 0 [] 0 false true)),(328,(.mk (.int .u8) 1 [(.int .u8 0)] 1 false false)),(329,(.mk (.int .u8) 1 [(.int .u8 0)] 1 false false)),(330,(.mk .func 1 [.nilFunc] 8 false false)),(331,(.mk (.int .i32) 1 [(.int .i32 0)] 4 false false)),(332,(.mk (.int .i32) 1 [(.int .i32 0)] 4 false false)),(334,(.mk (.struct [(0,(12,1)),(1,(12,1)),(2,(288,1)),(3,(328,1)),(4,(5,1)),(5,(5,1)),(6,(329,1)),(7,(330,1)),(8,(265,1)),(9,(331,1)),(10,(332,1))]) 11 [(.int .u64 0),(.int .u64 0),(.int .u32 0),(.int .u8 0),(.int .u8 0),(.int .u8 0),(.int .u8 0),.nilFunc,(.pointer .none),(.int .i32 0),(.int .i32 0)] 48 false true))]
noncomputable def qc:List (Nat×AV):=[(6,(.eptr [.int .u64,.int .u64,.int .u64,.int .u64,.int .u64,.int .u64,.int .u64,.int .u64,.int .u64,.int .u64,.int .u64,.int .u64,.int .u64,.int .u64,.int .u64,.int .u64,.int .u64,.int .u64,.int .u64,.int .u64] [[.i 1,.i 10,.i 100,.i 1000,.i 10000,.i 100000,.i 1000000,.i 10000000,.i 100000000,.i 1000000000,.i 10000000000,.i 100000000000,.i 1000000000000,.i 10000000000000,.i 100000000000000,.i 1000000000000000,.i 10000000000000000,.i 100000000000000000,.i 1000000000000000000,.i 10000000000000000000]] 0 0)),(0,(.eptr [.int .i64,.int .i64,.int .i64,.int .i64,.int .i64,.int .i64] [[.i (-1),.i (-1),.i 1,.i 1,.i 1,.i (-1)]] 0 0))]
theorem q9:qde.map (fun x=>qtT Tryz.prog x.1)=qde.map (·.2):=by kernel_rfl
theorem qe:Tryz.prog.follows .mixedOrders=true:=by kernel_rfl
noncomputable def qa(s:List (FuncId×(List AV→List Blk→Tree (AV×List Blk))))(b:List (FuncId×Func))(l:List ((FuncId×Nat)×(St→Tree (Ex×St))))(n:Nat):Env:=⟨qde,qc,s,b,l,n,[]⟩
def q1x:FIn:=⟨[.str,.str],[]⟩
def q1P:List FOut:=[⟨(.int .i64),[],none⟩]
noncomputable def vb:List PV→TR:=qtW
theorem q65:zb Tryz.prog qc 217 (q8 q1x q1P vb):=qwc Tryz.lays219 (q2n Tryz.func217 (by kernel_rfl) (by kernel_rfl))
def u5:FIn:=⟨[.str,.str],[]⟩
def yZ:List FOut:=[⟨(.tuple [.str,.str,.bool]),[],none⟩]
noncomputable def q35:=qa [(217,q8 q1x q1P vb)] [(184,Tryz.f184)] [] 0
noncomputable def wd:=qo q35 184 Tryz.f184 true u5 yZ
theorem q7B:zb Tryz.prog qc 184 (q8 u5 yZ wd):=sk q35 qe q9 (alc q65 aln) aln (b1 Tryz.func184) Tryz.func184
def qdr:FIn:=⟨[.str,.str],[]⟩
def qcY:List FOut:=[⟨(.tuple [.str,.str,.bool]),[],none⟩]
noncomputable def qk2:=qa [(184,q8 u5 yZ wd)] [(152,Tryz.f152)] [] 0
noncomputable def q4U:=qo qk2 152 Tryz.f152 true qdr qcY
theorem qmC:zb Tryz.prog qc 152 (q8 qdr qcY q4U):=sk qk2 qe q9 (alc q7B aln) aln (b1 Tryz.func152) Tryz.func152
def q2j:FIn:=⟨[.str],[]⟩
def q2e:List FOut:=[⟨(.tuple [.str,.str,.bool]),[],none⟩]
noncomputable def qnr:=qa [(152,q8 qdr qcY q4U)] [(112,Tryz.f112)] [] 0
noncomputable def qK:=qo qnr 112 Tryz.f112 true q2j q2e
theorem q1d:zb Tryz.prog qc 112 (q8 q2j q2e qK):=sk qnr qe q9 (alc qmC aln) aln (b1 Tryz.func112) Tryz.func112
def zI:FIn:=⟨[.str,.str],[]⟩
def zJ:List FOut:=[⟨.bool,[],none⟩]
noncomputable def kn:=qa [] [(218,Tryz.f218)] [] 0
noncomputable def qD:=qo kn 218 Tryz.f218 true zI zJ
theorem yN:zb Tryz.prog qc 218 (q8 zI zJ qD):=sk kn qe q9 aln aln (b1 Tryz.func218) Tryz.func218
def vk:FIn:=⟨[.str,.str],[]⟩
def vw:List FOut:=[⟨.str,[],none⟩]
noncomputable def uA:=qa [(218,q8 zI zJ qD)] [(185,Tryz.f185)] [] 0
noncomputable def z8:=qo uA 185 Tryz.f185 true vk vw
theorem q3q:zb Tryz.prog qc 185 (q8 vk vw z8):=sk uA qe q9 (alc yN aln) aln (b1 Tryz.func185) Tryz.func185
def vD:FIn:=⟨[.str,.str],[]⟩
def vC:List FOut:=[⟨.str,[],none⟩]
noncomputable def q7M:=qa [(185,q8 vk vw z8)] [(153,Tryz.f153)] [] 0
noncomputable def qM:=qo q7M 153 Tryz.f153 true vD vC
theorem ye:zb Tryz.prog qc 153 (q8 vD vC qM):=sk q7M qe q9 (alc q3q aln) aln (b1 Tryz.func153) Tryz.func153
def qgJ:FIn:=⟨[.str,.str],[]⟩
def qh7:List FOut:=[⟨.str,[],none⟩]
noncomputable def q6l:List PV→TR:=qyB
theorem qlh:zb Tryz.prog qc 154 (q8 qgJ qh7 q6l):=qxq Tryz.lays160 (q2n Tryz.func154 (by kernel_rfl) (by kernel_rfl)) (by kernel_rfl)
def j7:FIn:=⟨[.str],[]⟩
def vT:List FOut:=[⟨(.int .i64),[],none⟩]
noncomputable def qjC:=qa [(153,q8 vD vC qM),(154,q8 qgJ qh7 q6l)] [(113,Tryz.f113)] [] 0
noncomputable def qJ:=qo qjC 113 Tryz.f113 true j7 vT
theorem vF:zb Tryz.prog qc 113 (q8 j7 vT qJ):=sk qjC qe q9 (alc ye (alc qlh aln)) aln (b1 Tryz.func113) Tryz.func113
def uM:FIn:=⟨[(.imm [.str])],[]⟩
def ke:List FOut:=[⟨(.int .i64),[],none⟩]
def qdx:Tmpl:={ t:=(qz 6 ((.imm [.str])::(.int .i64)::(.int .i64)::qz 9 [])),h:=[] }
def qd4:List Out:=[⟨(.exit 0),{ t:=(qz 18 []),h:=[] }⟩,⟨.ret,{ t:=(.any::.any::(.int .i64)::qz 15 []),h:=[] }⟩]
noncomputable def q7W:=qa [(113,q8 j7 vT qJ)] [(155,Tryz.f155)] [] 0
noncomputable def q5l:=vd q7W 155 Tryz.f155 3 qdx qd4
theorem qmw:qp Tryz.prog qc q7W.nimp (qy Tryz.prog q7W.iter 155) (zu Tryz.f155 3) (qk qdx qd4 (qg q5l)):=
 gk q7W qe q9 (alc vF aln) aln (b1 Tryz.func155) Tryz.func155
noncomputable def qn1:=qa [(113,q8 j7 vT qJ)] [(155,Tryz.f155)] [((155,3),qk qdx qd4 (qg q5l))] 0
noncomputable def zG:=qo qn1 155 Tryz.f155 true uM ke
theorem yl:zb Tryz.prog qc 155 (q8 uM ke zG):=sk qn1 qe q9 (alc vF aln) (alc (lk Tryz.func155 qmw) aln) (b1 Tryz.func155) Tryz.func155
def q6P:FIn:=⟨[.str],[]⟩
def q6Q:List FOut:=[⟨(.int .i64),[],none⟩]
noncomputable def qlA:=qa [] [(156,Tryz.f156)] [] 0
noncomputable def yk:=qo qlA 156 Tryz.f156 true q6P q6Q
theorem q9S:zb Tryz.prog qc 156 (q8 q6P q6Q yk):=sk qlA qe q9 aln aln (b1 Tryz.func156) Tryz.func156
def qcw:FIn:=⟨[.str,.str],[]⟩
def qcz:List FOut:=[⟨(.int .i64),[],none⟩]
noncomputable def q32:List PV→TR:=qmF
theorem qgs:zb Tryz.prog qc 193 (q8 qcw qcz q32):=qsy Tryz.lays106 (q2n Tryz.func193 (by kernel_rfl) (by kernel_rfl))
def qcL:FIn:=⟨[.str,.str],[]⟩
def qdi:List FOut:=[⟨(.int .i64),[],none⟩]
noncomputable def qiH:=qa [(193,q8 qcw qcz q32)] [(157,Tryz.f157)] [] 0
noncomputable def q50:=qo qiH 157 Tryz.f157 true qcL qdi
theorem qmk:zb Tryz.prog qc 157 (q8 qcL qdi q50):=sk qiH qe q9 (alc qgs aln) aln (b1 Tryz.func157) Tryz.func157
def q8X:FIn:=⟨[.str,.str],[]⟩
def q91:List FOut:=[⟨(.tuple [(.int .i64),(.int .i64)]),[],none⟩]
noncomputable def qeM:=qa [(153,q8 vD vC qM),(155,q8 uM ke zG),(156,q8 q6P q6Q yk),(157,q8 qcL qdi q50)] [(114,Tryz.f114)] [] 0
noncomputable def q1W:=qo qeM 114 Tryz.f114 true q8X q91
theorem qit:zb Tryz.prog qc 114 (q8 q8X q91 q1W):=sk qeM qe q9 (alc ye (alc yl (alc q9S (alc qmk aln)))) aln (b1 Tryz.func114) Tryz.func114
def q6u:FIn:=⟨[.str],[]⟩
def q6s:List FOut:=[⟨(.tuple [(.int .i64),.any]),[],none⟩]
noncomputable def ve:List PV→TR:=qzG
theorem q5V:zb Tryz.prog qc 194 (q8 q6u q6s ve):=qxM Tryz.lays172 (q2n Tryz.func194 (by kernel_rfl) (by kernel_rfl))
def zf:FIn:=⟨[(.ptr 0 0)],[.big [.bool,(.int .i64)] .i64 232]⟩
def zg:List FOut:=[⟨(.ptr 0 0),[.big [.bool,(.int .i64)] .i64 232],none⟩]
def q1i:Tmpl:={ t:=((.ptr 0 0)::qz 28 []),h:=[.big [.bool,(.int .i64)] .i64 232] }
def q1p:List Out:=[⟨(.exit 0),{ t:=((.ptr 0 0)::qz 28 []),h:=[.big [.bool,(.int .i64)] .i64 232] }⟩]
noncomputable def yU:=qa [] [(195,Tryz.f195)] [] 1
noncomputable def vK:=vd yU 195 Tryz.f195 2 q1i q1p
theorem qb1:qp Tryz.prog qc yU.nimp (qy Tryz.prog yU.iter 195) (zu Tryz.f195 2) (qk q1i q1p (qg vK)):=
 gk yU qe q9 aln aln (b1 Tryz.func195) Tryz.func195
noncomputable def q7L:=qa [] [(195,Tryz.f195)] [((195,2),qk q1i q1p (qg vK))] 1
noncomputable def qx:=qo q7L 195 Tryz.f195 false zf zg
theorem zq:zb Tryz.prog qc 195 (q8 zf zg qx):=qnO (E:=q7L) qe ⟨q9n q9,aln,(alc (lk Tryz.func195 qb1) aln),(b1 Tryz.func195)⟩ Tryz.func195 (by kernel_rfl) (by kernel_rfl) (fun _=>rfl)
def ux:FIn:=⟨[.str],[]⟩
def uo:List FOut:=[⟨(.ptr 0 0),[.big [.bool,(.int .i64)] .i64 232],none⟩]
def qbv:Tmpl:={ t:=(.any::.any::.any::.str::(.ptr 0 0)::qz 43 []),h:=[.big [.bool,(.int .i64)] .i64 232] }
def qaP:List Out:=[⟨(.exit 0),{ t:=(qz 4 ((.ptr 0 0)::qz 43 [])),h:=[.big [.bool,(.int .i64)] .i64 232] }⟩]
noncomputable def q6z:=qa [(153,q8 vD vC qM),(194,q8 q6u q6s ve),(195,q8 zf zg qx)] [(158,Tryz.f158)] [] 0
noncomputable def q3L:=vd q6z 158 Tryz.f158 5 qbv qaP
theorem qkV:qp Tryz.prog qc q6z.nimp (qy Tryz.prog q6z.iter 158) (zu Tryz.f158 5) (qk qbv qaP (qg q3L)):=
 gk q6z qe q9 (alc ye (alc q5V (alc zq aln))) aln (b1 Tryz.func158) Tryz.func158
noncomputable def qlS:=qa [(153,q8 vD vC qM),(194,q8 q6u q6s ve),(195,q8 zf zg qx)] [(158,Tryz.f158)] [((158,5),qk qbv qaP (qg q3L))] 0
noncomputable def zp:=qo qlS 158 Tryz.f158 false ux uo
theorem yO:zb Tryz.prog qc 158 (q8 ux uo zp):=qnO (E:=qlS) qe ⟨q9n q9,(alc ye (alc q5V (alc zq aln))),(alc (lk Tryz.func158 qkV) aln),(b1 Tryz.func158)⟩ Tryz.func158 (by kernel_rfl) (by kernel_rfl) (fun _=>rfl)
def qgS:FIn:=⟨[(.int .i64)],[]⟩
def qgY:List FOut:=[⟨.str,[],none⟩]
noncomputable def q3y:List PV→TR:=qzT
theorem qkm:zb Tryz.prog qc 196 (q8 qgS qgY q3y):=qxR Tryz.laysM171 (q2n Tryz.func196 (by kernel_rfl) (by kernel_rfl)) (by kernel_rfl) (by unfold qc;exact List.mem_cons_self)
def q2N:FIn:=⟨[(.int .i64)],[]⟩
def q34:List FOut:=[⟨.str,[],none⟩]
noncomputable def qqB:=qa [(196,q8 qgS qgY q3y)] [(159,Tryz.f159)] [] 0
noncomputable def zi:=qo qqB 159 Tryz.f159 true q2N q34
theorem q0s:zb Tryz.prog qc 159 (q8 q2N q34 zi):=sk qqB qe q9 (alc qkm aln) aln (b1 Tryz.func159) Tryz.func159
def vN:FIn:=⟨[(.ptr 0 0),(.ptr 1 0)],[.big [.bool,(.int .i64)] .i64 232,.big [.bool,(.int .i64)] .i64 232]⟩
def vS:List FOut:=[⟨(.int .i64),[.big [.bool,(.int .i64)] .i64 232,.big [.bool,(.int .i64)] .i64 232],none⟩]
def q2d:Tmpl:={ t:=((.ptr 0 0)::(.ptr 1 0)::.any::.any::.any::(.int .i64)::qz 53 []),h:=[.big [.bool,(.int .i64)] .i64 232,.big [.bool,(.int .i64)] .i64 232] }
def q2a:List Out:=[⟨(.exit 0),{ t:=(qz 59 []),h:=[.big [.bool,(.int .i64)] .i64 232,.big [.bool,(.int .i64)] .i64 232] }⟩,⟨.ret,{ t:=(qz 4 ((.int .i64)::qz 54 [])),h:=[.big [.bool,(.int .i64)] .i64 232,.big [.bool,(.int .i64)] .i64 232] }⟩]
noncomputable def uw:=qa [] [(197,Tryz.f197)] [] 2
noncomputable def je:=vd uw 197 Tryz.f197 6 q2d q2a
theorem qch:qp Tryz.prog qc uw.nimp (qy Tryz.prog uw.iter 197) (zu Tryz.f197 6) (qk q2d q2a (qg je)):=
 gk uw qe q9 aln aln (b1 Tryz.func197) Tryz.func197
noncomputable def q9G:=qa [] [(197,Tryz.f197)] [((197,6),qk q2d q2a (qg je))] 2
noncomputable def zt:=qo q9G 197 Tryz.f197 true vN vS
theorem yT:zb Tryz.prog qc 197 (q8 vN vS zt):=sk q9G qe q9 aln (alc (lk Tryz.func197 qch) aln) (b1 Tryz.func197) Tryz.func197
def q0Z:FIn:=⟨[(.ptr 0 0),(.ptr 1 0)],[.big [.bool,(.int .i64)] .i64 232,.big [.bool,(.int .i64)] .i64 232]⟩
def q0W:List FOut:=[⟨(.int .i64),[.big [.bool,(.int .i64)] .i64 232,.big [.bool,(.int .i64)] .i64 232],none⟩]
noncomputable def qdM:=qa [] [(198,Tryz.f198),(227,Tryz.f227)] [] 2
noncomputable def jK:=qo qdM 198 Tryz.f198 true q0Z q0W
theorem q4k:zb Tryz.prog qc 198 (q8 q0Z q0W jK):=sk qdM qe q9 aln aln (alc (bk Tryz.func198) (alc (bk Tryz.func227) aln)) Tryz.func198
def wh:FIn:=⟨[(.ptr 0 0),(.ptr 1 0),(.int .i64),(.int .i64)],[.big [.bool,(.int .i64)] .i64 232,.big [.bool,(.int .i64)] .i64 232]⟩
def wj:List FOut:=[⟨(.tuple []),[.big [.bool,(.int .i64)] .i64 232,.big [.bool,(.int .i64)] .i64 232],none⟩]
def q3n:Tmpl:={ t:=((.ptr 0 0)::(.ptr 1 0)::(.int .i64)::(.int .i64)::qz 4 ((.int .i64)::(.int .i64)::qz 73 [])),h:=[.big [.bool,(.int .i64)] .i64 232,.big [.bool,(.int .i64)] .i64 232] }
def q39:List Out:=[⟨(.exit 0),{ t:=((.ptr 0 0)::qz 82 []),h:=[.big [.bool,(.int .i64)] .i64 232,.big [.bool,(.int .i64)] .i64 232] }⟩]
noncomputable def kr:=qa [(195,q8 zf zg qx)] [(199,Tryz.f199)] [] 2
noncomputable def vB:=vd kr 199 Tryz.f199 3 q3n q39
theorem qdk:qp Tryz.prog qc kr.nimp (qy Tryz.prog kr.iter 199) (zu Tryz.f199 3) (qk q3n q39 (qg vB)):=
 gk kr qe q9 (alc zq aln) aln (b1 Tryz.func199) Tryz.func199
noncomputable def qap:=qa [(195,q8 zf zg qx)] [(199,Tryz.f199)] [((199,3),qk q3n q39 (qg vB))] 2
noncomputable def qF:=qo qap 199 Tryz.f199 true wh wj
theorem va:zb Tryz.prog qc 199 (q8 wh wj qF):=sk qap qe q9 (alc zq aln) (alc (lk Tryz.func199 qdk) aln) (b1 Tryz.func199) Tryz.func199
def kS:FIn:=⟨[(.ptr 0 0),(.ptr 1 0)],[.big [.bool,(.int .i64)] .i64 232,.big [.bool,(.int .i64)] .i64 232]⟩
def kz:List FOut:=[⟨(.tuple [(.ptr 2 0),(.ptr 3 0)]),[.big [.bool,(.int .i64)] .i64 232,.big [.bool,(.int .i64)] .i64 232,.big [.bool,(.int .i64)] .i64 232,.big [.bool,(.int .i64)] .i64 232],none⟩]
def q5m:Tmpl:={ t:=((.ptr 0 0)::(.ptr 1 0)::qz 4 ((.ptr 2 0)::(.ptr 3 0)::(.int .i64)::(.int .i64)::qz 80 [])),h:=[.big [.bool,(.int .i64)] .i64 232,.big [.bool,(.int .i64)] .i64 232,.big [.bool,(.int .i64)] .i64 232,.big [.bool,(.int .i64)] .i64 232] }
def q56:List Out:=[⟨(.exit 2),{ t:=((.ptr 0 0)::(.ptr 1 0)::qz 4 ((.ptr 2 0)::(.ptr 3 0)::(.int .i64)::(.int .i64)::qz 80 [])),h:=[.big [.bool,(.int .i64)] .i64 232,.big [.bool,(.int .i64)] .i64 232,.big [.bool,(.int .i64)] .i64 232,.big [.bool,(.int .i64)] .i64 232] }⟩]
noncomputable def q1u:=qa [(195,q8 zf zg qx),(197,q8 vN vS zt),(198,q8 q0Z q0W jK),(199,q8 wh wj qF)] [(160,Tryz.f160)] [] 2
noncomputable def js:=vd q1u 160 Tryz.f160 14 q5m q56
theorem qeO:qp Tryz.prog qc q1u.nimp (qy Tryz.prog q1u.iter 160) (zu Tryz.f160 14) (qk q5m q56 (qg js)):=
 gk q1u qe q9 (alc zq (alc yT (alc q4k (alc va aln)))) aln (b1 Tryz.func160) Tryz.func160
def q67:Tmpl:={ t:=((.ptr 0 0)::(.ptr 1 0)::qz 4 ((.ptr 2 0)::(.ptr 3 0)::(.int .i64)::qz 81 [])),h:=[.big [.bool,(.int .i64)] .i64 232,.big [.bool,(.int .i64)] .i64 232,.big [.bool,(.int .i64)] .i64 232,.big [.bool,(.int .i64)] .i64 232] }
def q68:List Out:=[⟨(.exit 0),{ t:=(qz 6 ((.ptr 2 0)::(.ptr 3 0)::qz 82 [])),h:=[.big [.bool,(.int .i64)] .i64 232,.big [.bool,(.int .i64)] .i64 232,.big [.bool,(.int .i64)] .i64 232,.big [.bool,(.int .i64)] .i64 232] }⟩]
noncomputable def q2D:=qa [(195,q8 zf zg qx),(197,q8 vN vS zt),(198,q8 q0Z q0W jK),(199,q8 wh wj qF)] [(160,Tryz.f160)] [((160,14),qk q5m q56 (qg js))] 2
noncomputable def q0g:=vd q2D 160 Tryz.f160 4 q67 q68
theorem qgw:qp Tryz.prog qc q2D.nimp (qy Tryz.prog q2D.iter 160) (zu Tryz.f160 4) (qk q67 q68 (qg q0g)):=
 gk q2D qe q9 (alc zq (alc yT (alc q4k (alc va aln)))) (alc (lk Tryz.func160 qeO) aln) (b1 Tryz.func160) Tryz.func160
noncomputable def qeZ:=qa [(195,q8 zf zg qx),(197,q8 vN vS zt),(198,q8 q0Z q0W jK),(199,q8 wh wj qF)] [(160,Tryz.f160)] [((160,4),qk q67 q68 (qg q0g))] 2
noncomputable def wu:=qo qeZ 160 Tryz.f160 false kS kz
theorem q1y:zb Tryz.prog qc 160 (q8 kS kz wu):=qnO (E:=qeZ) qe ⟨q9n q9,(alc zq (alc yT (alc q4k (alc va aln)))),(alc (lk Tryz.func160 qgw) aln),(b1 Tryz.func160)⟩ Tryz.func160 (by kernel_rfl) (by kernel_rfl) (fun _=>rfl)
def yG:FIn:=⟨[(.ptr 0 0)],[.big [.bool,(.int .i64)] .i64 232]⟩
def yE:List FOut:=[⟨.str,[.big [.bool,(.int .i64)] .i64 232],none⟩]
noncomputable def qG:List PV→TR:=qAC
theorem jT:zb Tryz.prog qc 161 (q8 yG yE qG):=qxA (by unfold qc;exact List.mem_cons_self)
def q99:FIn:=⟨[.str,.str],[]⟩
def q9I:List FOut:=[⟨(.tuple [.str,(.int .i64)]),[],none⟩]
def qbd:Tmpl:={ t:=(qz 9 ((.int .i64)::(.int .i64)::qz 61 [])),h:=[] }
def qba:List Out:=[⟨(.exit 2),{ t:=(qz 9 ((.int .i64)::qz 62 [])),h:=[] }⟩]
noncomputable def q6i:=qa [(155,q8 uM ke zG),(158,q8 ux uo zp),(159,q8 q2N q34 zi),(160,q8 kS kz wu),(161,q8 yG yE qG)] [(115,Tryz.f115)] [] 0
noncomputable def q1e:=vd q6i 115 Tryz.f115 14 qbd qba
theorem qli:qp Tryz.prog qc q6i.nimp (qy Tryz.prog q6i.iter 115) (zu Tryz.f115 14) (qk qbd qba (qg q1e)):=
 gk q6i qe q9 (alc yl (alc yO (alc q0s (alc q1y (alc jT aln))))) aln (b1 Tryz.func115) Tryz.func115
def qdK:Tmpl:={ t:=(qz 7 ((.ptr 1 0)::(.ptr 2 0)::qz 63 [])),h:=[.dead,.big [.bool,(.int .i64)] .i64 232,.big [.bool,(.int .i64)] .i64 232],sw:=[(7,1),(8,2)],swn:=0 }
def qcN:List Out:=[⟨(.exit 0),{ t:=(qz 7 ((.ptr 1 0)::qz 64 [])),h:=[.dead,.big [.bool,(.int .i64)] .i64 232] }⟩,⟨.ret,{ t:=(qz 4 (.str::(.int .i64)::qz 66 [])),h:=[] }⟩]
noncomputable def q8u:=qa [(155,q8 uM ke zG),(158,q8 ux uo zp),(159,q8 q2N q34 zi),(160,q8 kS kz wu),(161,q8 yG yE qG)] [(115,Tryz.f115)] [((115,14),qk qbd qba (qg q1e))] 0
noncomputable def q5a:=vd q8u 115 Tryz.f115 7 qdK qcN
theorem qmi:qp Tryz.prog qc q8u.nimp (qy Tryz.prog q8u.iter 115) (zu Tryz.f115 7) (qk qdK qcN (qg q5a)):=
 gk q8u qe q9 (alc yl (alc yO (alc q0s (alc q1y (alc jT aln))))) (alc (lk Tryz.func115 qli) aln) (b1 Tryz.func115) Tryz.func115
noncomputable def qn0:=qa [(155,q8 uM ke zG),(158,q8 ux uo zp),(159,q8 q2N q34 zi),(160,q8 kS kz wu),(161,q8 yG yE qG)] [(115,Tryz.f115)] [((115,7),qk qdK qcN (qg q5a))] 0
noncomputable def q23:=qo qn0 115 Tryz.f115 true q99 q9I
theorem qaX:zb Tryz.prog qc 115 (q8 q99 q9I q23):=sk qn0 qe q9 (alc yl (alc yO (alc q0s (alc q1y (alc jT aln))))) (alc (lk Tryz.func115 qmi) aln) (b1 Tryz.func115) Tryz.func115
def vo:FIn:=⟨[.str],[]⟩
def vj:List FOut:=[⟨(.int .i64),[],none⟩]
noncomputable def qjL:=qa [(112,q8 q2j q2e qK),(113,q8 j7 vT qJ),(114,q8 q8X q91 q1W),(115,q8 q99 q9I q23)] [(75,Tryz.f75)] [] 0
noncomputable def qE:=qo qjL 75 Tryz.f75 true vo vj
theorem wL:zb Tryz.prog qc 75 (q8 vo vj qE):=sk qjL qe q9 (alc q1d (alc vF (alc qit (alc qaX aln)))) aln (b1 Tryz.func75) Tryz.func75
def q2L:FIn:=⟨[(.agg [.str,.str,.str])],[]⟩
def q2w:List FOut:=[⟨(.int .i64),[],none⟩]
def q8R:Tmpl:={ t:=(.any::(.ptr 0 0)::qz 12 ((.vec 1)::(.int .i64)::(.int .i64)::qz 13 [])),h:=[.cells [.str,.str,.str],.vec 36 [.str]] }
def q95:List Out:=[⟨(.exit 0),{ t:=(.any::(.ptr 0 0)::qz 28 []),h:=[.cells [.str,.str,.str]] }⟩,⟨.ret,{ t:=(.any::.any::(.int .i64)::qz 27 []),h:=[] }⟩]
noncomputable def q4W:=qa [(75,q8 vo vj qE)] [(74,Tryz.f74)] [] 0
noncomputable def q2s:=vd q4W 74 Tryz.f74 3 q8R q95
theorem qiM:qp Tryz.prog qc q4W.nimp (qy Tryz.prog q4W.iter 74) (zu Tryz.f74 3) (qk q8R q95 (qg q2s)):=
 gk q4W qe q9 (alc wL aln) aln (b1 Tryz.func74) Tryz.func74
noncomputable def qiO:=qa [(75,q8 vo vj qE)] [(74,Tryz.f74)] [((74,3),qk q8R q95 (qg q2s))] 0
noncomputable def jZ:=qo qiO 74 Tryz.f74 true q2L q2w
theorem q40:zb Tryz.prog qc 74 (q8 q2L q2w jZ):=sk qiO qe q9 (alc wL aln) (alc (lk Tryz.func74 qiM) aln) (b1 Tryz.func74) Tryz.func74
def jn:FIn:=⟨[(.imm [.str,.str,.str])],[]⟩
def jb:List FOut:=[⟨(.int .i64),[],none⟩]
def qby:Tmpl:={ t:=((.imm [.str,.str,.str])::qz 8 ((.imm [.str,.str,.str])::(.int .i64)::(.int .i64)::qz 12 [])),h:=[] }
def qbl:List Out:=[⟨(.exit 0),{ t:=((.imm [.str,.str,.str])::qz 23 []),h:=[] }⟩,⟨.ret,{ t:=(.any::.any::(.int .i64)::qz 21 []),h:=[] }⟩]
noncomputable def q6B:=qa [(74,q8 q2L q2w jZ)] [(62,Tryz.f62)] [] 0
noncomputable def q3H:=vd q6B 62 Tryz.f62 6 qby qbl
theorem qld:qp Tryz.prog qc q6B.nimp (qy Tryz.prog q6B.iter 62) (zu Tryz.f62 6) (qk qby qbl (qg q3H)):=
 gk q6B qe q9 (alc q40 aln) aln (b1 Tryz.func62) Tryz.func62
noncomputable def qly:=qa [(74,q8 q2L q2w jZ)] [(62,Tryz.f62)] [((62,6),qk qby qbl (qg q3H))] 0
noncomputable def zL:=qo qly 62 Tryz.f62 true jn jb
theorem vq:zb Tryz.prog qc 62 (q8 jn jb zL):=sk qly qe q9 (alc q40 aln) (alc (lk Tryz.func62 qld) aln) (b1 Tryz.func62) Tryz.func62
def q4N:FIn:=⟨[.str,.str],[]⟩
def q5q:List FOut:=[⟨(.tuple [(.int .i64),(.int .i64),.bool]),[],none⟩]
noncomputable def qj6:=qa [(194,q8 q6u q6s ve)] [(257,Tryz.f257)] [] 0
noncomputable def yh:=qo qj6 257 Tryz.f257 true q4N q5q
theorem q7C:zb Tryz.prog qc 257 (q8 q4N q5q yh):=sk qj6 qe q9 (alc q5V aln) aln (b1 Tryz.func257) Tryz.func257
def q6n:FIn:=⟨[(.int .i64)],[]⟩
def q6q:List FOut:=[⟨(.tuple [.str,(.int .i64)]),[],none⟩]
noncomputable def qhb:=qa [(159,q8 q2N q34 zi)] [(258,Tryz.f258)] [] 0
noncomputable def kh:=qo qhb 258 Tryz.f258 true q6n q6q
theorem qbQ:zb Tryz.prog qc 258 (q8 q6n q6q kh):=sk qhb qe q9 (alc q0s aln) aln (b1 Tryz.func258) Tryz.func258
def jX:FIn:=⟨[(.ptr 0 0)],[.big [.bool,(.int .i64)] .i64 232]⟩
def jQ:List FOut:=[⟨(.tuple [.str,(.int .i64)]),[.big [.bool,(.int .i64)] .i64 232],none⟩]
noncomputable def q7I:=qa [(113,q8 j7 vT qJ),(161,q8 yG yE qG)] [(260,Tryz.f260)] [] 1
noncomputable def zF:=qo q7I 260 Tryz.f260 true jX jQ
theorem q0D:zb Tryz.prog qc 260 (q8 jX jQ zF):=sk q7I qe q9 (alc vF (alc jT aln)) aln (b1 Tryz.func260) Tryz.func260
def kW:FIn:=⟨[(.ptr 0 0),(.ptr 1 0)],[.big [.bool,(.int .i64)] .i64 232,.big [.bool,(.int .i64)] .i64 232]⟩
def kP:List FOut:=[⟨(.tuple []),[.big [.bool,(.int .i64)] .i64 232,.big [.bool,(.int .i64)] .i64 232],none⟩]
noncomputable def qc1:=qa [(197,q8 vN vS zt),(199,q8 wh wj qF)] [(274,Tryz.f274)] [] 2
noncomputable def zX:=qo qc1 274 Tryz.f274 true kW kP
theorem q3a:zb Tryz.prog qc 274 (q8 kW kP zX):=sk qc1 qe q9 (alc yT (alc va aln)) aln (b1 Tryz.func274) Tryz.func274
def qib:FIn:=⟨[(.imm [.str])],[]⟩
def qhH:List FOut:=[⟨(.tuple [.str,(.int .i64)]),[],none⟩]
def qcO:Tmpl:={ t:=(qz 4 ((.ptr 0 0)::qz 4 ((.imm [.str])::(.int .i64)::(.int .i64)::qz 12 []))),h:=[.big [.bool,(.int .i64)] .i64 232] }
def qcT:List Out:=[⟨(.exit 0),{ t:=(qz 4 ((.ptr 0 0)::qz 19 [])),h:=[.big [.bool,(.int .i64)] .i64 232] }⟩]
noncomputable def q8k:=qa [(158,q8 ux uo zp),(260,q8 jX jQ zF),(274,q8 kW kP zX)] [(261,Tryz.f261)] [] 0
noncomputable def q4P:=vd q8k 261 Tryz.f261 4 qcO qcT
theorem qmA:qp Tryz.prog qc q8k.nimp (qy Tryz.prog q8k.iter 261) (zu Tryz.f261 4) (qk qcO qcT (qg q4P)):=
 gk q8k qe q9 (alc yO (alc q0D (alc q3a aln))) aln (b1 Tryz.func261) Tryz.func261
noncomputable def qoA:=qa [(158,q8 ux uo zp),(260,q8 jX jQ zF),(274,q8 kW kP zX)] [(261,Tryz.f261)] [((261,4),qk qcO qcT (qg q4P))] 0
noncomputable def q8U:=qo qoA 261 Tryz.f261 true qib qhH
theorem qpZ:zb Tryz.prog qc 261 (q8 qib qhH q8U):=sk qoA qe q9 (alc yO (alc q0D (alc q3a aln))) (alc (lk Tryz.func261 qmA) aln) (b1 Tryz.func261) Tryz.func261
def q9D:FIn:=⟨[.str,.str],[]⟩
def q8O:List FOut:=[⟨(.tuple [.str,(.int .i64)]),[],none⟩]
noncomputable def qmV:=qa [(155,q8 uM ke zG),(257,q8 q4N q5q yh),(258,q8 q6n q6q kh),(261,q8 qib qhH q8U)] [(236,Tryz.f236)] [] 0
noncomputable def q1U:=qo qmV 236 Tryz.f236 true q9D q8O
theorem qbq:zb Tryz.prog qc 236 (q8 q9D q8O q1U):=sk qmV qe q9 (alc yl (alc q7C (alc qbQ (alc qpZ aln)))) aln (b1 Tryz.func236) Tryz.func236
def q7x:FIn:=⟨[.str],[]⟩
def q7s:List FOut:=[⟨.str,[],none⟩]
noncomputable def qee:=qa [(156,q8 q6P q6Q yk)] [(256,Tryz.f256)] [] 0
noncomputable def q0Q:=qo qee 256 Tryz.f256 true q7x q7s
theorem qid:zb Tryz.prog qc 256 (q8 q7x q7s q0Q):=sk qee qe q9 (alc q9S aln) aln (b1 Tryz.func256) Tryz.func256
def qdt:FIn:=⟨[.str,.str],[]⟩
def qd0:List FOut:=[⟨(.tuple [.str,(.int .i64)]),[],none⟩]
noncomputable def qoJ:=qa [(155,q8 uM ke zG),(236,q8 q9D q8O q1U),(256,q8 q7x q7s q0Q)] [(233,Tryz.f233)] [] 0
noncomputable def q5W:=qo qoJ 233 Tryz.f233 true qdt qd0
theorem qgQ:zb Tryz.prog qc 233 (q8 qdt qd0 q5W):=sk qoJ qe q9 (alc yl (alc qbq (alc qid aln))) aln (b1 Tryz.func233) Tryz.func233
def ki:FIn:=⟨[(.ptr 0 0),(.fn 233 [] []),.str,.str],[.cells [(.int .i64)]]⟩
def uS:List FOut:=[⟨.str,[.cells [(.int .i64)]],none⟩]
noncomputable def q3p:=qa [(233,q8 qdt qd0 q5W)] [(232,Tryz.f232)] [] 1
noncomputable def wD:=qo q3p 232 Tryz.f232 true ki uS
theorem q8E:zb Tryz.prog qc 232 (q8 ki uS wD):=sk q3p qe q9 (alc qgQ aln) aln (b1 Tryz.func232) Tryz.func232
def uc:FIn:=⟨[(.ptr 0 0),.str,.str],[.cells [(.int .i64)]]⟩
def ue:List FOut:=[⟨.str,[.cells [(.int .i64)]],none⟩]
noncomputable def qdQ:=qa [(233,q8 qdt qd0 q5W),(232,q8 ki uS wD)] [(206,Tryz.f206)] [] 1
noncomputable def zh:=qo qdQ 206 Tryz.f206 true uc ue
theorem q0t:zb Tryz.prog qc 206 (q8 uc ue zh):=sk qdQ qe q9 (alc qgQ (alc q8E aln)) aln (b1 Tryz.func206) Tryz.func206
def q5e:FIn:=⟨[(.ptr 0 0),(.ptr 1 0)],[.big [.bool,(.int .i64)] .i64 232,.big [.bool,(.int .i64)] .i64 232]⟩
def q5p:List FOut:=[⟨(.ptr 2 0),[.big [.bool,(.int .i64)] .i64 232,.big [.bool,(.int .i64)] .i64 232,.big [.bool,(.int .i64)] .i64 232],none⟩]
def q3d:Tmpl:={ t:=((.ptr 0 0)::(.ptr 1 0)::.any::.any::.any::(.ptr 2 0)::qz 15 ((.int .i64)::(.int .i64)::qz 14 [])),h:=[.big [.bool,(.int .i64)] .i64 232,.big [.bool,(.int .i64)] .i64 232,.big [.bool,(.int .i64)] .i64 232] }
def q3f:List Out:=[⟨(.exit 0),{ t:=(qz 5 ((.ptr 2 0)::qz 31 [])),h:=[.big [.bool,(.int .i64)] .i64 232,.big [.bool,(.int .i64)] .i64 232,.big [.bool,(.int .i64)] .i64 232] }⟩]
noncomputable def kp:=qa [(199,q8 wh wj qF)] [(259,Tryz.f259)] [] 2
noncomputable def jP:=vd kp 259 Tryz.f259 4 q3d q3f
theorem qdm:qp Tryz.prog qc kp.nimp (qy Tryz.prog kp.iter 259) (zu Tryz.f259 4) (qk q3d q3f (qg jP)):=
 gk kp qe q9 (alc va aln) aln (b1 Tryz.func259) Tryz.func259
noncomputable def qac:=qa [(199,q8 wh wj qF)] [(259,Tryz.f259)] [((259,4),qk q3d q3f (qg jP))] 2
noncomputable def uE:=qo qac 259 Tryz.f259 false q5e q5p
theorem qfj:zb Tryz.prog qc 259 (q8 q5e q5p uE):=qnO (E:=qac) qe ⟨q9n q9,(alc va aln),(alc (lk Tryz.func259 qdm) aln),(b1 Tryz.func259)⟩ Tryz.func259 (by kernel_rfl) (by kernel_rfl) (fun _=>rfl)
def q9x:FIn:=⟨[.str,.str],[]⟩
def q9K:List FOut:=[⟨(.tuple [.str,(.int .i64)]),[],none⟩]
noncomputable def qol:=qa [(155,q8 uM ke zG),(158,q8 ux uo zp),(257,q8 q4N q5q yh),(258,q8 q6n q6q kh),(259,q8 q5e q5p uE),(260,q8 jX jQ zF)] [(234,Tryz.f234)] [] 0
noncomputable def q4c:=qo qol 234 Tryz.f234 true q9x q9K
theorem qb0:zb Tryz.prog qc 234 (q8 q9x q9K q4c):=sk qol qe q9 (alc yl (alc yO (alc q7C (alc qbQ (alc qfj (alc q0D aln)))))) aln (b1 Tryz.func234) Tryz.func234
def j5:FIn:=⟨[(.ptr 0 0),(.fn 234 [] []),.str,.str],[.cells [(.int .i64)]]⟩
def j1:List FOut:=[⟨.str,[.cells [(.int .i64)]],none⟩]
noncomputable def q3B:=qa [(234,q8 q9x q9K q4c)] [(232,Tryz.f232)] [] 1
noncomputable def zA:=qo q3B 232 Tryz.f232 true j5 j1
theorem q1B:zb Tryz.prog qc 232 (q8 j5 j1 zA):=sk q3B qe q9 (alc qb0 aln) aln (b1 Tryz.func232) Tryz.func232
def vG:FIn:=⟨[(.ptr 0 0),(.imm [.str])],[.cells [(.int .i64)]]⟩
def vE:List FOut:=[⟨.str,[.cells [(.int .i64)]],none⟩]
def q59:Tmpl:={ t:=(qz 5 (.str::(.fn 232 [(.ptr 0 0)] [])::qz 4 ((.imm [.str])::(.int .i64)::(.int .i64)::qz 9 []))),h:=[.cells [(.int .i64)]] }
def q55:List Out:=[⟨(.exit 0),{ t:=(qz 5 (.str::qz 17 [])),h:=[.cells [(.int .i64)]] }⟩]
noncomputable def q1I:=qa [(234,q8 q9x q9K q4c),(232,q8 j5 j1 zA)] [(207,Tryz.f207)] [] 1
noncomputable def jA:=vd q1I 207 Tryz.f207 4 q59 q55
theorem qfP:qp Tryz.prog qc q1I.nimp (qy Tryz.prog q1I.iter 207) (zu Tryz.f207 4) (qk q59 q55 (qg jA)):=
 gk q1I qe q9 (alc qb0 (alc q1B aln)) aln (b1 Tryz.func207) Tryz.func207
noncomputable def qei:=qa [(234,q8 q9x q9K q4c),(232,q8 j5 j1 zA)] [(207,Tryz.f207)] [((207,4),qk q59 q55 (qg jA))] 1
noncomputable def qf:=qo qei 207 Tryz.f207 true vG vE
theorem vO:zb Tryz.prog qc 207 (q8 vG vE qf):=sk qei qe q9 (alc qb0 (alc q1B aln)) (alc (lk Tryz.func207 qfP) aln) (b1 Tryz.func207) Tryz.func207
def q8c:FIn:=⟨[(.ptr 0 0),.str,.str,.str,.str],[.cells [(.int .i64)]]⟩
def q7P:List FOut:=[⟨(.tuple [.str,.str]),[.cells [(.int .i64)]],none⟩]
noncomputable def qk7:=qa [(206,q8 uc ue zh),(207,q8 vG vE qf)] [(205,Tryz.f205)] [] 1
noncomputable def q2M:=qo qk7 205 Tryz.f205 true q8c q7P
theorem qdO:zb Tryz.prog qc 205 (q8 q8c q7P q2M):=sk qk7 qe q9 (alc q0t (alc vO aln)) aln (b1 Tryz.func205) Tryz.func205
def yA:FIn:=⟨[(.imm [.str])],[]⟩
def yx:List FOut:=[⟨(.int .i64),[],none⟩]
def q7w:Tmpl:={ t:=(qz 6 ((.imm [.str])::(.int .i64)::(.int .i64)::qz 9 [])),h:=[] }
def q7G:List Out:=[⟨(.exit 0),{ t:=(qz 18 []),h:=[] }⟩,⟨.ret,{ t:=(.any::.any::(.int .i64)::qz 15 []),h:=[] }⟩]
noncomputable def q3Z:=qa [(75,q8 vo vj qE)] [(208,Tryz.f208)] [] 0
noncomputable def q10:=vd q3Z 208 Tryz.f208 3 q7w q7G
theorem qhG:qp Tryz.prog qc q3Z.nimp (qy Tryz.prog q3Z.iter 208) (zu Tryz.f208 3) (qk q7w q7G (qg q10)):=
 gk q3Z qe q9 (alc wL aln) aln (b1 Tryz.func208) Tryz.func208
noncomputable def qho:=qa [(75,q8 vo vj qE)] [(208,Tryz.f208)] [((208,3),qk q7w q7G (qg q10))] 0
noncomputable def qP:=qo qho 208 Tryz.f208 true yA yx
theorem yH:zb Tryz.prog qc 208 (q8 yA yx qP):=sk qho qe q9 (alc wL aln) (alc (lk Tryz.func208 qhG) aln) (b1 Tryz.func208) Tryz.func208
def q4f:FIn:=⟨[.str,.str],[]⟩
def q4m:List FOut:=[⟨.bool,[],none⟩]
noncomputable def q9H:=qa [(218,q8 zI zJ qD)] [(253,Tryz.f253)] [] 0
noncomputable def yP:=qo q9H 253 Tryz.f253 true q4f q4m
theorem qey:zb Tryz.prog qc 253 (q8 q4f q4m yP):=sk q9H qe q9 (alc yN aln) aln (b1 Tryz.func253) Tryz.func253
def qaU:FIn:=⟨[.str,.str],[]⟩
def qaW:List FOut:=[⟨.str,[],none⟩]
noncomputable def qhm:=qa [] [(254,Tryz.f254)] [] 0
noncomputable def q12:=qo qhm 254 Tryz.f254 true qaU qaW
theorem qkK:zb Tryz.prog qc 254 (q8 qaU qaW q12):=sk qhm qe q9 aln aln (b1 Tryz.func254) Tryz.func254
def qbg:FIn:=⟨[.str,.str],[]⟩
def qaZ:List FOut:=[⟨(.tuple [.str,.str,(.int .i64)]),[],none⟩]
noncomputable def qgW:=qa [(155,q8 uM ke zG),(158,q8 ux uo zp),(159,q8 q2N q34 zi),(160,q8 kS kz wu),(161,q8 yG yE qG),(257,q8 q4N q5q yh),(274,q8 kW kP zX)] [(273,Tryz.f273)] [] 0
noncomputable def q3G:=qo qgW 273 Tryz.f273 true qbg qaZ
theorem qks:zb Tryz.prog qc 273 (q8 qbg qaZ q3G):=sk qgW qe q9 (alc yl (alc yO (alc q0s (alc q1y (alc jT (alc q7C (alc q3a aln))))))) aln (b1 Tryz.func273) Tryz.func273
def qdw:FIn:=⟨[.str,.str],[]⟩
def qcE:List FOut:=[⟨(.tuple [.str,(.int .i64)]),[],none⟩]
noncomputable def qoG:=qa [(113,q8 j7 vT qJ),(273,q8 qbg qaZ q3G)] [(255,Tryz.f255)] [] 0
noncomputable def q6g:=qo qoG 255 Tryz.f255 true qdw qcE
theorem qhg:zb Tryz.prog qc 255 (q8 qdw qcE q6g):=sk qoG qe q9 (alc vF (alc qks aln)) aln (b1 Tryz.func255) Tryz.func255
def vY:FIn:=⟨[(.ptr 0 0),(.fn 115 [] []),.str,.str],[.cells [(.int .i64)]]⟩
def ka:List FOut:=[⟨.str,[.cells [(.int .i64)]],none⟩]
noncomputable def q3I:=qa [(115,q8 q99 q9I q23)] [(232,Tryz.f232)] [] 1
noncomputable def wx:=qo q3I 232 Tryz.f232 true vY ka
theorem q86:zb Tryz.prog qc 232 (q8 vY ka wx):=sk q3I qe q9 (alc qaX aln) aln (b1 Tryz.func232) Tryz.func232
def j8:FIn:=⟨[(.ptr 0 0),(.fn 255 [] []),.str,.str],[.cells [(.int .i64)]]⟩
def kj:List FOut:=[⟨.str,[.cells [(.int .i64)]],none⟩]
noncomputable def q3O:=qa [(255,q8 qdw qcE q6g)] [(232,Tryz.f232)] [] 1
noncomputable def qQ:=qo q3O 232 Tryz.f232 true j8 kj
theorem q8s:zb Tryz.prog qc 232 (q8 j8 kj qQ):=sk q3O qe q9 (alc qhg aln) aln (b1 Tryz.func232) Tryz.func232
def zK:FIn:=⟨[(.ptr 0 0),.str,.str],[.cells [(.int .i64)]]⟩
def zM:List FOut:=[⟨.str,[.cells [(.int .i64)]],none⟩]
noncomputable def q9C:=qa [(115,q8 q99 q9I q23),(206,q8 uc ue zh),(253,q8 q4f q4m yP),(254,q8 qaU qaW q12),(255,q8 qdw qcE q6g),(232,qEC [(vY,q8 vY ka wx),(j8,q8 j8 kj qQ)])] [(231,Tryz.f231)] [] 1
noncomputable def qA:=qo q9C 231 Tryz.f231 true zK zM
theorem wn:zb Tryz.prog qc 231 (q8 zK zM qA):=sk q9C qe q9 (alc qaX (alc q0t (alc qey (alc qkK (alc qhg (alc (qBd (q2n Tryz.func232 (by kernel_rfl) (by kernel_rfl)) (qwu q86 (qwu q8s qCh))) aln)))))) aln (b1 Tryz.func231) Tryz.func231
def kK:FIn:=⟨[.str,.str,(.fn 205 [] [])],[]⟩
def kN:List FOut:=[⟨(.tuple [.str,(.int .i64)]),[],none⟩]
noncomputable def q4x:=qa [(112,q8 q2j q2e qK),(205,q8 q8c q7P q2M),(208,q8 yA yx qP),(231,q8 zK zM qA)] [(204,Tryz.f204)] [] 0
noncomputable def v6:=qo q4x 204 Tryz.f204 true kK kN
theorem q8S:zb Tryz.prog qc 204 (q8 kK kN v6):=sk q4x qe q9 (alc q1d (alc qdO (alc yH (alc wn aln)))) aln (b1 Tryz.func204) Tryz.func204
def qds:FIn:=⟨[.str,.str],[]⟩
def qdo:List FOut:=[⟨(.tuple [.str,(.int .i64)]),[],none⟩]
noncomputable def qon:=qa [(205,q8 q8c q7P q2M),(204,q8 kK kN v6)] [(164,Tryz.f164)] [] 0
noncomputable def q5T:=qo qon 164 Tryz.f164 true qds qdo
theorem qh2:zb Tryz.prog qc 164 (q8 qds qdo q5T):=sk qon qe q9 (alc qdO (alc q8S aln)) aln (b1 Tryz.func164) Tryz.func164
def uK:FIn:=⟨[(.ptr 0 0),(.fn 164 [] []),.str,.str],[.cells [(.int .i64)]]⟩
def kd:List FOut:=[⟨.str,[.cells [(.int .i64)]],none⟩]
noncomputable def q3C:=qa [(164,q8 qds qdo q5T)] [(163,Tryz.f163)] [] 1
noncomputable def wy:=qo q3C 163 Tryz.f163 true uK kd
theorem q88:zb Tryz.prog qc 163 (q8 uK kd wy):=sk q3C qe q9 (alc qh2 aln) aln (b1 Tryz.func163) Tryz.func163
def ua:FIn:=⟨[(.ptr 0 0),.str,.str],[.cells [(.int .i64)]]⟩
def u9:List FOut:=[⟨.str,[.cells [(.int .i64)]],none⟩]
noncomputable def qdV:=qa [(164,q8 qds qdo q5T),(163,q8 uK kd wy)] [(117,Tryz.f117)] [] 1
noncomputable def qL:=qo qdV 117 Tryz.f117 true ua u9
theorem q0p:zb Tryz.prog qc 117 (q8 ua u9 qL):=sk qdV qe q9 (alc qh2 (alc q88 aln)) aln (b1 Tryz.func117) Tryz.func117
def kC:FIn:=⟨[(.ptr 0 0),(.agg [.str,.str]),(.agg [.str,.str])],[.cells [(.int .i64)]]⟩
def kJ:List FOut:=[⟨(.agg [.str,.str]),[.cells [(.int .i64)]],none⟩]
noncomputable def qck:=qa [(117,q8 ua u9 qL)] [(118,Tryz.f118)] [] 1
noncomputable def zU:=qo qck 118 Tryz.f118 true kC kJ
theorem q3b:zb Tryz.prog qc 118 (q8 kC kJ zU):=sk qck qe q9 (alc q0p aln) aln (b1 Tryz.func118) Tryz.func118
def uT:FIn:=⟨[(.ptr 0 0),(.fn 236 [] []),.str,.str],[.cells [(.int .i64)]]⟩
def uN:List FOut:=[⟨.str,[.cells [(.int .i64)]],none⟩]
noncomputable def q3A:=qa [(236,q8 q9D q8O q1U)] [(232,Tryz.f232)] [] 1
noncomputable def wE:=qo q3A 232 Tryz.f232 true uT uN
theorem q7X:zb Tryz.prog qc 232 (q8 uT uN wE):=sk q3A qe q9 (alc qbq aln) aln (b1 Tryz.func232) Tryz.func232
def q3R:FIn:=⟨[(.ptr 0 0),.str,.str],[.cells [(.int .i64)]]⟩
def q43:List FOut:=[⟨.str,[.cells [(.int .i64)]],none⟩]
noncomputable def qeb:=qa [(236,q8 q9D q8O q1U),(232,q8 uT uN wE)] [(215,Tryz.f215)] [] 1
noncomputable def jJ:=qo qeb 215 Tryz.f215 true q3R q43
theorem q8V:zb Tryz.prog qc 215 (q8 q3R q43 jJ):=sk qeb qe q9 (alc qbq (alc q7X aln)) aln (b1 Tryz.func215) Tryz.func215
def q8j:FIn:=⟨[(.ptr 0 0),.str,.str,.str,.str],[.cells [(.int .i64)]]⟩
def q8A:List FOut:=[⟨(.tuple [.str,.str]),[.cells [(.int .i64)]],none⟩]
noncomputable def qjK:=qa [(207,q8 vG vE qf),(215,q8 q3R q43 jJ)] [(214,Tryz.f214)] [] 1
noncomputable def q2F:=qo qjK 214 Tryz.f214 true q8j q8A
theorem qeu:zb Tryz.prog qc 214 (q8 q8j q8A q2F):=sk qjK qe q9 (alc vO (alc q8V aln)) aln (b1 Tryz.func214) Tryz.func214
def q0a:FIn:=⟨[.str,.str,(.fn 214 [] [])],[]⟩
def q07:List FOut:=[⟨(.tuple [.str,(.int .i64)]),[],none⟩]
noncomputable def q4y:=qa [(112,q8 q2j q2e qK),(208,q8 yA yx qP),(214,q8 q8j q8A q2F),(231,q8 zK zM qA)] [(204,Tryz.f204)] [] 0
noncomputable def wQ:=qo q4y 204 Tryz.f204 true q0a q07
theorem q9h:zb Tryz.prog qc 204 (q8 q0a q07 wQ):=sk q4y qe q9 (alc q1d (alc yH (alc qeu (alc wn aln)))) aln (b1 Tryz.func204) Tryz.func204
def qdI:FIn:=⟨[.str,.str],[]⟩
def qdD:List FOut:=[⟨(.tuple [.str,(.int .i64)]),[],none⟩]
noncomputable def qnE:=qa [(214,q8 q8j q8A q2F),(204,q8 q0a q07 wQ)] [(181,Tryz.f181)] [] 0
noncomputable def q6c:=qo qnE 181 Tryz.f181 true qdI qdD
theorem qh6:zb Tryz.prog qc 181 (q8 qdI qdD q6c):=sk qnE qe q9 (alc qeu (alc q9h aln)) aln (b1 Tryz.func181) Tryz.func181
def kl:FIn:=⟨[(.ptr 0 0),(.fn 181 [] []),.str,.str],[.cells [(.int .i64)]]⟩
def kf:List FOut:=[⟨.str,[.cells [(.int .i64)]],none⟩]
noncomputable def q3r:=qa [(181,q8 qdI qdD q6c)] [(163,Tryz.f163)] [] 1
noncomputable def wC:=qo q3r 163 Tryz.f163 true kl kf
theorem q8t:zb Tryz.prog qc 163 (q8 kl kf wC):=sk q3r qe q9 (alc qh6 aln) aln (b1 Tryz.func163) Tryz.func163
def q0X:FIn:=⟨[(.ptr 0 0),.str,.str],[.cells [(.int .i64)]]⟩
def q0S:List FOut:=[⟨.str,[.cells [(.int .i64)]],none⟩]
noncomputable def qdL:=qa [(181,q8 qdI qdD q6c),(163,q8 kl kf wC)] [(141,Tryz.f141)] [] 1
noncomputable def zv:=qo qdL 141 Tryz.f141 true q0X q0S
theorem q4g:zb Tryz.prog qc 141 (q8 q0X q0S zv):=sk qdL qe q9 (alc qh6 (alc q8t aln)) aln (b1 Tryz.func141) Tryz.func141
def q7R:FIn:=⟨[(.ptr 0 0),.str,.str,.str,.str],[.cells [(.int .i64)]]⟩
def q8h:List FOut:=[⟨(.tuple [.str,.str]),[.cells [(.int .i64)]],none⟩]
noncomputable def qiD:=qa [(207,q8 vG vE qf)] [(216,Tryz.f216)] [] 1
noncomputable def q2A:=qo qiD 216 Tryz.f216 true q7R q8h
theorem qes:zb Tryz.prog qc 216 (q8 q7R q8h q2A):=sk qiD qe q9 (alc vO aln) aln (b1 Tryz.func216) Tryz.func216
def kR:FIn:=⟨[.str,.str,(.fn 216 [] [])],[]⟩
def q03:List FOut:=[⟨(.tuple [.str,(.int .i64)]),[],none⟩]
noncomputable def q4t:=qa [(112,q8 q2j q2e qK),(208,q8 yA yx qP),(216,q8 q7R q8h q2A),(231,q8 zK zM qA)] [(204,Tryz.f204)] [] 0
noncomputable def wW:=qo q4t 204 Tryz.f204 true kR q03
theorem q8Q:zb Tryz.prog qc 204 (q8 kR q03 wW):=sk q4t qe q9 (alc q1d (alc yH (alc qes (alc wn aln)))) aln (b1 Tryz.func204) Tryz.func204
def qcV:FIn:=⟨[.str,.str],[]⟩
def qdJ:List FOut:=[⟨(.tuple [.str,(.int .i64)]),[],none⟩]
noncomputable def qoj:=qa [(216,q8 q7R q8h q2A),(204,q8 kR q03 wW)] [(182,Tryz.f182)] [] 0
noncomputable def q5Y:=qo qoj 182 Tryz.f182 true qcV qdJ
theorem qgC:zb Tryz.prog qc 182 (q8 qcV qdJ q5Y):=sk qoj qe q9 (alc qes (alc q8Q aln)) aln (b1 Tryz.func182) Tryz.func182
def uI:FIn:=⟨[(.ptr 0 0),(.fn 182 [] []),.str,.str],[.cells [(.int .i64)]]⟩
def uZ:List FOut:=[⟨.str,[.cells [(.int .i64)]],none⟩]
noncomputable def q3v:=qa [(182,q8 qcV qdJ q5Y)] [(163,Tryz.f163)] [] 1
noncomputable def wA:=qo q3v 163 Tryz.f163 true uI uZ
theorem q7Q:zb Tryz.prog qc 163 (q8 uI uZ wA):=sk q3v qe q9 (alc qgC aln) aln (b1 Tryz.func163) Tryz.func163
def q0P:FIn:=⟨[(.ptr 0 0),.str,.str],[.cells [(.int .i64)]]⟩
def q0M:List FOut:=[⟨.str,[.cells [(.int .i64)]],none⟩]
noncomputable def qdZ:=qa [(182,q8 qcV qdJ q5Y),(163,q8 uI uZ wA)] [(142,Tryz.f142)] [] 1
noncomputable def qR:=qo qdZ 142 Tryz.f142 true q0P q0M
theorem q4j:zb Tryz.prog qc 142 (q8 q0P q0M qR):=sk qdZ qe q9 (alc qgC (alc q7Q aln)) aln (b1 Tryz.func142) Tryz.func142
def q0O:FIn:=⟨[(.ptr 0 0),(.agg [.str,.str]),(.agg [.str,.str])],[.cells [(.int .i64)]]⟩
def q0K:List FOut:=[⟨.str,[.cells [(.int .i64)]],none⟩]
noncomputable def qe9:=qa [(141,q8 q0X q0S zv),(142,q8 q0P q0M qR)] [(119,Tryz.f119)] [] 1
noncomputable def zx:=qo qe9 119 Tryz.f119 true q0O q0K
theorem q4e:zb Tryz.prog qc 119 (q8 q0O q0K zx):=sk qe9 qe q9 (alc q4g (alc q4j aln)) aln (b1 Tryz.func119) Tryz.func119
def q8x:FIn:=⟨[(.ptr 0 0),.str,.str,.str,.str],[.cells [(.int .i64)]]⟩
def q8B:List FOut:=[⟨(.tuple [.str,.str]),[.cells [(.int .i64)]],none⟩]
noncomputable def qj9:=qa [(207,q8 vG vE qf)] [(209,Tryz.f209)] [] 1
noncomputable def q2Y:=qo qj9 209 Tryz.f209 true q8x q8B
theorem qdS:zb Tryz.prog qc 209 (q8 q8x q8B q2Y):=sk qj9 qe q9 (alc vO aln) aln (b1 Tryz.func209) Tryz.func209
def ky:FIn:=⟨[.str,.str,(.fn 209 [] [])],[]⟩
def q0h:List FOut:=[⟨(.tuple [.str,(.int .i64)]),[],none⟩]
noncomputable def q4r:=qa [(112,q8 q2j q2e qK),(208,q8 yA yx qP),(209,q8 q8x q8B q2Y),(231,q8 zK zM qA)] [(204,Tryz.f204)] [] 0
noncomputable def wZ:=qo q4r 204 Tryz.f204 true ky q0h
theorem q9g:zb Tryz.prog qc 204 (q8 ky q0h wZ):=sk q4r qe q9 (alc q1d (alc yH (alc qdS (alc wn aln)))) aln (b1 Tryz.func204) Tryz.func204
def qcF:FIn:=⟨[.str,.str],[]⟩
def qdF:List FOut:=[⟨(.tuple [.str,(.int .i64)]),[],none⟩]
noncomputable def qoq:=qa [(208,q8 yA yx qP),(209,q8 q8x q8B q2Y),(204,q8 ky q0h wZ)] [(165,Tryz.f165)] [] 0
noncomputable def q6b:=qo qoq 165 Tryz.f165 true qcF qdF
theorem qh1:zb Tryz.prog qc 165 (q8 qcF qdF q6b):=sk qoq qe q9 (alc yH (alc qdS (alc q9g aln))) aln (b1 Tryz.func165) Tryz.func165
def uX:FIn:=⟨[(.ptr 0 0),(.fn 165 [] []),.str,.str],[.cells [(.int .i64)]]⟩
def uW:List FOut:=[⟨.str,[.cells [(.int .i64)]],none⟩]
noncomputable def q3M:=qa [(165,q8 qcF qdF q6b)] [(163,Tryz.f163)] [] 1
noncomputable def zB:=qo q3M 163 Tryz.f163 true uX uW
theorem q8m:zb Tryz.prog qc 163 (q8 uX uW zB):=sk q3M qe q9 (alc qh1 aln) aln (b1 Tryz.func163) Tryz.func163
def q1L:FIn:=⟨[(.ptr 0 0),(.imm [.str,.str,.str]),(.agg [(.int .i64),(.int .i64),(.int .i64)])],[.cells [(.int .i64)]]⟩
def q1J:List FOut:=[⟨(.tuple [(.agg [.str,.str,.str,.str,.str]),.bool]),[.cells [(.int .i64)]],none⟩]
noncomputable def qaw:=qa [(117,q8 ua u9 qL),(118,q8 kC kJ zU),(119,q8 q0O q0K zx),(141,q8 q0X q0S zv),(142,q8 q0P q0M qR),(165,q8 qcF qdF q6b),(163,q8 uX uW zB)] [(120,Tryz.f120)] [] 1
noncomputable def vz:=qo qaw 120 Tryz.f120 true q1L q1J
theorem q6H:zb Tryz.prog qc 120 (q8 q1L q1J vz):=sk qaw qe q9 (alc q0p (alc q3b (alc q4e (alc q4g (alc q4j (alc qh1 (alc q8m aln))))))) aln (b1 Tryz.func120) Tryz.func120
def qfC:FIn:=⟨[.str],[]⟩
def qfK:List FOut:=[⟨(.tuple [(.int .i64),(.int .i64)]),[],none⟩]
noncomputable def qlP:=qa [(113,q8 j7 vT qJ),(156,q8 q6P q6Q yk)] [(252,Tryz.f252)] [] 0
noncomputable def q6I:=qo qlP 252 Tryz.f252 true qfC qfK
theorem qmT:zb Tryz.prog qc 252 (q8 qfC qfK q6I):=sk qlP qe q9 (alc vF (alc q9S aln)) aln (b1 Tryz.func252) Tryz.func252
def q33:FIn:=⟨[(.ptr 0 0),.str],[.cells [(.int .i64)]]⟩
def q2O:List FOut:=[⟨(.int .i64),[.cells [(.int .i64)]],none⟩]
noncomputable def qbW:=qa [(252,q8 qfC qfK q6I)] [(230,Tryz.f230)] [] 1
noncomputable def zj:=qo qbW 230 Tryz.f230 true q33 q2O
theorem q7J:zb Tryz.prog qc 230 (q8 q33 q2O zj):=sk qbW qe q9 (alc qmT aln) aln (b1 Tryz.func230) Tryz.func230
def q69:FIn:=⟨[(.ptr 0 0),.str,.str,.str],[.cells [(.int .i64)]]⟩
def q61:List FOut:=[⟨(.int .i64),[.cells [(.int .i64)]],none⟩]
noncomputable def qcg:=qa [(206,q8 uc ue zh),(207,q8 vG vE qf),(230,q8 q33 q2O zj)] [(229,Tryz.f229)] [] 1
noncomputable def yJ:=qo qcg 229 Tryz.f229 true q69 q61
theorem qgq:zb Tryz.prog qc 229 (q8 q69 q61 yJ):=sk qcg qe q9 (alc q0t (alc vO (alc q7J aln))) aln (b1 Tryz.func229) Tryz.func229
def q6e:FIn:=⟨[.str,.str,.str,.str,.str],[]⟩
def q66:List FOut:=[⟨(.tuple [(.int .i64),(.int .i64)]),[],none⟩]
noncomputable def qcc:=qa [(112,q8 q2j q2e qK),(206,q8 uc ue zh),(207,q8 vG vE qf),(208,q8 yA yx qP),(215,q8 q3R q43 jJ),(229,q8 q69 q61 yJ),(230,q8 q33 q2O zj)] [(203,Tryz.f203)] [] 0
noncomputable def q05:=qo qcc 203 Tryz.f203 true q6e q66
theorem qgz:zb Tryz.prog qc 203 (q8 q6e q66 q05):=sk qcc qe q9 (alc q1d (alc q0t (alc vO (alc yH (alc q8V (alc qgq (alc q7J aln))))))) aln (b1 Tryz.func203) Tryz.func203
def q7m:FIn:=⟨[.str,.str,.str],[]⟩
def q7r:List FOut:=[⟨(.tuple [(.int .i64),(.int .i64)]),[],none⟩]
noncomputable def qej:=qa [(203,q8 q6e q66 q05)] [(162,Tryz.f162)] [] 0
noncomputable def q0T:=qo qej 162 Tryz.f162 true q7m q7r
theorem qi9:zb Tryz.prog qc 162 (q8 q7m q7r q0T):=sk qej qe q9 (alc qgz aln) aln (b1 Tryz.func162) Tryz.func162
def q2J:FIn:=⟨[(.ptr 0 0),.str,.str,.str],[.cells [(.int .i64)]]⟩
def q2v:List FOut:=[⟨(.int .i64),[.cells [(.int .i64)]],none⟩]
noncomputable def qbY:=qa [(162,q8 q7m q7r q0T)] [(116,Tryz.f116)] [] 1
noncomputable def vR:=qo qbY 116 Tryz.f116 true q2J q2v
theorem q7N:zb Tryz.prog qc 116 (q8 q2J q2v vR):=sk qbY qe q9 (alc qi9 aln) aln (b1 Tryz.func116) Tryz.func116
def q1C:FIn:=⟨[(.ptr 0 0),(.agg [.str,.str,.str]),(.agg [.str,.str,.str,.str,.str])],[.cells [(.int .i64)]]⟩
def q1N:List FOut:=[⟨.bool,[.cells [(.int .i64)]],none⟩]
noncomputable def qae:=qa [(116,q8 q2J q2v vR),(117,q8 ua u9 qL),(118,q8 kC kJ zU),(119,q8 q0O q0K zx),(141,q8 q0X q0S zv),(142,q8 q0P q0M qR)] [(122,Tryz.f122)] [] 1
noncomputable def jB:=qo qae 122 Tryz.f122 true q1C q1N
theorem q7i:zb Tryz.prog qc 122 (q8 q1C q1N jB):=sk qae qe q9 (alc q7N (alc q0p (alc q3b (alc q4e (alc q4g (alc q4j aln)))))) aln (b1 Tryz.func122) Tryz.func122
def wN:FIn:=⟨[(.ptr 0 0),(.imm [.str,.str,.str]),(.agg [(.int .i64),(.int .i64),(.int .i64)])],[.cells [(.int .i64)]]⟩
def wP:List FOut:=[⟨.bool,[.cells [(.int .i64)]],none⟩]
def uU:Tmpl:={ t:=((.imm [.str,.str,.str])::(.fn 124 [] [(.ptr 4 0)])::qz 5 ((.int .i64)::(.int .i64)::qz 10 [])),h:=[.cells [(.int .i64)],.cells [(.ptr 0 0)],.cells [(.int .i64),(.int .i64),(.int .i64)],.cells [.str,.str,.str,.str,.str],.cells [(.fn 121 [] [(.ptr 1 0),(.ptr 3 0)])]],fs:=[[(.imm [.str,.str,.str]),(.fn 124 [] [(.ptr 4 0)]),.any,.any,(.blit false),(.imm [.str,.str,.str]),(.fn 124 [] [(.ptr 4 0)]),.any,.any],[(.ptr 0 0),(.imm [.str,.str,.str]),(.agg [(.int .i64),(.int .i64),(.int .i64)]),(.ptr 1 0),.any,(.ptr 2 0),(.blit false),(.ptr 3 0),.bool,(.ptr 4 0),(.tuple [(.agg [.str,.str,.str,.str,.str]),.bool]),(.ptr 0 0),(.imm [.str,.str,.str]),(.agg [(.int .i64),(.int .i64),(.int .i64)]),(.tuple [(.agg [.str,.str,.str,.str,.str]),.bool]),(.agg [.str,.str,.str,.str,.str]),.bool,(.fn 121 [] [(.ptr 1 0),(.ptr 3 0)]),.bool,(.blit true),(.imm [.str,.str,.str]),(.fn 124 [] [(.ptr 4 0)]),.any,.any,.any,.any,.any,.any,.any,.any,.any,.any],[]] }
def uY:List Out:=[⟨(.exit 0),{ t:=(qz 19 []),h:=[.cells [(.int .i64)],.cells [(.ptr 0 0)],.cells [(.int .i64),(.int .i64),(.int .i64)],.cells [.str,.str,.str,.str,.str],.cells [(.fn 121 [] [(.ptr 1 0),(.ptr 3 0)])]],fs:=[[(.imm [.str,.str,.str]),(.fn 124 [] [(.ptr 4 0)]),.any,.any,(.blit false),(.imm [.str,.str,.str]),(.fn 124 [] [(.ptr 4 0)]),.any,.any],[(.ptr 0 0),(.imm [.str,.str,.str]),(.agg [(.int .i64),(.int .i64),(.int .i64)]),(.ptr 1 0),.any,(.ptr 2 0),(.blit false),(.ptr 3 0),.bool,(.ptr 4 0),(.tuple [(.agg [.str,.str,.str,.str,.str]),.bool]),(.ptr 0 0),(.imm [.str,.str,.str]),(.agg [(.int .i64),(.int .i64),(.int .i64)]),(.tuple [(.agg [.str,.str,.str,.str,.str]),.bool]),(.agg [.str,.str,.str,.str,.str]),.bool,(.fn 121 [] [(.ptr 1 0),(.ptr 3 0)]),.bool,(.blit true),(.imm [.str,.str,.str]),(.fn 124 [] [(.ptr 4 0)]),.any,.any,.any,.any,.any,.any,.any,.any,.any,.any],[]] }⟩,⟨.ret,{ t:=(qz 4 ((.int .i64)::qz 14 [])),h:=[.cells [(.int .i64)],.cells [(.ptr 0 0)],.cells [(.int .i64),(.int .i64),(.int .i64)],.cells [.str,.str,.str,.str,.str],.cells [(.fn 121 [] [(.ptr 1 0),(.ptr 3 0)])]],fs:=[[(.imm [.str,.str,.str]),(.fn 124 [] [(.ptr 4 0)]),.any,.any,(.blit false),(.imm [.str,.str,.str]),(.fn 124 [] [(.ptr 4 0)]),.any,.any],[(.ptr 0 0),(.imm [.str,.str,.str]),(.agg [(.int .i64),(.int .i64),(.int .i64)]),(.ptr 1 0),.any,(.ptr 2 0),(.blit false),(.ptr 3 0),.bool,(.ptr 4 0),(.tuple [(.agg [.str,.str,.str,.str,.str]),.bool]),(.ptr 0 0),(.imm [.str,.str,.str]),(.agg [(.int .i64),(.int .i64),(.int .i64)]),(.tuple [(.agg [.str,.str,.str,.str,.str]),.bool]),(.agg [.str,.str,.str,.str,.str]),.bool,(.fn 121 [] [(.ptr 1 0),(.ptr 3 0)]),.bool,(.blit true),(.imm [.str,.str,.str]),(.fn 124 [] [(.ptr 4 0)]),.any,.any,.any,.any,.any,.any,.any,.any,.any,.any],[]] }⟩]
noncomputable def vW:=qa [(120,q8 q1L q1J vz),(122,q8 q1C q1N jB)] [(78,Tryz.f78),(121,Tryz.f121),(123,Tryz.f123),(124,Tryz.f124),(166,Tryz.f166)] [] 1
noncomputable def wz:=vd vW 166 Tryz.f166 3 uU uY
theorem q85:qp Tryz.prog qc vW.nimp (qy Tryz.prog vW.iter 166) (zu Tryz.f166 3) (qk uU uY (qg wz)):=
 gk vW qe q9 (alc q6H (alc q7i aln)) aln (alc (bk Tryz.func78) (alc (bk Tryz.func121) (alc (bk Tryz.func123) (alc (bk Tryz.func124) (alc (bk Tryz.func166) aln))))) Tryz.func166
noncomputable def q8W:=qa [(120,q8 q1L q1J vz),(122,q8 q1C q1N jB)] [(78,Tryz.f78),(121,Tryz.f121),(123,Tryz.f123),(124,Tryz.f124),(166,Tryz.f166)] [((166,3),qk uU uY (qg wz))] 1
noncomputable def ze:=qo q8W 78 Tryz.f78 true wN wP
theorem vJ:zb Tryz.prog qc 78 (q8 wN wP ze):=sk q8W qe q9 (alc q6H (alc q7i aln)) (alc (lk Tryz.func166 q85) aln) (alc (bk Tryz.func78) (alc (bk Tryz.func121) (alc (bk Tryz.func123) (alc (bk Tryz.func124) (alc (bk Tryz.func166) aln))))) Tryz.func78
def z7:FIn:=⟨[(.ptr 0 0),(.imm [.str,.str,.str])],[.cells [(.int .i64)]]⟩
def qX:List FOut:=[⟨(.tuple [(.agg [(.int .i64),(.int .i64),(.int .i64)]),.bool]),[.cells [(.int .i64)]],none⟩]
def kV:Tmpl:={ t:=(.yld::(.ptr 5 0)::qz 6 ((.int .i64)::(.int .i64)::qz 35 [])),h:=[.cells [(.int .i64)],.cells [(.ptr 0 0)],.cells [(.imm [.str,.str,.str])],.cells [(.int .i64),(.int .i64),(.int .i64)],.cells [.bool],.cells [(.int .i64)]],fs:=[[.any,.any,(.ptr 1 0),(.ptr 2 0),(.ptr 3 0),(.ptr 4 0),.any,.any,.any,(.fn 143 [] [(.ptr 5 0)]),.any,.any,.any,.any,.any,.any,.any],[]] }
def kY:List Out:=[⟨(.exit 0),{ t:=(.yld::(.ptr 5 0)::qz 43 []),h:=[.cells [(.int .i64)],.cells [(.ptr 0 0)],.cells [(.imm [.str,.str,.str])],.cells [(.int .i64),(.int .i64),(.int .i64)],.cells [.bool],.cells [(.int .i64)]],fs:=[[.any,.any,(.ptr 1 0),(.ptr 2 0),(.ptr 3 0),(.ptr 4 0),.any,.any,.any,(.fn 143 [] [(.ptr 5 0)]),.any,.any,.any,.any,.any,.any,.any],[]] }⟩,⟨.ret,{ t:=(qz 45 []),h:=[.cells [(.int .i64)],.cells [(.ptr 0 0)],.cells [(.imm [.str,.str,.str])],.cells [(.int .i64),(.int .i64),(.int .i64)],.cells [.bool],.cells [(.int .i64)]],fs:=[[.any,.any,(.ptr 1 0),(.ptr 2 0),(.ptr 3 0),(.ptr 4 0),.any,.any,.any,(.fn 143 [] [(.ptr 5 0)]),.any,.any,.any,.any,.any,.any,.any],[]],pend:=(.some .ret) }⟩]
noncomputable def jG:Env:={ tt:=qde,glob:=qc,spec:=[(78,q8 wN wP ze)],body:=[(64,Tryz.f64),(100,Tryz.f100),(143,Tryz.f143)],loops:=[],nimp:=1,iter:=[(143,64,3)] }
noncomputable def v7:=qtj jG (some (64,Tryz.f64,3)) 143 Tryz.f143 2 kV kY
theorem q90:qp Tryz.prog qc jG.nimp (qy Tryz.prog jG.iter 143) (zu Tryz.f143 2) (qk kV kY (qg v7)):=
 q7b (E:=jG) qe ⟨q9n q9,(alc vJ aln),aln,(alc (bk Tryz.func64) (alc (bk Tryz.func100) (alc (bk Tryz.func143) aln)))⟩ Tryz.func143 (by kernel_rfl) (y:=some (64,Tryz.f64,3)) ⟨Tryz.func64,by kernel_rfl⟩ (by kernel_rfl) (by kernel_rfl) (fun _=>rfl)
def uR:Tmpl:={ t:=(.yld::(.ptr 5 0)::.any::.any::(.int .i64)::(.int .i64)::qz 13 ((.int .i64)::(.int .i64)::qz 9 ((.vec 6)::(.int .i64)::(.int .i64)::qz 12 []))),h:=[.cells [(.int .i64)],.cells [(.ptr 0 0)],.cells [(.imm [.str,.str,.str])],.cells [(.int .i64),(.int .i64),(.int .i64)],.cells [.bool],.cells [(.int .i64)],.vec 3 [(.int .i64)]],fs:=[[.any,.any,(.ptr 1 0),(.ptr 2 0),(.ptr 3 0),(.ptr 4 0),.any,.any,.any,(.fn 143 [] [(.ptr 5 0)]),.any,.any,.any,.any,.any,.any,.any],[]] }
def uG:List Out:=[⟨(.exit 6),{ t:=(.yld::(.ptr 5 0)::.any::.any::(.int .i64)::(.int .i64)::qz 13 ((.int .i64)::(.int .i64)::qz 24 [])),h:=[.cells [(.int .i64)],.cells [(.ptr 0 0)],.cells [(.imm [.str,.str,.str])],.cells [(.int .i64),(.int .i64),(.int .i64)],.cells [.bool],.cells [(.int .i64)]],fs:=[[.any,.any,(.ptr 1 0),(.ptr 2 0),(.ptr 3 0),(.ptr 4 0),.any,.any,.any,(.fn 143 [] [(.ptr 5 0)]),.any,.any,.any,.any,.any,.any,.any],[]] }⟩,⟨.ret,{ t:=(qz 45 []),h:=[.cells [(.int .i64)],.cells [(.ptr 0 0)],.cells [(.imm [.str,.str,.str])],.cells [(.int .i64),(.int .i64),(.int .i64)],.cells [.bool],.cells [(.int .i64)]],fs:=[[.any,.any,(.ptr 1 0),(.ptr 2 0),(.ptr 3 0),(.ptr 4 0),.any,.any,.any,(.fn 143 [] [(.ptr 5 0)]),.any,.any,.any,.any,.any,.any,.any],[]],pend:=(.some .ret) }⟩]
noncomputable def vZ:Env:={ tt:=qde,glob:=qc,spec:=[(78,q8 wN wP ze)],body:=[(64,Tryz.f64),(100,Tryz.f100),(143,Tryz.f143)],loops:=[],nimp:=1,iter:=[(143,64,3)] }
noncomputable def wB:=qtj vZ (some (64,Tryz.f64,3)) 143 Tryz.f143 20 uR uG
theorem q89:qp Tryz.prog qc vZ.nimp (qy Tryz.prog vZ.iter 143) (zu Tryz.f143 20) (qk uR uG (qg wB)):=
 q7b (E:=vZ) qe ⟨q9n q9,(alc vJ aln),aln,(alc (bk Tryz.func64) (alc (bk Tryz.func100) (alc (bk Tryz.func143) aln)))⟩ Tryz.func143 (by kernel_rfl) (y:=some (64,Tryz.f64,3)) ⟨Tryz.func64,by kernel_rfl⟩ (by kernel_rfl) (by kernel_rfl) (fun _=>rfl)
def uH:Tmpl:={ t:=(.yld::(.ptr 5 0)::.any::.any::(.int .i64)::(.int .i64)::qz 13 ((.int .i64)::(.int .i64)::qz 24 [])),h:=[.cells [(.int .i64)],.cells [(.ptr 0 0)],.cells [(.imm [.str,.str,.str])],.cells [(.int .i64),(.int .i64),(.int .i64)],.cells [.bool],.cells [(.int .i64)]],fs:=[[.any,.any,(.ptr 1 0),(.ptr 2 0),(.ptr 3 0),(.ptr 4 0),.any,.any,.any,(.fn 143 [] [(.ptr 5 0)]),.any,.any,.any,.any,.any,.any,.any],[]] }
def uJ:List Out:=[⟨(.exit 4),{ t:=(.yld::(.ptr 5 0)::qz 17 ((.int .i64)::(.int .i64)::qz 24 [])),h:=[.cells [(.int .i64)],.cells [(.ptr 0 0)],.cells [(.imm [.str,.str,.str])],.cells [(.int .i64),(.int .i64),(.int .i64)],.cells [.bool],.cells [(.int .i64)]],fs:=[[.any,.any,(.ptr 1 0),(.ptr 2 0),(.ptr 3 0),(.ptr 4 0),.any,.any,.any,(.fn 143 [] [(.ptr 5 0)]),.any,.any,.any,.any,.any,.any,.any],[]] }⟩,⟨.ret,{ t:=(qz 45 []),h:=[.cells [(.int .i64)],.cells [(.ptr 0 0)],.cells [(.imm [.str,.str,.str])],.cells [(.int .i64),(.int .i64),(.int .i64)],.cells [.bool],.cells [(.int .i64)]],fs:=[[.any,.any,(.ptr 1 0),(.ptr 2 0),(.ptr 3 0),(.ptr 4 0),.any,.any,.any,(.fn 143 [] [(.ptr 5 0)]),.any,.any,.any,.any,.any,.any,.any],[]],pend:=(.some .ret) }⟩]
noncomputable def j3:Env:={ tt:=qde,glob:=qc,spec:=[(78,q8 wN wP ze)],body:=[(64,Tryz.f64),(100,Tryz.f100),(143,Tryz.f143)],loops:=[((143,20),qk uR uG (qg wB))],nimp:=1,iter:=[(143,64,3)] }
noncomputable def wt:=qtj j3 (some (64,Tryz.f64,3)) 143 Tryz.f143 15 uH uJ
theorem q7S:qp Tryz.prog qc j3.nimp (qy Tryz.prog j3.iter 143) (zu Tryz.f143 15) (qk uH uJ (qg wt)):=
 q7b (E:=j3) qe ⟨q9n q9,(alc vJ aln),(alc (lk Tryz.func143 q89) aln),(alc (bk Tryz.func64) (alc (bk Tryz.func100) (alc (bk Tryz.func143) aln)))⟩ Tryz.func143 (by kernel_rfl) (y:=some (64,Tryz.f64,3)) ⟨Tryz.func64,by kernel_rfl⟩ (by kernel_rfl) (by kernel_rfl) (fun _=>rfl)
def q02:Tmpl:={ t:=(.yld::(.ptr 5 0)::qz 17 ((.int .i64)::(.int .i64)::qz 24 [])),h:=[.cells [(.int .i64)],.cells [(.ptr 0 0)],.cells [(.imm [.str,.str,.str])],.cells [(.int .i64),(.int .i64),(.int .i64)],.cells [.bool],.cells [(.int .i64)]],fs:=[[.any,.any,(.ptr 1 0),(.ptr 2 0),(.ptr 3 0),(.ptr 4 0),.any,.any,.any,(.fn 143 [] [(.ptr 5 0)]),.any,.any,.any,.any,.any,.any,.any],[]] }
def q00:List Out:=[⟨(.exit 2),{ t:=(qz 45 []),h:=[.cells [(.int .i64)],.cells [(.ptr 0 0)],.cells [(.imm [.str,.str,.str])],.cells [(.int .i64),(.int .i64),(.int .i64)],.cells [.bool],.cells [(.int .i64)]],fs:=[[.any,.any,(.ptr 1 0),(.ptr 2 0),(.ptr 3 0),(.ptr 4 0),.any,.any,.any,(.fn 143 [] [(.ptr 5 0)]),.any,.any,.any,.any,.any,.any,.any],[]] }⟩,⟨.ret,{ t:=(qz 45 []),h:=[.cells [(.int .i64)],.cells [(.ptr 0 0)],.cells [(.imm [.str,.str,.str])],.cells [(.int .i64),(.int .i64),(.int .i64)],.cells [.bool],.cells [(.int .i64)]],fs:=[[.any,.any,(.ptr 1 0),(.ptr 2 0),(.ptr 3 0),(.ptr 4 0),.any,.any,.any,(.fn 143 [] [(.ptr 5 0)]),.any,.any,.any,.any,.any,.any,.any],[]],pend:=(.some .ret) }⟩]
noncomputable def jq:Env:={ tt:=qde,glob:=qc,spec:=[(78,q8 wN wP ze)],body:=[(64,Tryz.f64),(100,Tryz.f100),(143,Tryz.f143)],loops:=[((143,15),qk uH uJ (qg wt))],nimp:=1,iter:=[(143,64,3)] }
noncomputable def wS:=qtj jq (some (64,Tryz.f64,3)) 143 Tryz.f143 9 q02 q00
theorem q96:qp Tryz.prog qc jq.nimp (qy Tryz.prog jq.iter 143) (zu Tryz.f143 9) (qk q02 q00 (qg wS)):=
 q7b (E:=jq) qe ⟨q9n q9,(alc vJ aln),(alc (lk Tryz.func143 q7S) aln),(alc (bk Tryz.func64) (alc (bk Tryz.func100) (alc (bk Tryz.func143) aln)))⟩ Tryz.func143 (by kernel_rfl) (y:=some (64,Tryz.f64,3)) ⟨Tryz.func64,by kernel_rfl⟩ (by kernel_rfl) (by kernel_rfl) (fun _=>rfl)
noncomputable def qao:Env:={ tt:=qde,glob:=qc,spec:=[(78,q8 wN wP ze)],body:=[(64,Tryz.f64),(100,Tryz.f100),(143,Tryz.f143)],loops:=[((143,2),qk kV kY (qg v7)),((143,9),qk q02 q00 (qg wS))],nimp:=1,iter:=[(143,64,3)] }
noncomputable def qC:=qo qao 64 Tryz.f64 true z7 qX
theorem qZ:zb Tryz.prog qc 64 (q8 z7 qX qC):=sk qao qe q9 (alc vJ aln) (alc (lk Tryz.func143 q90) (alc (lk Tryz.func143 q96) aln)) (alc (bk Tryz.func64) (alc (bk Tryz.func100) (alc (bk Tryz.func143) aln))) Tryz.func64
def q1T:FIn:=⟨[(.imm [.str,.str,.str])],[]⟩
def q2k:List FOut:=[⟨(.tuple [(.imm [(.int .i64)]),(.int .i64)]),[],none⟩]
def jL:Tmpl:={ t:=(.any::(.ptr 0 0)::(.ptr 2 0)::.any::.any::(.vec 4)::qz 4 ((.vec 3)::(.int .i64)::(.int .i64)::qz 26 [])),h:=[.cells [(.imm [.str,.str,.str])],.cells [(.int .i64)],.cells [(.ptr 1 0)],.vec 3 [(.int .i64)],.vec 40 [.str,.str,.str]],pro:=[(5,40,[.str,.str,.str])],fs:=[[.any,(.ptr 0 0),.any,.any,.any,(.ptr 2 0),(.fn 63 [] [(.ptr 0 0),(.ptr 2 0)]),(.int .i64),(.int .i64),.any,.any,.any,.any,.any,.any,.any,.any,.any,.any,.any,.any,(.int .i64),(.int .i64),.any,.any,.any,.any,(.int .i64),(.imm [.str,.str,.str]),(.int .i64),(.blit true),.any,.any,(.fn 63 [] [(.ptr 0 0),(.ptr 2 0)]),(.int .i64),(.int .i64),(.vec 3),.any,.any,.any,.any,.any,.any,.any,.any,.any,.any,.any,.any,.any,.any,.any,.any,.any,.any,.any,.any,.any,.any,.any,.any,.any,.any,.any,.any,.any,.any,.any,.any,.any,.any,.any,.any,.any,.any,.any,.any,.any],[]] }
def jH:List Out:=[⟨(.exit 0),{ t:=(.any::.any::(.ptr 2 0)::.any::.any::(.vec 4)::qz 33 []),h:=[.cells [(.imm [.str,.str,.str])],.cells [(.int .i64)],.cells [(.ptr 1 0)],.vec 3 [(.int .i64)],.vec 40 [.str,.str,.str]],fs:=[[.any,(.ptr 0 0),.any,.any,.any,(.ptr 2 0),(.fn 63 [] [(.ptr 0 0),(.ptr 2 0)]),(.int .i64),(.int .i64),.any,.any,.any,.any,.any,.any,.any,.any,.any,.any,.any,.any,(.int .i64),(.int .i64),.any,.any,.any,.any,(.int .i64),(.imm [.str,.str,.str]),(.int .i64),(.blit true),.any,.any,(.fn 63 [] [(.ptr 0 0),(.ptr 2 0)]),(.int .i64),(.int .i64),(.vec 3),.any,.any,.any,.any,.any,.any,.any,.any,.any,.any,.any,.any,.any,.any,.any,.any,.any,.any,.any,.any,.any,.any,.any,.any,.any,.any,.any,.any,.any,.any,.any,.any,.any,.any,.any,.any,.any,.any,.any,.any,.any],[]] }⟩]
noncomputable def wG:=qa [(62,q8 jn jb zL),(64,q8 z7 qX qC)] [(17,Tryz.f17),(63,Tryz.f63)] [] 0
noncomputable def qU:=vd wG 63 Tryz.f63 4 jL jH
theorem q5J:qp Tryz.prog qc wG.nimp (qy Tryz.prog wG.iter 63) (zu Tryz.f63 4) (qk jL jH (qg qU)):=
 gk wG qe q9 (alc vq (alc qZ aln)) aln (alc (bk Tryz.func17) (alc (bk Tryz.func63) aln)) Tryz.func63
def kI:Tmpl:={ t:=(.any::(.ptr 0 0)::.any::.any::.any::(.ptr 2 0)::(.fn 63 [] [(.ptr 0 0),(.ptr 2 0)])::(.int .i64)::(.int .i64)::qz 12 ((.int .i64)::(.int .i64)::qz 55 [])),h:=[.cells [(.imm [.str,.str,.str])],.cells [(.int .i64)],.cells [(.ptr 1 0)]] }
def q0e:List Out:=[⟨(.exit 2),{ t:=(.any::(.ptr 0 0)::.any::.any::.any::(.ptr 2 0)::(.fn 63 [] [(.ptr 0 0),(.ptr 2 0)])::qz 14 ((.int .i64)::(.int .i64)::qz 55 [])),h:=[.cells [(.imm [.str,.str,.str])],.cells [(.int .i64)],.cells [(.ptr 1 0)]] }⟩,⟨.ret,{ t:=(.any::.any::(.vec 6)::(.int .i64)::qz 74 []),h:=[.dead,.dead,.dead,.dead,.dead,.dead,.vec 3 [(.int .i64)]] }⟩]
noncomputable def jt:=qa [(62,q8 jn jb zL),(64,q8 z7 qX qC)] [(17,Tryz.f17),(63,Tryz.f63)] [((63,4),qk jL jH (qg qU))] 0
noncomputable def v8:=vd jt 17 Tryz.f17 15 kI q0e
theorem q9R:qp Tryz.prog qc jt.nimp (qy Tryz.prog jt.iter 17) (zu Tryz.f17 15) (qk kI q0e (qg v8)):=
 gk jt qe q9 (alc vq (alc qZ aln)) (alc (lk Tryz.func63 q5J) aln) (alc (bk Tryz.func17) (alc (bk Tryz.func63) aln)) Tryz.func17
def q0H:Tmpl:={ t:=(.any::(.ptr 0 0)::.any::.any::.any::(.ptr 2 0)::(.fn 63 [] [(.ptr 0 0),(.ptr 2 0)])::qz 14 ((.int .i64)::(.int .i64)::qz 55 [])),h:=[.cells [(.imm [.str,.str,.str])],.cells [(.int .i64)],.cells [(.ptr 1 0)]] }
def q0o:List Out:=[⟨(.exit 0),{ t:=(.any::(.ptr 0 0)::.any::.any::.any::(.ptr 2 0)::(.fn 63 [] [(.ptr 0 0),(.ptr 2 0)])::qz 71 []),h:=[.cells [(.imm [.str,.str,.str])],.cells [(.int .i64)],.cells [(.ptr 1 0)]] }⟩,⟨.ret,{ t:=(.any::.any::(.vec 6)::(.int .i64)::qz 74 []),h:=[.dead,.dead,.dead,.dead,.dead,.dead,.vec 3 [(.int .i64)]] }⟩]
noncomputable def yd:=qa [(62,q8 jn jb zL),(64,q8 z7 qX qC)] [(17,Tryz.f17),(63,Tryz.f63)] [((17,15),qk kI q0e (qg v8))] 0
noncomputable def vl:=vd yd 17 Tryz.f17 9 q0H q0o
theorem q9V:qp Tryz.prog qc yd.nimp (qy Tryz.prog yd.iter 17) (zu Tryz.f17 9) (qk q0H q0o (qg vl)):=
 gk yd qe q9 (alc vq (alc qZ aln)) (alc (lk Tryz.func17 q9R) aln) (alc (bk Tryz.func17) (alc (bk Tryz.func63) aln)) Tryz.func17
def jN:Tmpl:={ t:=(.any::(.ptr 0 0)::(.ptr 2 0)::.any::.any::(.vec 4)::qz 4 ((.vec 3)::(.int .i64)::(.int .i64)::qz 26 [])),h:=[.cells [(.imm [.str,.str,.str])],.cells [(.int .i64)],.cells [(.ptr 1 0)],.vec 3 [(.int .i64)],.vec 40 [.str,.str,.str]],pro:=[(5,40,[.str,.str,.str])],fs:=[[.any,(.ptr 0 0),.any,.any,.any,(.ptr 2 0),(.fn 63 [] [(.ptr 0 0),(.ptr 2 0)]),.any,.any,(.int .i64),(.int .i64),(.int .i64),.any,.any,.any,.any,.any,.any,.any,.any,.any,.any,.any,.any,.any,.any,.any,.any,.any,.any,.any,.any,.any,.any,.any,.any,.any,.any,.any,.any,.any,.any,.any,(.int .i64),(.int .i64),.any,.any,.any,.any,.any,.any,.any,.any,.any,.any,.any,.any,(.int .i64),(.imm [.str,.str,.str]),(.int .i64),(.blit true),.any,.any,(.fn 63 [] [(.ptr 0 0),(.ptr 2 0)]),(.int .i64),(.int .i64),(.int .i64),(.vec 3),.any,.any,.any,.any,.any,.any,.any,.any,.any,.any],[]] }
def jM:List Out:=[⟨(.exit 0),{ t:=(.any::.any::(.ptr 2 0)::.any::.any::(.vec 4)::qz 33 []),h:=[.cells [(.imm [.str,.str,.str])],.cells [(.int .i64)],.cells [(.ptr 1 0)],.vec 3 [(.int .i64)],.vec 40 [.str,.str,.str]],fs:=[[.any,(.ptr 0 0),.any,.any,.any,(.ptr 2 0),(.fn 63 [] [(.ptr 0 0),(.ptr 2 0)]),.any,.any,(.int .i64),(.int .i64),(.int .i64),.any,.any,.any,.any,.any,.any,.any,.any,.any,.any,.any,.any,.any,.any,.any,.any,.any,.any,.any,.any,.any,.any,.any,.any,.any,.any,.any,.any,.any,.any,.any,(.int .i64),(.int .i64),.any,.any,.any,.any,.any,.any,.any,.any,.any,.any,.any,.any,(.int .i64),(.imm [.str,.str,.str]),(.int .i64),(.blit true),.any,.any,(.fn 63 [] [(.ptr 0 0),(.ptr 2 0)]),(.int .i64),(.int .i64),(.int .i64),(.vec 3),.any,.any,.any,.any,.any,.any,.any,.any,.any,.any],[]] }⟩]
noncomputable def wF:=qa [(62,q8 jn jb zL),(64,q8 z7 qX qC)] [(17,Tryz.f17),(63,Tryz.f63)] [] 0
noncomputable def qV:=vd wF 63 Tryz.f63 4 jN jM
theorem q5I:qp Tryz.prog qc wF.nimp (qy Tryz.prog wF.iter 63) (zu Tryz.f63 4) (qk jN jM (qg qV)):=
 gk wF qe q9 (alc vq (alc qZ aln)) aln (alc (bk Tryz.func17) (alc (bk Tryz.func63) aln)) Tryz.func63
def q0d:Tmpl:={ t:=(.any::(.ptr 0 0)::.any::.any::.any::(.ptr 2 0)::(.fn 63 [] [(.ptr 0 0),(.ptr 2 0)])::.any::.any::(.int .i64)::(.int .i64)::(.int .i64)::qz 31 ((.int .i64)::(.int .i64)::qz 33 [])),h:=[.cells [(.imm [.str,.str,.str])],.cells [(.int .i64)],.cells [(.ptr 1 0)]] }
def kL:List Out:=[⟨(.exit 8),{ t:=(.any::(.ptr 0 0)::.any::.any::.any::(.ptr 2 0)::(.fn 63 [] [(.ptr 0 0),(.ptr 2 0)])::.any::.any::(.int .i64)::(.int .i64)::qz 32 ((.int .i64)::(.int .i64)::qz 33 [])),h:=[.cells [(.imm [.str,.str,.str])],.cells [(.int .i64)],.cells [(.ptr 1 0)]] }⟩,⟨.ret,{ t:=(.any::.any::(.vec 6)::(.int .i64)::qz 74 []),h:=[.dead,.dead,.dead,.dead,.dead,.dead,.vec 3 [(.int .i64)]] }⟩]
noncomputable def jz:=qa [(62,q8 jn jb zL),(64,q8 z7 qX qC)] [(17,Tryz.f17),(63,Tryz.f63)] [((63,4),qk jN jM (qg qV))] 0
noncomputable def wU:=vd jz 17 Tryz.f17 34 q0d kL
theorem q9a:qp Tryz.prog qc jz.nimp (qy Tryz.prog jz.iter 17) (zu Tryz.f17 34) (qk q0d kL (qg wU)):=
 gk jz qe q9 (alc vq (alc qZ aln)) (alc (lk Tryz.func63 q5I) aln) (alc (bk Tryz.func17) (alc (bk Tryz.func63) aln)) Tryz.func17
def q01:Tmpl:={ t:=(.any::(.ptr 0 0)::.any::.any::.any::(.ptr 2 0)::(.fn 63 [] [(.ptr 0 0),(.ptr 2 0)])::.any::.any::(.int .i64)::(.int .i64)::qz 32 ((.int .i64)::(.int .i64)::qz 33 [])),h:=[.cells [(.imm [.str,.str,.str])],.cells [(.int .i64)],.cells [(.ptr 1 0)]] }
def kD:List Out:=[⟨(.exit 6),{ t:=(.any::(.ptr 0 0)::.any::.any::.any::(.ptr 2 0)::(.fn 63 [] [(.ptr 0 0),(.ptr 2 0)])::qz 36 ((.int .i64)::(.int .i64)::qz 33 [])),h:=[.cells [(.imm [.str,.str,.str])],.cells [(.int .i64)],.cells [(.ptr 1 0)]] }⟩,⟨.ret,{ t:=(.any::.any::(.vec 6)::(.int .i64)::qz 74 []),h:=[.dead,.dead,.dead,.dead,.dead,.dead,.vec 3 [(.int .i64)]] }⟩]
noncomputable def ju:=qa [(62,q8 jn jb zL),(64,q8 z7 qX qC)] [(17,Tryz.f17),(63,Tryz.f63)] [((17,34),qk q0d kL (qg wU))] 0
noncomputable def wV:=vd ju 17 Tryz.f17 29 q01 kD
theorem q9r:qp Tryz.prog qc ju.nimp (qy Tryz.prog ju.iter 17) (zu Tryz.f17 29) (qk q01 kD (qg wV)):=
 gk ju qe q9 (alc vq (alc qZ aln)) (alc (lk Tryz.func17 q9a) aln) (alc (bk Tryz.func17) (alc (bk Tryz.func63) aln)) Tryz.func17
def kO:Tmpl:={ t:=(.any::(.ptr 0 0)::.any::.any::.any::(.ptr 2 0)::(.fn 63 [] [(.ptr 0 0),(.ptr 2 0)])::qz 36 ((.int .i64)::(.int .i64)::qz 33 [])),h:=[.cells [(.imm [.str,.str,.str])],.cells [(.int .i64)],.cells [(.ptr 1 0)]] }
def kU:List Out:=[⟨(.exit 4),{ t:=(qz 5 ((.ptr 2 0)::qz 72 [])),h:=[.dead,.cells [(.int .i64)],.cells [(.ptr 1 0)]] }⟩,⟨.ret,{ t:=(.any::.any::(.vec 6)::(.int .i64)::qz 74 []),h:=[.dead,.dead,.dead,.dead,.dead,.dead,.vec 3 [(.int .i64)]] }⟩]
noncomputable def jF:=qa [(62,q8 jn jb zL),(64,q8 z7 qX qC)] [(17,Tryz.f17),(63,Tryz.f63)] [((17,29),qk q01 kD (qg wV))] 0
noncomputable def wT:=vd jF 17 Tryz.f17 23 kO kU
theorem q9Q:qp Tryz.prog qc jF.nimp (qy Tryz.prog jF.iter 17) (zu Tryz.f17 23) (qk kO kU (qg wT)):=
 gk jF qe q9 (alc vq (alc qZ aln)) (alc (lk Tryz.func17 q9r) aln) (alc (bk Tryz.func17) (alc (bk Tryz.func63) aln)) Tryz.func17
noncomputable def q70:=qa [(62,q8 jn jb zL),(64,q8 z7 qX qC)] [(17,Tryz.f17),(63,Tryz.f63)] [((17,9),qk q0H q0o (qg vl)),((17,23),qk kO kU (qg wT))] 0
noncomputable def jf:=qo q70 17 Tryz.f17 true q1T q2k
theorem qbD:zb Tryz.prog qc 17 (q8 q1T q2k jf):=sk q70 qe q9 (alc vq (alc qZ aln)) (alc (lk Tryz.func17 q9V) (alc (lk Tryz.func17 q9Q) aln)) (alc (bk Tryz.func17) (alc (bk Tryz.func63) aln)) Tryz.func17
def q6E:FIn:=⟨[(.imm [.str,.str,.str])],[]⟩
def q6A:List FOut:=[⟨(.tuple [.bool,(.agg [(.int .i64),(.int .i64),(.int .i64)]),(.int .i64)]),[],none⟩]
noncomputable def qgE:=qa [(62,q8 jn jb zL),(64,q8 z7 qX qC)] [(23,Tryz.f23)] [] 0
noncomputable def uV:=qo qgE 23 Tryz.f23 true q6E q6A
theorem qco:zb Tryz.prog qc 23 (q8 q6E q6A uV):=sk qgE qe q9 (alc vq (alc qZ aln)) aln (b1 Tryz.func23) Tryz.func23
def q1r:FIn:=⟨[(.imm [(.int .i64)]),(.imm [(.int .i64)])],[]⟩
def q1l:List FOut:=[⟨.bool,[],none⟩]
def kQ:Tmpl:={ t:=((.imm [(.int .i64)])::(.imm [(.int .i64)])::qz 10 ((.int .i64)::(.int .i64)::qz 12 [])),h:=[] }
def q06:List Out:=[⟨(.exit 0),{ t:=(qz 26 []),h:=[] }⟩,⟨.ret,{ t:=(qz 4 (.bool::qz 21 [])),h:=[] }⟩]
noncomputable def jv:=qa [] [(50,Tryz.f50)] [] 0
noncomputable def wR:=vd jv 50 Tryz.f50 6 kQ q06
theorem q9M:qp Tryz.prog qc jv.nimp (qy Tryz.prog jv.iter 50) (zu Tryz.f50 6) (qk kQ q06 (qg wR)):=
 gk jv qe q9 aln aln (b1 Tryz.func50) Tryz.func50
noncomputable def q5L:=qa [] [(50,Tryz.f50)] [((50,6),qk kQ q06 (qg wR))] 0
noncomputable def vM:=qo q5L 50 Tryz.f50 true q1r q1l
theorem qbm:zb Tryz.prog qc 50 (q8 q1r q1l vM):=sk q5L qe q9 aln (alc (lk Tryz.func50 q9M) aln) (b1 Tryz.func50) Tryz.func50
def q1F:FIn:=⟨[(.ptr 0 0),.str,.str],[.cells [(.int .i64)]]⟩
def q1t:List FOut:=[⟨(.int .i64),[.cells [(.int .i64)]],none⟩]
noncomputable def qa9:=qa [(116,q8 q2J q2v vR),(117,q8 ua u9 qL)] [(76,Tryz.f76)] [] 1
noncomputable def jw:=qo qa9 76 Tryz.f76 true q1F q1t
theorem q6V:zb Tryz.prog qc 76 (q8 q1F q1t jw):=sk qa9 qe q9 (alc q7N (alc q0p aln)) aln (b1 Tryz.func76) Tryz.func76
def q3V:FIn:=⟨[(.ptr 0 0),(.agg [.str,.str]),(.agg [.str,.str])],[.cells [(.int .i64)]]⟩
def q4b:List FOut:=[⟨.str,[.cells [(.int .i64)]],none⟩]
noncomputable def qen:=qa [(118,q8 kC kJ zU),(119,q8 q0O q0K zx)] [(77,Tryz.f77)] [] 1
noncomputable def jI:=qo qen 77 Tryz.f77 true q3V q4b
theorem q9d:zb Tryz.prog qc 77 (q8 q3V q4b jI):=sk qen qe q9 (alc q3b (alc q4e aln)) aln (b1 Tryz.func77) Tryz.func77
def q8p:FIn:=⟨[.str],[]⟩
def q80:List FOut:=[⟨(.int .i64),[],none⟩]
def q9J:Tmpl:={ t:=(.str::.any::.any::(.int .i64)::qz 11 []),h:=[] }
def q9P:List Out:=[⟨(.exit 0),{ t:=(qz 15 []),h:=[] }⟩,⟨.ret,{ t:=(.any::.any::(.int .i64)::qz 12 []),h:=[] }⟩]
noncomputable def q54:=qa [] [(93,Tryz.f93)] [] 0
noncomputable def q2m:=vd q54 93 Tryz.f93 3 q9J q9P
theorem qjd:qp Tryz.prog qc q54.nimp (qy Tryz.prog q54.iter 93) (zu Tryz.f93 3) (qk q9J q9P (qg q2m)):=
 gk q54 qe q9 aln aln (b1 Tryz.func93) Tryz.func93
noncomputable def qjI:=qa [] [(93,Tryz.f93)] [((93,3),qk q9J q9P (qg q2m))] 0
noncomputable def q0C:=qo qjI 93 Tryz.f93 true q8p q80
theorem qe6:zb Tryz.prog qc 93 (q8 q8p q80 q0C):=sk qjI qe q9 aln (alc (lk Tryz.func93 qjd) aln) (b1 Tryz.func93) Tryz.func93
def q2P:FIn:=⟨[.str],[]⟩
def q2X:List FOut:=[⟨(.tuple [.str,.str]),[],none⟩]
noncomputable def qjP:=qa [(93,q8 q8p q80 q0C)] [(86,Tryz.f86)] [] 0
noncomputable def zS:=qo qjP 86 Tryz.f86 true q2P q2X
theorem q7F:zb Tryz.prog qc 86 (q8 q2P q2X zS):=sk qjP qe q9 (alc qe6 aln) aln (b1 Tryz.func86) Tryz.func86
def wg:FIn:=⟨[.str],[]⟩
def wk:List FOut:=[⟨.str,[],none⟩]
noncomputable def qlW:=qa [] [(108,Tryz.f108)] [] 0
noncomputable def qt:=qo qlW 108 Tryz.f108 true wg wk
theorem zw:zb Tryz.prog qc 108 (q8 wg wk qt):=sk qlW qe q9 aln aln (b1 Tryz.func108) Tryz.func108
def qd6:FIn:=⟨[.str],[]⟩
def qdl:List FOut:=[⟨(.int .i64),[],none⟩]
def q9z:Tmpl:={ t:=(.any::.any::.any::.str::(.int .i64)::qz 38 []),h:=[] }
def q9i:List Out:=[⟨(.exit 0),{ t:=(.any::.any::.any::.str::qz 39 []),h:=[] }⟩,⟨.ret,{ t:=(.any::.any::(.int .i64)::qz 40 []),h:=[] }⟩]
noncomputable def q5f:=qa [(108,q8 wg wk qt)] [(92,Tryz.f92)] [] 0
noncomputable def kM:=vd q5f 92 Tryz.f92 7 q9z q9i
theorem qjx:qp Tryz.prog qc q5f.nimp (qy Tryz.prog q5f.iter 92) (zu Tryz.f92 7) (qk q9z q9i (qg kM)):=
 gk q5f qe q9 (alc zw aln) aln (b1 Tryz.func92) Tryz.func92
noncomputable def qjy:=qa [(108,q8 wg wk qt)] [(92,Tryz.f92)] [((92,7),qk q9z q9i (qg kM))] 0
noncomputable def q2I:=qo qjy 92 Tryz.f92 true qd6 qdl
theorem qmt:zb Tryz.prog qc 92 (q8 qd6 qdl q2I):=sk qjy qe q9 (alc zw aln) (alc (lk Tryz.func92 qjx) aln) (b1 Tryz.func92) Tryz.func92
def j6:FIn:=⟨[.str],[]⟩
def j0:List FOut:=[⟨.bool,[],none⟩]
noncomputable def qjY:=qa [] [(104,Tryz.f104)] [] 0
noncomputable def qB:=qo qjY 104 Tryz.f104 true j6 j0
theorem vH:zb Tryz.prog qc 104 (q8 j6 j0 qB):=sk qjY qe q9 aln aln (b1 Tryz.func104) Tryz.func104
def vU:FIn:=⟨[.str,.bool],[]⟩
def j2:List FOut:=[⟨.str,[],none⟩]
noncomputable def qgO:=qa [] [(109,Tryz.f109)] [] 0
noncomputable def qI:=qo qgO 109 Tryz.f109 true vU j2
theorem vQ:zb Tryz.prog qc 109 (q8 vU j2 qI):=sk qgO qe q9 aln aln (b1 Tryz.func109) Tryz.func109
def ym:FIn:=⟨[.str],[]⟩
def yq:List FOut:=[⟨.str,[],none⟩]
noncomputable def qgH:=qa [(104,q8 j6 j0 qB),(108,q8 wg wk qt),(109,q8 vU j2 qI)] [(105,Tryz.f105)] [] 0
noncomputable def zC:=qo qgH 105 Tryz.f105 true ym yq
theorem yF:zb Tryz.prog qc 105 (q8 ym yq zC):=sk qgH qe q9 (alc vH (alc zw (alc vQ aln))) aln (b1 Tryz.func105) Tryz.func105
def qcB:FIn:=⟨[(.int .i64)],[]⟩
def qcD:List FOut:=[⟨.str,[],none⟩]
def qdd:Tmpl:={ t:=((.int .i64)::.any::.any::.str::qz 33 []),h:=[] }
def qcU:List Out:=[⟨(.exit 0),{ t:=((.int .i64)::.any::.any::.str::qz 33 []),h:=[] }⟩]
noncomputable def q8l:=qa [(105,q8 ym yq zC)] [] [] 0
noncomputable def q5r:=vd q8l 73 Tryz.f73 9 qdd qcU
theorem qm7:qp Tryz.prog qc q8l.nimp (qy Tryz.prog q8l.iter 73) (zu Tryz.f73 9) (qk qdd qcU (qg q5r)):=
 gk q8l qe q9 (alc yF aln) aln aln Tryz.func73
noncomputable def qnj:=qa [(105,q8 ym yq zC)] [] [((73,9),qk qdd qcU (qg q5r))] 0
noncomputable def q4o:=qo qnj 73 Tryz.f73 true qcB qcD
theorem qh5:zb Tryz.prog qc 73 (q8 qcB qcD q4o):=sk qnj qe q9 (alc yF aln) (alc (lk Tryz.func73 qm7) aln) aln Tryz.func73
def q14:FIn:=⟨[(.int .i64)],[]⟩
def q15:List FOut:=[⟨.str,[],none⟩]
def qfM:Tmpl:={ t:=((.int .i64)::.any::.any::.str::qz 33 []),h:=[] }
def qfE:List Out:=[⟨(.exit 0),{ t:=((.int .i64)::.any::.any::.str::qz 33 []),h:=[] }⟩]
noncomputable def qaF:=qa [(73,q8 qcB qcD q4o),(105,q8 ym yq zC)] [] [] 0
noncomputable def q6O:=vd qaF 73 Tryz.f73 9 qfM qfE
theorem qnU:qp Tryz.prog qc qaF.nimp (qy Tryz.prog qaF.iter 73) (zu Tryz.f73 9) (qk qfM qfE (qg q6O)):=
 gk qaF qe q9 (alc qh5 (alc yF aln)) aln aln Tryz.func73
noncomputable def qqI:=qa [(73,q8 qcB qcD q4o),(105,q8 ym yq zC)] [] [((73,9),qk qfM qfE (qg q6O))] 0
noncomputable def qW:=qo qqI 73 Tryz.f73 true q14 q15
theorem q0y:zb Tryz.prog qc 73 (q8 q14 q15 qW):=sk qqI qe q9 (alc qh5 (alc yF aln)) (alc (lk Tryz.func73 qnU) aln) aln Tryz.func73
def qbB:FIn:=⟨[.str],[]⟩
def qaK:List FOut:=[⟨(.int .i64),[],none⟩]
def q7A:Tmpl:={ t:=(.str::.any::.any::(.int .i64)::.str::(.int .i64)::qz 21 []),h:=[] }
def q7n:List Out:=[⟨(.exit 0),{ t:=(.str::.any::.any::(.int .i64)::qz 23 []),h:=[] }⟩]
noncomputable def q49:=qa [(104,q8 j6 j0 qB),(108,q8 wg wk qt)] [(148,Tryz.f148)] [] 0
noncomputable def ug:=vd q49 148 Tryz.f148 4 q7A q7n
theorem qif:qp Tryz.prog qc q49.nimp (qy Tryz.prog q49.iter 148) (zu Tryz.f148 4) (qk q7A q7n (qg ug)):=
 gk q49 qe q9 (alc vH (alc zw aln)) aln (b1 Tryz.func148) Tryz.func148
noncomputable def qgG:=qa [(104,q8 j6 j0 qB),(108,q8 wg wk qt)] [(148,Tryz.f148)] [((148,4),qk q7A q7n (qg ug))] 0
noncomputable def yo:=qo qgG 148 Tryz.f148 true qbB qaK
theorem qki:zb Tryz.prog qc 148 (q8 qbB qaK yo):=sk qgG qe q9 (alc vH (alc zw aln)) (alc (lk Tryz.func148 qif) aln) (b1 Tryz.func148) Tryz.func148
def uC:FIn:=⟨[.str,.str],[]⟩
def uB:List FOut:=[⟨(.tuple [(.int .i64),(.int .i64),.bool]),[],none⟩]
noncomputable def qiZ:=qa [(108,q8 wg wk qt),(148,q8 qbB qaK yo)] [(107,Tryz.f107)] [] 0
noncomputable def zW:=qo qiZ 107 Tryz.f107 true uC uB
theorem uf:zb Tryz.prog qc 107 (q8 uC uB zW):=sk qiZ qe q9 (alc zw (alc qki aln)) aln (b1 Tryz.func107) Tryz.func107
def qaf:FIn:=⟨[.str,(.int .i64)],[]⟩
def qaD:List FOut:=[⟨.str,[],none⟩]
def qaS:Tmpl:={ t:=(.str::(.int .i64)::.any::.any::.any::(.vec 0)::(.int .i64)::qz 20 []),h:=[.vec 5 [(.int .u8)]] }
def qaJ:List Out:=[⟨(.exit 0),{ t:=(.str::(.int .i64)::.any::.any::.any::(.vec 0)::qz 21 []),h:=[.vec 5 [(.int .u8)]] }⟩]
noncomputable def q6w:=qa [] [(149,Tryz.f149)] [] 0
noncomputable def q17:=vd q6w 149 Tryz.f149 4 qaS qaJ
theorem qla:qp Tryz.prog qc q6w.nimp (qy Tryz.prog q6w.iter 149) (zu Tryz.f149 4) (qk qaS qaJ (qg q17)):=
 gk q6w qe q9 aln aln (b1 Tryz.func149) Tryz.func149
noncomputable def qlq:=qa [] [(149,Tryz.f149)] [((149,4),qk qaS qaJ (qg q17))] 0
noncomputable def q2r:=qo qlq 149 Tryz.f149 true qaf qaD
theorem qf4:zb Tryz.prog qc 149 (q8 qaf qaD q2r):=sk qlq qe q9 aln (alc (lk Tryz.func149 qla) aln) (b1 Tryz.func149) Tryz.func149
def q6k:FIn:=⟨[(.int .u8),(.int .u8),(.int .i64),.bool],[]⟩
def q6D:List FOut:=[⟨(.tuple [(.int .u8),(.int .i64)]),[],none⟩]
noncomputable def qgD:=qa [] [(150,Tryz.f150)] [] 0
noncomputable def q1b:=qo qgD 150 Tryz.f150 true q6k q6D
theorem qc8:zb Tryz.prog qc 150 (q8 q6k q6D q1b):=sk qgD qe q9 aln aln (b1 Tryz.func150) Tryz.func150
def jg:FIn:=⟨[.str],[]⟩
def ji:List FOut:=[⟨.str,[],none⟩]
def qbe:Tmpl:={ t:=(.str::qz 13 []),h:=[] }
def qbj:List Out:=[⟨(.exit 0),{ t:=(.str::qz 13 []),h:=[] }⟩]
noncomputable def q6p:=qa [] [(151,Tryz.f151)] [] 0
noncomputable def q3F:=vd q6p 151 Tryz.f151 2 qbe qbj
theorem qkH:qp Tryz.prog qc q6p.nimp (qy Tryz.prog q6p.iter 151) (zu Tryz.f151 2) (qk qbe qbj (qg q3F)):=
 gk q6p qe q9 aln aln (b1 Tryz.func151) Tryz.func151
noncomputable def qlr:=qa [] [(151,Tryz.f151)] [((151,2),qk qbe qbj (qg q3F))] 0
noncomputable def zE:=qo qlr 151 Tryz.f151 true jg ji
theorem vg:zb Tryz.prog qc 151 (q8 jg ji zE):=sk qlr qe q9 aln (alc (lk Tryz.func151 qkH) aln) (b1 Tryz.func151) Tryz.func151
def q2H:FIn:=⟨[.str,.str,.bool],[]⟩
def q2V:List FOut:=[⟨.str,[],none⟩]
def q8P:Tmpl:={ t:=(.str::.str::.bool::qz 5 ((.vec 0)::(.int .i64)::(.int .i64)::qz 38 [])),h:=[.vec 5 [(.int .u8)]] }
def q9e:List Out:=[⟨(.exit 0),{ t:=(qz 8 ((.vec 0)::qz 40 [])),h:=[.vec 5 [(.int .u8)]] }⟩]
noncomputable def q5B:=qa [(149,q8 qaf qaD q2r),(150,q8 q6k q6D q1b),(151,q8 jg ji zE)] [(110,Tryz.f110)] [] 0
noncomputable def q0f:=vd q5B 110 Tryz.f110 7 q8P q9e
theorem qiq:qp Tryz.prog qc q5B.nimp (qy Tryz.prog q5B.iter 110) (zu Tryz.f110 7) (qk q8P q9e (qg q0f)):=
 gk q5B qe q9 (alc qf4 (alc qc8 (alc vg aln))) aln (b1 Tryz.func110) Tryz.func110
noncomputable def qiK:=qa [(149,q8 qaf qaD q2r),(150,q8 q6k q6D q1b),(151,q8 jg ji zE)] [(110,Tryz.f110)] [((110,7),qk q8P q9e (qg q0f))] 0
noncomputable def vh:=qo qiK 110 Tryz.f110 true q2H q2V
theorem q42:zb Tryz.prog qc 110 (q8 q2H q2V vh):=sk qiK qe q9 (alc qf4 (alc qc8 (alc vg aln))) (alc (lk Tryz.func110 qiq) aln) (b1 Tryz.func110) Tryz.func110
def q4w:FIn:=⟨[.str,.str],[]⟩
def q4s:List FOut:=[⟨.bool,[],none⟩]
noncomputable def qm2:=qa [] [(111,Tryz.f111)] [] 0
noncomputable def uu:=qo qm2 111 Tryz.f111 true q4w q4s
theorem q5g:zb Tryz.prog qc 111 (q8 q4w q4s uu):=sk qm2 qe q9 aln aln (b1 Tryz.func111) Tryz.func111
def qaq:FIn:=⟨[.str,.str],[]⟩
def qaG:List FOut:=[⟨.str,[],none⟩]
noncomputable def qlR:=qa [(73,q8 q14 q15 qW),(104,q8 j6 j0 qB),(107,q8 uC uB zW),(108,q8 wg wk qt),(109,q8 vU j2 qI),(110,q8 q2H q2V vh),(111,q8 q4w q4s uu)] [(72,Tryz.f72)] [] 0
noncomputable def q2i:=qo qlR 72 Tryz.f72 true qaq qaG
theorem qn6:zb Tryz.prog qc 72 (q8 qaq qaG q2i):=sk qlR qe q9 (alc q0y (alc vH (alc uf (alc zw (alc vQ (alc q42 (alc q5g aln))))))) aln (b1 Tryz.func72) Tryz.func72
def q4Z:FIn:=⟨[.str,.str],[]⟩
def q5C:List FOut:=[⟨.str,[],none⟩]
noncomputable def qjD:=qa [(72,q8 qaq qaG q2i),(105,q8 ym yq zC)] [(96,Tryz.f96)] [] 0
noncomputable def wJ:=qo qjD 96 Tryz.f96 true q4Z q5C
theorem q7l:zb Tryz.prog qc 96 (q8 q4Z q5C wJ):=sk qjD qe q9 (alc qn6 (alc yF aln)) aln (b1 Tryz.func96) Tryz.func96
def q5y:FIn:=⟨[.str,.str],[]⟩
def q5b:List FOut:=[⟨(.int .i64),[],none⟩]
noncomputable def qiA:=qa [(96,q8 q4Z q5C wJ),(104,q8 j6 j0 qB)] [(94,Tryz.f94)] [] 0
noncomputable def ya:=qo qiA 94 Tryz.f94 true q5y q5b
theorem qmB:zb Tryz.prog qc 94 (q8 q5y q5b ya):=sk qiA qe q9 (alc q7l (alc vH aln)) aln (b1 Tryz.func94) Tryz.func94
def q9v:FIn:=⟨[.str,.str],[]⟩
def q97:List FOut:=[⟨.str,[],none⟩]
def q6d:Tmpl:={ t:=(.str::.str::.any::.any::.any::(.vec 0)::(.int .i64)::(.int .i64)::qz 69 []),h:=[.vec 3 [(.int .i64)]] }
def q5R:List Out:=[⟨(.exit 2),{ t:=(.str::.str::.any::.any::.any::(.vec 0)::(.int .i64)::qz 70 []),h:=[.vec 3 [(.int .i64)]] }⟩]
noncomputable def q2T:=qa [(151,q8 jg ji zE)] [(146,Tryz.f146)] [] 0
noncomputable def yI:=vd q2T 146 Tryz.f146 9 q6d q5R
theorem qgv:qp Tryz.prog qc q2T.nimp (qy Tryz.prog q2T.iter 146) (zu Tryz.f146 9) (qk q6d q5R (qg yI)):=
 gk q2T qe q9 (alc vg aln) aln (b1 Tryz.func146) Tryz.func146
def q62:Tmpl:={ t:=(.str::.str::.any::.any::.any::(.vec 0)::(.int .i64)::qz 70 []),h:=[.vec 3 [(.int .i64)]] }
def q5O:List Out:=[⟨(.exit 0),{ t:=(qz 5 ((.vec 0)::qz 71 [])),h:=[.vec 3 [(.int .i64)]] }⟩]
noncomputable def q2K:=qa [(151,q8 jg ji zE)] [(146,Tryz.f146)] [((146,9),qk q6d q5R (qg yI))] 0
noncomputable def yD:=vd q2K 146 Tryz.f146 4 q62 q5O
theorem qgo:qp Tryz.prog qc q2K.nimp (qy Tryz.prog q2K.iter 146) (zu Tryz.f146 4) (qk q62 q5O (qg yD)):=
 gk q2K qe q9 (alc vg aln) (alc (lk Tryz.func146 qgv) aln) (b1 Tryz.func146) Tryz.func146
def q4Y:Tmpl:={ t:=(qz 5 ((.vec 0)::.any::.any::(.vec 1)::(.int .i64)::(.int .i64)::qz 66 [])),h:=[.vec 3 [(.int .i64)],.vec 5 [(.int .u8)]] }
def q4O:List Out:=[⟨(.exit 4),{ t:=(qz 8 ((.vec 1)::qz 68 [])),h:=[.dead,.vec 5 [(.int .u8)]] }⟩]
noncomputable def q1H:=qa [(151,q8 jg ji zE)] [(146,Tryz.f146)] [] 0
noncomputable def jD:=vd q1H 146 Tryz.f146 17 q4Y q4O
theorem qeL:qp Tryz.prog qc q1H.nimp (qy Tryz.prog q1H.iter 146) (zu Tryz.f146 17) (qk q4Y q4O (qg jD)):=
 gk q1H qe q9 (alc vg aln) aln (b1 Tryz.func146) Tryz.func146
noncomputable def qf8:=qa [(151,q8 jg ji zE)] [(146,Tryz.f146)] [((146,4),qk q62 q5O (qg yD)),((146,17),qk q4Y q4O (qg jD))] 0
noncomputable def q09:=qo qf8 146 Tryz.f146 true q9v q97
theorem qiW:zb Tryz.prog qc 146 (q8 q9v q97 q09):=sk qf8 qe q9 (alc vg aln) (alc (lk Tryz.func146 qgo) (alc (lk Tryz.func146 qeL) aln)) (b1 Tryz.func146) Tryz.func146
def q8z:FIn:=⟨[.str,.str],[]⟩
def q8g:List FOut:=[⟨.str,[],none⟩]
noncomputable def qix:=qa [(73,q8 q14 q15 qW),(104,q8 j6 j0 qB),(107,q8 uC uB zW),(108,q8 wg wk qt),(109,q8 vU j2 qI),(146,q8 q9v q97 q09)] [(103,Tryz.f103)] [] 0
noncomputable def w9:=qo qix 103 Tryz.f103 true q8z q8g
theorem qef:zb Tryz.prog qc 103 (q8 q8z q8g w9):=sk qix qe q9 (alc q0y (alc vH (alc uf (alc zw (alc vQ (alc qiW aln)))))) aln (b1 Tryz.func103) Tryz.func103
def q9N:FIn:=⟨[.str,.str],[]⟩
def q9y:List FOut:=[⟨(.tuple [.str,.str]),[],none⟩]
def q5i:Tmpl:={ t:=(.str::.str::qz 4 (.str::.str::(.int .i64)::(.int .u8)::qz 31 [])),h:=[] }
def q4T:List Out:=[⟨(.exit 2),{ t:=(.str::.str::qz 4 (.str::.str::(.int .i64)::(.int .u8)::qz 31 [])),h:=[] }⟩]
noncomputable def q1v:=qa [(110,q8 q2H q2V vh),(111,q8 q4w q4s uu),(151,q8 jg ji zE)] [(147,Tryz.f147)] [] 0
noncomputable def jr:=vd q1v 147 Tryz.f147 11 q5i q4T
theorem qfo:qp Tryz.prog qc q1v.nimp (qy Tryz.prog q1v.iter 147) (zu Tryz.f147 11) (qk q5i q4T (qg jr)):=
 gk q1v qe q9 (alc q42 (alc q5g (alc vg aln))) aln (b1 Tryz.func147) Tryz.func147
def q5X:Tmpl:={ t:=(.str::.str::qz 4 (.str::.str::(.int .i64)::qz 32 [])),h:=[] }
def q6f:List Out:=[⟨(.exit 0),{ t:=(qz 6 (.str::.str::qz 33 [])),h:=[] }⟩]
noncomputable def q2R:=qa [(110,q8 q2H q2V vh),(111,q8 q4w q4s uu),(151,q8 jg ji zE)] [(147,Tryz.f147)] [((147,11),qk q5i q4T (qg jr))] 0
noncomputable def q04:=vd q2R 147 Tryz.f147 4 q5X q6f
theorem qgy:qp Tryz.prog qc q2R.nimp (qy Tryz.prog q2R.iter 147) (zu Tryz.f147 4) (qk q5X q6f (qg q04)):=
 gk q2R qe q9 (alc q42 (alc q5g (alc vg aln))) (alc (lk Tryz.func147 qfo) aln) (b1 Tryz.func147) Tryz.func147
noncomputable def qfr:=qa [(110,q8 q2H q2V vh),(111,q8 q4w q4s uu),(151,q8 jg ji zE)] [(147,Tryz.f147)] [((147,4),qk q5X q6f (qg q04))] 0
noncomputable def q2o:=qo qfr 147 Tryz.f147 true q9N q9y
theorem qjb:zb Tryz.prog qc 147 (q8 q9N q9y q2o):=sk qfr qe q9 (alc q42 (alc q5g (alc vg aln))) (alc (lk Tryz.func147 qgy) aln) (b1 Tryz.func147) Tryz.func147
def q1a:FIn:=⟨[.str,.str],[]⟩
def q1g:List FOut:=[⟨(.tuple [.str,.str]),[],none⟩]
noncomputable def qh3:=qa [(73,q8 q14 q15 qW),(96,q8 q4Z q5C wJ),(103,q8 q8z q8g w9),(104,q8 j6 j0 qB),(107,q8 uC uB zW),(108,q8 wg wk qt),(109,q8 vU j2 qI),(147,q8 q9N q9y q2o)] [(106,Tryz.f106)] [] 0
noncomputable def zR:=qo qh3 106 Tryz.f106 true q1a q1g
theorem q30:zb Tryz.prog qc 106 (q8 q1a q1g zR):=sk qh3 qe q9 (alc q0y (alc q7l (alc qef (alc vH (alc uf (alc zw (alc vQ (alc qjb aln)))))))) aln (b1 Tryz.func106) Tryz.func106
def q6m:FIn:=⟨[.str,.str],[]⟩
def q6G:List FOut:=[⟨.str,[],none⟩]
def q6h:Tmpl:={ t:=(qz 5 ((.int .i64)::(.int .i64)::qz 36 [])),h:=[] }
def q5P:List Out:=[⟨(.exit 2),{ t:=(qz 5 ((.int .i64)::qz 37 [])),h:=[] }⟩]
noncomputable def q2t:=qa [(73,q8 q14 q15 qW),(106,q8 q1a q1g zR),(107,q8 uC uB zW),(108,q8 wg wk qt),(109,q8 vU j2 qI)] [(95,Tryz.f95)] [] 0
noncomputable def yB:=vd q2t 95 Tryz.f95 10 q6h q5P
theorem qgn:qp Tryz.prog qc q2t.nimp (qy Tryz.prog q2t.iter 95) (zu Tryz.f95 10) (qk q6h q5P (qg yB)):=
 gk q2t qe q9 (alc q0y (alc q30 (alc uf (alc zw (alc vQ aln))))) aln (b1 Tryz.func95) Tryz.func95
def q7D:Tmpl:={ t:=(.str::.str::qz 41 []),h:=[] }
def q7v:List Out:=[⟨(.exit 0),{ t:=(.str::qz 42 []),h:=[] }⟩,⟨.ret,{ t:=(qz 4 (.str::qz 38 [])),h:=[] }⟩]
noncomputable def q46:=qa [(73,q8 q14 q15 qW),(106,q8 q1a q1g zR),(107,q8 uC uB zW),(108,q8 wg wk qt),(109,q8 vU j2 qI)] [(95,Tryz.f95)] [((95,10),qk q6h q5P (qg yB))] 0
noncomputable def q0N:=vd q46 95 Tryz.f95 3 q7D q7v
theorem qhu:qp Tryz.prog qc q46.nimp (qy Tryz.prog q46.iter 95) (zu Tryz.f95 3) (qk q7D q7v (qg q0N)):=
 gk q46 qe q9 (alc q0y (alc q30 (alc uf (alc zw (alc vQ aln))))) (alc (lk Tryz.func95 qgn) aln) (b1 Tryz.func95) Tryz.func95
noncomputable def qh8:=qa [(73,q8 q14 q15 qW),(106,q8 q1a q1g zR),(107,q8 uC uB zW),(108,q8 wg wk qt),(109,q8 vU j2 qI)] [(95,Tryz.f95)] [((95,3),qk q7D q7v (qg q0N))] 0
noncomputable def uO:=qo qh8 95 Tryz.f95 true q6m q6G
theorem qbX:zb Tryz.prog qc 95 (q8 q6m q6G uO):=sk qh8 qe q9 (alc q0y (alc q30 (alc uf (alc zw (alc vQ aln))))) (alc (lk Tryz.func95 qhu) aln) (b1 Tryz.func95) Tryz.func95
def q82:FIn:=⟨[.str],[]⟩
def q8G:List FOut:=[⟨(.int .i64),[],none⟩]
noncomputable def qiU:=qa [(86,q8 q2P q2X zS),(92,q8 qd6 qdl q2I),(93,q8 q8p q80 q0C),(94,q8 q5y q5b ya),(95,q8 q6m q6G uO)] [(54,Tryz.f54)] [] 0
noncomputable def q0E:=qo qiU 54 Tryz.f54 true q82 q8G
theorem qe5:zb Tryz.prog qc 54 (q8 q82 q8G q0E):=sk qiU qe q9 (alc q7F (alc qmt (alc qe6 (alc qmB (alc qbX aln))))) aln (b1 Tryz.func54) Tryz.func54
def qbh:FIn:=⟨[.str],[]⟩
def qaO:List FOut:=[⟨(.int .i64),[],none⟩]
noncomputable def qpF:=qa [(86,q8 q2P q2X zS),(94,q8 q5y q5b ya)] [(144,Tryz.f144)] [] 0
noncomputable def yw:=qo qpF 144 Tryz.f144 true qbh qaO
def yK:FIn:=⟨[.str,.str],[]⟩
def yR:List FOut:=[⟨(.imm [.str]),[],none⟩]
noncomputable def qfx:=qa [(86,q8 q2P q2X zS),(103,q8 q8z q8g w9)] [(70,Tryz.f70)] [] 0
noncomputable def zk:=qo qfx 70 Tryz.f70 true yK yR
theorem qjU:zb Tryz.prog qc 70 (q8 yK yR zk):=sk qfx qe q9 (alc q7F (alc qef aln)) aln (b1 Tryz.func70) Tryz.func70
def uP:FIn:=⟨[.str,.str],[]⟩
def uQ:List FOut:=[⟨.str,[],none⟩]
noncomputable def qh9:=qa [(95,q8 q6m q6G uO),(104,q8 j6 j0 qB),(105,q8 ym yq zC),(106,q8 q1a q1g zR)] [(71,Tryz.f71)] [] 0
noncomputable def zz:=qo qh9 71 Tryz.f71 true uP uQ
theorem qkY:zb Tryz.prog qc 71 (q8 uP uQ zz):=sk qh9 qe q9 (alc qbX (alc vH (alc yF (alc q30 aln)))) aln (b1 Tryz.func71) Tryz.func71
def qaC:FIn:=⟨[.str,.str],[]⟩
def qau:List FOut:=[⟨.str,[],none⟩]
noncomputable def qur:=qa [(70,q8 yK yR zk),(71,q8 uP uQ zz),(72,q8 qaq qaG q2i)] [(26,Tryz.f26)] [] 0
noncomputable def yj:=qo qur 26 Tryz.f26 true qaC qau
def uv:FIn:=⟨[.str,.str],[]⟩
def ui:List FOut:=[⟨.str,[],none⟩]
noncomputable def qjj:=qa [(70,q8 yK yR zk),(71,q8 uP uQ zz),(96,q8 q4Z q5C wJ)] [(55,Tryz.f55)] [] 0
noncomputable def qY:=qo qjj 55 Tryz.f55 true uv ui
theorem qep:zb Tryz.prog qc 55 (q8 uv ui qY):=sk qjj qe q9 (alc qjU (alc qkY (alc q7l aln))) aln (b1 Tryz.func55) Tryz.func55
def q2Z:FIn:=⟨[.str,.str],[]⟩
def q2S:List FOut:=[⟨.str,[],none⟩]
noncomputable def qsb:=qa [(70,q8 yK yR zk),(71,q8 uP uQ zz)] [(171,Tryz.f171)] [] 0
noncomputable def qO:=qo qsb 171 Tryz.f171 true q2Z q2S
def qhC:FIn:=⟨[(.agg [.str,.str]),(.agg [.str,.str])],[]⟩
def qhw:List FOut:=[⟨.str,[],none⟩]
noncomputable def qva:=qa [(26,q8 qaC qau yj),(171,q8 q2Z q2S qO)] [(176,Tryz.f176)] [] 0
noncomputable def q1V:=qo qva 176 Tryz.f176 true qhC qhw
def qcS:FIn:=⟨[(.agg [.str,.str]),(.agg [.str,.str])],[]⟩
def qd7:List FOut:=[⟨(.agg [.str,.str]),[],none⟩]
noncomputable def qr8:=qa [(55,q8 uv ui qY)] [(177,Tryz.f177)] [] 0
noncomputable def q2G:=qo qr8 177 Tryz.f177 true qcS qd7
def qaR:FIn:=⟨[.str],[]⟩
def qbn:List FOut:=[⟨.str,[],none⟩]
noncomputable def qpu:=qa [(55,q8 uv ui qY)] [(213,Tryz.f213)] [] 0
noncomputable def kg:=qo qpu 213 Tryz.f213 true qaR qbn
def qqe:FIn:=⟨[.str,.str],[]⟩
def qqp:List FOut:=[⟨.str,[],none⟩]
noncomputable def qyl:=qa [(70,q8 yK yR zk),(71,q8 uP uQ zz)] [(235,Tryz.f235)] [] 0
noncomputable def qc7:=qo qyl 235 Tryz.f235 true qqe qqp
def qel:FIn:=⟨[(.agg [.str,.str,.str]),(.agg [.str,.str,.str])],[]⟩
def qer:List FOut:=[⟨(.tuple [(.agg [.str,.str,.str,.str,.str]),.bool]),[],none⟩]
noncomputable def qmd:=qa [(26,q8 qaC qau yj),(55,q8 uv ui qY),(144,q8 qbh qaO yw),(171,q8 q2Z q2S qO),(176,q8 qhC qhw q1V),(177,q8 qcS qd7 q2G),(213,q8 qaR qbn kg),(235,q8 qqe qqp qc7)] [(212,Tryz.f212)] [] 0
noncomputable def q3Q:=qo qmd 212 Tryz.f212 true qel qer
def q9O:FIn:=⟨[(.imm [.str,.str,.str]),(.agg [(.int .i64),(.int .i64),(.int .i64)])],[]⟩
def q9f:List FOut:=[⟨(.tuple [(.agg [.str,.str,.str,.str,.str]),.bool]),[],none⟩]
noncomputable def qnN:=qa [(212,q8 qel qer q3Q),(213,q8 qaR qbn kg)] [(178,Tryz.f178)] [] 0
noncomputable def kH:=qo qnN 178 Tryz.f178 true q9O q9f
def qiz:FIn:=⟨[.str,.str],[]⟩
def qk1:List FOut:=[⟨(.int .i64),[],none⟩]
noncomputable def qs9:=qa [(70,q8 yK yR zk),(94,q8 q5y q5b ya)] [(133,Tryz.f133)] [] 0
noncomputable def q7U:=qo qs9 133 Tryz.f133 true qiz qk1
def qlm:FIn:=⟨[.str,.str,.str],[]⟩
def qlB:List FOut:=[⟨(.int .i64),[],none⟩]
noncomputable def qti:=qa [(133,q8 qiz qk1 q7U),(144,q8 qbh qaO yw),(171,q8 q2Z q2S qO)] [(183,Tryz.f183)] [] 0
noncomputable def qal:=qo qti 183 Tryz.f183 true qlm qlB
def qd8:FIn:=⟨[(.agg [.str,.str,.str]),(.agg [.str,.str,.str,.str,.str])],[]⟩
def qdy:List FOut:=[⟨.bool,[],none⟩]
noncomputable def qrP:=qa [(26,q8 qaC qau yj),(55,q8 uv ui qY),(171,q8 q2Z q2S qO),(176,q8 qhC qhw q1V),(177,q8 qcS qd7 q2G),(183,q8 qlm qlB qal)] [(179,Tryz.f179)] [] 0
noncomputable def q52:=qo qrP 179 Tryz.f179 true qd8 qdy
def q18:FIn:=⟨[(.imm [.str,.str,.str]),(.agg [(.int .i64),(.int .i64),(.int .i64)])],[]⟩
def q19:List FOut:=[⟨.bool,[],none⟩]
def qdR:Tmpl:={ t:=((.imm [.str,.str,.str])::qz 4 ((.ptr 1 0)::.any::(.int .i64)::qz 21 [])),h:=[.dead,.cells [.str,.str,.str,.str,.str]] }
def qet:List Out:=[⟨(.exit 0),{ t:=(qz 29 []),h:=[] }⟩,⟨.ret,{ t:=(qz 4 (.bool::qz 24 [])),h:=[] }⟩]
noncomputable def qmv:=qa [(178,q8 q9O q9f kH),(179,q8 qd8 qdy q52)] [(135,Tryz.f135)] [] 0
noncomputable def q45:=vd qmv 135 Tryz.f135 7 qdR qet
noncomputable def qq4:=qa [(178,q8 q9O q9f kH),(179,q8 qd8 qdy q52)] [(135,Tryz.f135)] [((135,7),qk qdR qet (qg q45))] 0
noncomputable def vV:=qo qq4 135 Tryz.f135 true q18 q19
def qiF:FIn:=⟨[(.imm [.str,.str,.str])],[]⟩
def qjV:List FOut:=[⟨(.tuple [(.agg [(.int .i64),(.int .i64),(.int .i64)]),.bool]),[],none⟩]
def qfR:Tmpl:={ t:=((.imm [.str,.str,.str])::.any::(.ptr 0 0)::.any::(.int .i64)::qz 49 []),h:=[.cells [(.int .i64),(.int .i64),(.int .i64)]] }
def qeK:List Out:=[⟨(.exit 0),{ t:=((.imm [.str,.str,.str])::.any::(.ptr 0 0)::qz 51 []),h:=[.cells [(.int .i64),(.int .i64),(.int .i64)]] }⟩,⟨.ret,{ t:=(.any::.any::(.ptr 0 0)::.bool::qz 50 []),h:=[.cells [(.int .i64),(.int .i64),(.int .i64)]] }⟩]
noncomputable def qmQ:=qa [(135,q8 q18 q19 vV)] [(88,Tryz.f88)] [] 0
noncomputable def q5n:=vd qmQ 88 Tryz.f88 3 qfR qeK
def qe4:Tmpl:={ t:=((.imm [.str,.str,.str])::.any::(.ptr 0 0)::.any::.any::.any::(.int .i64)::(.int .i64)::qz 30 ((.vec 1)::(.int .i64)::(.int .i64)::qz 13 [])),h:=[.cells [(.int .i64),(.int .i64),(.int .i64)],.vec 3 [(.int .i64)]] }
def qdW:List Out:=[⟨(.exit 6),{ t:=((.imm [.str,.str,.str])::.any::(.ptr 0 0)::.any::.any::.any::(.int .i64)::(.int .i64)::qz 46 []),h:=[.cells [(.int .i64),(.int .i64),(.int .i64)]] }⟩,⟨.ret,{ t:=(.any::.any::(.ptr 0 0)::.bool::qz 50 []),h:=[.cells [(.int .i64),(.int .i64),(.int .i64)]] }⟩]
noncomputable def qml:=qa [(135,q8 q18 q19 vV)] [(88,Tryz.f88)] [] 0
noncomputable def q4a:=vd qml 88 Tryz.f88 22 qe4 qdW
def qe3:Tmpl:={ t:=((.imm [.str,.str,.str])::.any::(.ptr 0 0)::.any::.any::.any::(.int .i64)::(.int .i64)::qz 46 []),h:=[.cells [(.int .i64),(.int .i64),(.int .i64)]] }
def qem:List Out:=[⟨(.exit 4),{ t:=((.imm [.str,.str,.str])::.any::(.ptr 0 0)::.any::.any::.any::(.int .i64)::qz 47 []),h:=[.cells [(.int .i64),(.int .i64),(.int .i64)]] }⟩,⟨.ret,{ t:=(.any::.any::(.ptr 0 0)::.bool::qz 50 []),h:=[.cells [(.int .i64),(.int .i64),(.int .i64)]] }⟩]
noncomputable def qmr:=qa [(135,q8 q18 q19 vV)] [(88,Tryz.f88)] [((88,22),qk qe4 qdW (qg q4a))] 0
noncomputable def q3X:=vd qmr 88 Tryz.f88 17 qe3 qem
def qdT:Tmpl:={ t:=((.imm [.str,.str,.str])::.any::(.ptr 0 0)::.any::.any::.any::(.int .i64)::qz 47 []),h:=[.cells [(.int .i64),(.int .i64),(.int .i64)]] }
def qeg:List Out:=[⟨(.exit 2),{ t:=(.any::.any::(.ptr 0 0)::qz 51 []),h:=[.cells [(.int .i64),(.int .i64),(.int .i64)]] }⟩,⟨.ret,{ t:=(.any::.any::(.ptr 0 0)::.bool::qz 50 []),h:=[.cells [(.int .i64),(.int .i64),(.int .i64)]] }⟩]
noncomputable def qmq:=qa [(135,q8 q18 q19 vV)] [(88,Tryz.f88)] [((88,17),qk qe3 qem (qg q3X))] 0
noncomputable def q41:=vd qmq 88 Tryz.f88 12 qdT qeg
noncomputable def qrZ:=qa [(135,q8 q18 q19 vV)] [(88,Tryz.f88)] [((88,3),qk qfR qeK (qg q5n)),((88,12),qk qdT qeg (qg q41))] 0
noncomputable def q8d:=qo qrZ 88 Tryz.f88 true qiF qjV
def q4M:FIn:=⟨[(.int .i64)],[]⟩
def q5H:List FOut:=[⟨.str,[],none⟩]
noncomputable def qjH:=qa [(73,q8 q14 q15 qW)] [(27,Tryz.f27)] [] 0
noncomputable def j9:=qo qjH 27 Tryz.f27 true q4M q5H
theorem qe7:zb Tryz.prog qc 27 (q8 q4M q5H j9):=sk qjH qe q9 (alc q0y aln) aln (b1 Tryz.func27) Tryz.func27
def q0V:FIn:=⟨[(.agg [.str,.str,.str]),(.agg [.str,.str])],[]⟩
def q0Y:List FOut:=[⟨(.tuple [.bool,(.int .i64)]),[],none⟩]
def q5o:Tmpl:={ t:=(.any::.any::(.ptr 0 0)::(.ptr 1 0)::qz 17 ((.vec 2)::(.int .i64)::(.int .i64)::qz 33 [])),h:=[.cells [.str,.str,.str],.cells [.str,.str],.vec 36 [.str]] }
def q4S:List Out:=[⟨(.exit 0),{ t:=(.any::.any::(.ptr 0 0)::(.ptr 1 0)::qz 53 []),h:=[.cells [.str,.str,.str],.cells [.str,.str]] }⟩,⟨.ret,{ t:=(qz 4 (.bool::(.int .i64)::qz 51 [])),h:=[] }⟩]
noncomputable def q1O:=qa [(74,q8 q2L q2w jZ),(75,q8 vo vj qE),(76,q8 q1F q1t jw),(77,q8 q3V q4b jI)] [(28,Tryz.f28)] [] 0
noncomputable def jE:=vd q1O 28 Tryz.f28 7 q5o q4S
theorem qfD:qp Tryz.prog qc q1O.nimp (qy Tryz.prog q1O.iter 28) (zu Tryz.f28 7) (qk q5o q4S (qg jE)):=
 gk q1O qe q9 (alc q40 (alc wL (alc q6V (alc q9d aln)))) aln (b1 Tryz.func28) Tryz.func28
noncomputable def qdY:=qa [(74,q8 q2L q2w jZ),(75,q8 vo vj qE),(76,q8 q1F q1t jw),(77,q8 q3V q4b jI)] [(28,Tryz.f28)] [((28,7),qk q5o q4S (qg jE))] 0
noncomputable def zQ:=qo qdY 28 Tryz.f28 true q0V q0Y
theorem q4h:zb Tryz.prog qc 28 (q8 q0V q0Y zQ):=sk qdY qe q9 (alc q40 (alc wL (alc q6V (alc q9d aln)))) (alc (lk Tryz.func28 qfD) aln) (b1 Tryz.func28) Tryz.func28
def qht:FIn:=⟨[(.imm [(.int .i64),(.int .i64),(.int .i64),(.int .i64),(.int .i64),(.int .i64),.bool]),(.imm [(.int .i64),(.int .i64),(.int .i64)])],[]⟩
def qhP:List FOut:=[⟨.bool,[],none⟩]
noncomputable def qnG:=qa [] [(34,Tryz.f34)] [] 0
noncomputable def q9q:=qo qnG 34 Tryz.f34 true qht qhP
theorem qpV:zb Tryz.prog qc 34 (q8 qht qhP q9q):=sk qnG qe q9 aln aln (b1 Tryz.func34) Tryz.func34
def qgd:FIn:=⟨[(.int .i64)],[]⟩
def qg6:List FOut:=[⟨.bool,[],none⟩]
noncomputable def qqQ:=qa [] [(172,Tryz.f172)] [] 0
noncomputable def yC:=qo qqQ 172 Tryz.f172 true qgd qg6
theorem qjt:zb Tryz.prog qc 172 (q8 qgd qg6 yC):=sk qqQ qe q9 aln aln (b1 Tryz.func172) Tryz.func172
def qaz:FIn:=⟨[(.int .i64)],[]⟩
def qab:List FOut:=[⟨.bool,[],none⟩]
noncomputable def qlF:=qa [] [(173,Tryz.f173)] [] 0
noncomputable def jj:=qo qlF 173 Tryz.f173 true qaz qab
theorem qfG:zb Tryz.prog qc 173 (q8 qaz qab jj):=sk qlF qe q9 aln aln (b1 Tryz.func173) Tryz.func173
def q2x:FIn:=⟨[(.agg [(.int .i64),(.int .i64),(.int .i64),(.int .i64),(.int .i64),(.int .i64),.bool])],[]⟩
def q31:List FOut:=[⟨(.int .i64),[],none⟩]
noncomputable def qjl:=qa [(172,q8 qgd qg6 yC),(173,q8 qaz qab jj)] [(129,Tryz.f129)] [] 0
noncomputable def yf:=qo qjl 129 Tryz.f129 true q2x q31
theorem q47:zb Tryz.prog qc 129 (q8 q2x q31 yf):=sk qjl qe q9 (alc qjt (alc qfG aln)) aln (b1 Tryz.func129) Tryz.func129
end Go.Eng

namespace Go.Eng
open Go.Proofs
def q77:FIn:=⟨[(.agg [(.int .i64),(.int .i64),(.int .i64)])],[]⟩
def q6T:List FOut:=[⟨(.int .i64),[],none⟩]
noncomputable def qlw:=qa [(172,q8 qgd qg6 yC),(173,q8 qaz qab jj)] [(130,Tryz.f130)] [] 0
noncomputable def q25:=qo qlw 130 Tryz.f130 true q77 q6T
theorem q9l:zb Tryz.prog qc 130 (q8 q77 q6T q25):=sk qlw qe q9 (alc qjt (alc qfG aln)) aln (b1 Tryz.func130) Tryz.func130
def q1K:FIn:=⟨[(.imm [(.int .i64),(.int .i64),(.int .i64),(.int .i64),(.int .i64),(.int .i64),.bool]),(.imm [(.int .i64),(.int .i64),(.int .i64)])],[]⟩
def q1z:List FOut:=[⟨(.int .i64),[],none⟩]
def q3g:Tmpl:={ t:=((.imm [(.int .i64),(.int .i64),(.int .i64),(.int .i64),(.int .i64),(.int .i64),.bool])::(.imm [(.int .i64),(.int .i64),(.int .i64)])::qz 12 ((.imm [(.int .i64),(.int .i64),(.int .i64),(.int .i64),(.int .i64),(.int .i64),.bool])::(.int .i64)::(.int .i64)::qz 26 [])),h:=[] }
def q3l:List Out:=[⟨(.exit 0),{ t:=((.imm [(.int .i64),(.int .i64),(.int .i64),(.int .i64),(.int .i64),(.int .i64),.bool])::(.imm [(.int .i64),(.int .i64),(.int .i64)])::qz 41 []),h:=[] }⟩,⟨.ret,{ t:=(qz 4 ((.int .i64)::qz 38 [])),h:=[] }⟩]
noncomputable def kt:=qa [(129,q8 q2x q31 yf),(130,q8 q77 q6T q25)] [(83,Tryz.f83)] [] 0
noncomputable def jV:=vd kt 83 Tryz.f83 6 q3g q3l
theorem qdb:qp Tryz.prog qc kt.nimp (qy Tryz.prog kt.iter 83) (zu Tryz.f83 6) (qk q3g q3l (qg jV)):=
 gk kt qe q9 (alc q47 (alc q9l aln)) aln (b1 Tryz.func83) Tryz.func83
def q2p:Tmpl:={ t:=(qz 31 ((.imm [(.int .i64),(.int .i64),(.int .i64)])::(.int .i64)::(.int .i64)::qz 9 [])),h:=[] }
def q24:List Out:=[⟨(.exit 2),{ t:=(qz 43 []),h:=[] }⟩,⟨.ret,{ t:=(qz 4 ((.int .i64)::qz 38 [])),h:=[] }⟩]
noncomputable def uz:=qa [(129,q8 q2x q31 yf),(130,q8 q77 q6T q25)] [(83,Tryz.f83)] [] 0
noncomputable def ja:=vd uz 83 Tryz.f83 19 q2p q24
theorem qcp:qp Tryz.prog qc uz.nimp (qy Tryz.prog uz.iter 83) (zu Tryz.f83 19) (qk q2p q24 (qg ja)):=
 gk uz qe q9 (alc q47 (alc q9l aln)) aln (b1 Tryz.func83) Tryz.func83
noncomputable def qaa:=qa [(129,q8 q2x q31 yf),(130,q8 q77 q6T q25)] [(83,Tryz.f83)] [((83,6),qk q3g q3l (qg jV)),((83,19),qk q2p q24 (qg ja))] 0
noncomputable def jC:=qo qaa 83 Tryz.f83 true q1K q1z
theorem q6R:zb Tryz.prog qc 83 (q8 q1K q1z jC):=sk qaa qe q9 (alc q47 (alc q9l aln)) (alc (lk Tryz.func83 qdb) (alc (lk Tryz.func83 qcp) aln)) (b1 Tryz.func83) Tryz.func83
def q8v:FIn:=⟨[(.agg [(.imm [(.int .i64),(.int .i64),(.int .i64),(.int .i64),(.int .i64),(.int .i64),.bool]),(.imm [(.int .i64),(.int .i64),(.int .i64)]),(.int .i64)])],[]⟩
def q8F:List FOut:=[⟨(.int .i64),[],none⟩]
def q7u:Tmpl:={ t:=(.any::(.ptr 0 0)::qz 18 ((.imm [(.int .i64),(.int .i64),(.int .i64),(.int .i64),(.int .i64),(.int .i64),.bool])::(.int .i64)::(.int .i64)::qz 31 [])),h:=[.cells [(.imm [(.int .i64),(.int .i64),(.int .i64),(.int .i64),(.int .i64),(.int .i64),.bool]),(.imm [(.int .i64),(.int .i64),(.int .i64)]),(.int .i64)]] }
def q7q:List Out:=[⟨(.exit 0),{ t:=(.any::(.ptr 0 0)::qz 52 []),h:=[.cells [(.imm [(.int .i64),(.int .i64),(.int .i64),(.int .i64),(.int .i64),(.int .i64),.bool]),(.imm [(.int .i64),(.int .i64),(.int .i64)]),(.int .i64)]] }⟩,⟨.ret,{ t:=(.any::.any::(.int .i64)::qz 51 []),h:=[] }⟩]
noncomputable def q3W:=qa [(83,q8 q1K q1z jC)] [(39,Tryz.f39)] [] 0
noncomputable def q11:=vd q3W 39 Tryz.f39 10 q7u q7q
theorem qhF:qp Tryz.prog qc q3W.nimp (qy Tryz.prog q3W.iter 39) (zu Tryz.f39 10) (qk q7u q7q (qg q11)):=
 gk q3W qe q9 (alc q6R aln) aln (b1 Tryz.func39) Tryz.func39
noncomputable def qir:=qa [(83,q8 q1K q1z jC)] [(39,Tryz.f39)] [((39,10),qk q7u q7q (qg q11))] 0
noncomputable def q0z:=qo qir 39 Tryz.f39 true q8v q8F
theorem qe0:zb Tryz.prog qc 39 (q8 q8v q8F q0z):=sk qir qe q9 (alc q6R aln) (alc (lk Tryz.func39 qhF) aln) (b1 Tryz.func39) Tryz.func39
def qkL:FIn:=⟨[(.agg [(.int .i64),(.int .i64),(.int .i64),(.int .i64),(.int .i64),(.int .i64),.bool])],[]⟩
def ql8:List FOut:=[⟨(.agg [(.int .i64),(.int .i64),(.int .i64),(.int .i64),(.int .i64),(.int .i64),.bool,(.int .i64)]),[],none⟩]
noncomputable def qqu:=qa [] [(138,Tryz.f138)] [] 0
noncomputable def qbO:=qo qqu 138 Tryz.f138 true qkL ql8
theorem qsg:zb Tryz.prog qc 138 (q8 qkL ql8 qbO):=sk qqu qe q9 aln aln (b1 Tryz.func138) Tryz.func138
def q1Y:FIn:=⟨[(.agg [(.int .i64),(.int .i64),(.int .i64),(.int .i64),(.int .i64),(.int .i64),.bool,(.int .i64)]),(.int .i64)],[]⟩
def q29:List FOut:=[⟨(.int .i64),[],none⟩]
noncomputable def q6M:=qa [] [(180,Tryz.f180)] [] 0
noncomputable def jl:=qo q6M 180 Tryz.f180 true q1Y q29
theorem qca:zb Tryz.prog qc 180 (q8 q1Y q29 jl):=sk q6M qe q9 aln aln (b1 Tryz.func180) Tryz.func180
def q0r:FIn:=⟨[(.agg [(.int .i64),(.int .i64),(.int .i64),(.int .i64),(.int .i64),(.int .i64),.bool,(.int .i64)]),(.int .i64)],[]⟩
def q0n:List FOut:=[⟨(.int .i64),[],none⟩]
noncomputable def q5h:=qa [(180,q8 q1Y q29 jl)] [(139,Tryz.f139)] [] 0
noncomputable def vu:=qo q5h 139 Tryz.f139 true q0r q0n
theorem q9U:zb Tryz.prog qc 139 (q8 q0r q0n vu):=sk q5h qe q9 (alc qca aln) aln (b1 Tryz.func139) Tryz.func139
def qbo:FIn:=⟨[(.agg [(.int .i64),(.int .i64),(.int .i64),(.int .i64),(.int .i64),(.int .i64),.bool]),(.int .i64)],[]⟩
def qbr:List FOut:=[⟨.bool,[],none⟩]
noncomputable def qha:=qa [] [(140,Tryz.f140)] [] 0
noncomputable def q3P:=qo qha 140 Tryz.f140 true qbo qbr
theorem qkS:zb Tryz.prog qc 140 (q8 qbo qbr q3P):=sk qha qe q9 aln aln (b1 Tryz.func140) Tryz.func140
def qdg:FIn:=⟨[(.agg [(.int .i64),(.int .i64),(.int .i64),(.int .i64),(.int .i64),(.int .i64),.bool]),(.int .i64)],[]⟩
def qdE:List FOut:=[⟨(.tuple [(.int .i64),(.int .i64)]),[],none⟩]
noncomputable def qj1:=qa [(129,q8 q2x q31 yf),(138,q8 qkL ql8 qbO),(139,q8 q0r q0n vu),(140,q8 qbo qbr q3P)] [(167,Tryz.f167)] [] 0
noncomputable def q53:=qo qj1 167 Tryz.f167 true qdg qdE
theorem qm9:zb Tryz.prog qc 167 (q8 qdg qdE q53):=sk qj1 qe q9 (alc q47 (alc qsg (alc q9U (alc qkS aln)))) aln (b1 Tryz.func167) Tryz.func167
def q4I:FIn:=⟨[(.agg [(.int .i64),(.int .i64),(.int .i64),(.int .i64),(.int .i64),(.int .i64),.bool]),(.int .i64)],[]⟩
def q5E:List FOut:=[⟨(.tuple [(.int .i64),(.int .i64)]),[],none⟩]
noncomputable def qfp:=qa [(167,q8 qdg qdE q53)] [(125,Tryz.f125)] [] 0
noncomputable def yS:=qo qfp 125 Tryz.f125 true q4I q5E
theorem qan:zb Tryz.prog qc 125 (q8 q4I q5E yS):=sk qfp qe q9 (alc qm9 aln) aln (b1 Tryz.func125) Tryz.func125
def qfk:FIn:=⟨[.str,.str],[]⟩
def qf1:List FOut:=[⟨(.tuple [.str,(.int .i64)]),[],none⟩]
def qb5:Tmpl:={ t:=(.str::.str::qz 11 ((.vec 0)::(.int .i64)::(.int .i64)::qz 27 [])),h:=[.vec 117 [.str]] }
def qb3:List Out:=[⟨(.exit 0),{ t:=(.str::.str::qz 41 []),h:=[] }⟩,⟨.ret,{ t:=(qz 4 (.str::(.int .i64)::qz 37 [])),h:=[] }⟩]
noncomputable def q6r:=qa [(113,q8 j7 vT qJ),(231,q8 zK zM qA)] [(210,Tryz.f210)] [] 0
noncomputable def q13:=vd q6r 210 Tryz.f210 3 qb5 qb3
theorem ql6:qp Tryz.prog qc q6r.nimp (qy Tryz.prog q6r.iter 210) (zu Tryz.f210 3) (qk qb5 qb3 (qg q13)):=
 gk q6r qe q9 (alc vF (alc wn aln)) aln (b1 Tryz.func210) Tryz.func210
noncomputable def qlV:=qa [(113,q8 j7 vT qJ),(231,q8 zK zM qA)] [(210,Tryz.f210)] [((210,3),qk qb5 qb3 (qg q13))] 0
noncomputable def q6W:=qo qlV 210 Tryz.f210 true qfk qf1
theorem qoW:zb Tryz.prog qc 210 (q8 qfk qf1 q6W):=sk qlV qe q9 (alc vF (alc wn aln)) (alc (lk Tryz.func210 ql6) aln) (b1 Tryz.func210) Tryz.func210
def qkB:FIn:=⟨[(.int .i64),(.int .i64)],[]⟩
def ql1:List FOut:=[⟨(.tuple [.str,(.int .i64)]),[],none⟩]
noncomputable def qqL:=qa [(159,q8 q2N q34 zi),(210,q8 qfk qf1 q6W)] [(168,Tryz.f168)] [] 0
noncomputable def qc9:=qo qqL 168 Tryz.f168 true qkB ql1
theorem qsH:zb Tryz.prog qc 168 (q8 qkB ql1 qc9):=sk qqL qe q9 (alc q0s (alc qoW aln)) aln (b1 Tryz.func168) Tryz.func168
def qdc:FIn:=⟨[(.int .i64)],[]⟩
def qcR:List FOut:=[⟨.str,[],none⟩]
noncomputable def qkb:=qa [(159,q8 q2N q34 zi)] [(169,Tryz.f169)] [] 0
noncomputable def q2C:=qo qkb 169 Tryz.f169 true qdc qcR
theorem qmD:zb Tryz.prog qc 169 (q8 qdc qcR q2C):=sk qkb qe q9 (alc q0s aln) aln (b1 Tryz.func169) Tryz.func169
def q3u:FIn:=⟨[(.int .i64),(.int .i64),(.int .i64)],[]⟩
def q3J:List FOut:=[⟨(.tuple [(.agg [.str,.str,.str]),(.int .i64)]),[],none⟩]
noncomputable def qgZ:=qa [(168,q8 qkB ql1 qc9),(169,q8 qdc qcR q2C)] [(126,Tryz.f126)] [] 0
noncomputable def yp:=qo qgZ 126 Tryz.f126 true q3u q3J
theorem q60:zb Tryz.prog qc 126 (q8 q3u q3J yp):=sk qgZ qe q9 (alc qsH (alc qmD aln)) aln (b1 Tryz.func126) Tryz.func126
def kw:FIn:=⟨[(.agg [(.imm [(.int .i64),(.int .i64),(.int .i64),(.int .i64),(.int .i64),(.int .i64),.bool]),(.imm [(.int .i64),(.int .i64),(.int .i64)]),(.int .i64)])],[]⟩
def kq:List FOut:=[⟨(.tuple [(.imm [.str,.str,.str]),(.int .i64)]),[],none⟩]
def q1s:Tmpl:={ t:=(.any::(.ptr 0 0)::.any::.any::(.vec 1)::qz 7 ((.imm [(.int .i64),(.int .i64),(.int .i64),(.int .i64),(.int .i64),(.int .i64),.bool])::(.int .i64)::(.int .i64)::qz 47 [])),h:=[.cells [(.imm [(.int .i64),(.int .i64),(.int .i64),(.int .i64),(.int .i64),(.int .i64),.bool]),(.imm [(.int .i64),(.int .i64),(.int .i64)]),(.int .i64)],.vec 40 [.str,.str,.str]],pro:=[(4,40,[.str,.str,.str])] }
def q1h:List Out:=[⟨(.exit 0),{ t:=(qz 4 ((.vec 1)::qz 57 [])),h:=[.dead,.vec 40 [.str,.str,.str]] }⟩,⟨.ret,{ t:=(.any::.any::.nils::(.int .i64)::qz 58 []),h:=[] }⟩]
noncomputable def yW:=qa [(125,q8 q4I q5E yS),(126,q8 q3u q3J yp)] [(80,Tryz.f80)] [] 0
noncomputable def wo:=vd yW 80 Tryz.f80 4 q1s q1h
theorem qbs:qp Tryz.prog qc yW.nimp (qy Tryz.prog yW.iter 80) (zu Tryz.f80 4) (qk q1s q1h (qg wo)):=
 gk yW qe q9 (alc qan (alc q60 aln)) aln (b1 Tryz.func80) Tryz.func80
noncomputable def q7O:=qa [(125,q8 q4I q5E yS),(126,q8 q3u q3J yp)] [(80,Tryz.f80)] [((80,4),qk q1s q1h (qg wo))] 0
noncomputable def we:=qo q7O 80 Tryz.f80 true kw kq
theorem q5u:zb Tryz.prog qc 80 (q8 kw kq we):=sk q7O qe q9 (alc qan (alc q60 aln)) (alc (lk Tryz.func80 qbs) aln) (b1 Tryz.func80) Tryz.func80
def q4X:FIn:=⟨[(.imm [.str,.str,.str]),(.int .i64)],[]⟩
def q5d:List FOut:=[⟨(.tuple [(.imm [.str,.str,.str]),(.int .i64)]),[],none⟩]
noncomputable def qeH:=qa [(126,q8 q3u q3J yp)] [(81,Tryz.f81)] [] 0
noncomputable def yM:=qo qeH 81 Tryz.f81 true q4X q5d
theorem qay:zb Tryz.prog qc 81 (q8 q4X q5d yM):=sk qeH qe q9 (alc q60 aln) aln (b1 Tryz.func81) Tryz.func81
def uD:FIn:=⟨[(.agg [(.imm [(.int .i64),(.int .i64),(.int .i64),(.int .i64),(.int .i64),(.int .i64),.bool]),(.imm [(.int .i64),(.int .i64),(.int .i64)]),(.int .i64)])],[]⟩
def uy:List FOut:=[⟨(.tuple [(.imm [.str,.str,.str]),(.int .i64)]),[],none⟩]
noncomputable def qka:=qa [(39,q8 q8v q8F q0z),(80,q8 kw kq we),(81,q8 q4X q5d yM)] [(36,Tryz.f36)] [] 0
noncomputable def zY:=qo qka 36 Tryz.f36 true uD uy
theorem ud:zb Tryz.prog qc 36 (q8 uD uy zY):=sk qka qe q9 (alc qe0 (alc q5u (alc qay aln))) aln (b1 Tryz.func36) Tryz.func36
def q75:FIn:=⟨[(.agg [(.imm [(.int .i64),(.int .i64),(.int .i64),(.int .i64),(.int .i64),(.int .i64),.bool]),(.imm [(.int .i64),(.int .i64),(.int .i64)]),(.int .i64)]),(.agg [.str,.str])],[]⟩
def q6Y:List FOut:=[⟨(.tuple [.bool,(.int .i64)]),[],none⟩]
def qbz:Tmpl:={ t:=(.any::.any::.any::(.ptr 1 0)::.any::.any::(.imm [.str,.str,.str])::qz 20 ((.vec 2)::(.int .i64)::(.int .i64)::qz 29 [])),h:=[.dead,.cells [.str,.str],.vec 36 [.str]] }
def qaQ:List Out:=[⟨(.exit 0),{ t:=(.any::.any::.any::(.ptr 1 0)::.any::.any::(.imm [.str,.str,.str])::qz 52 []),h:=[.dead,.cells [.str,.str]] }⟩,⟨.ret,{ t:=(qz 4 (.bool::(.int .i64)::qz 53 [])),h:=[] }⟩]
noncomputable def q6y:=qa [(28,q8 q0V q0Y zQ),(36,q8 uD uy zY),(75,q8 vo vj qE)] [(43,Tryz.f43)] [] 0
noncomputable def q1c:=vd q6y 43 Tryz.f43 7 qbz qaQ
theorem qkn:qp Tryz.prog qc q6y.nimp (qy Tryz.prog q6y.iter 43) (zu Tryz.f43 7) (qk qbz qaQ (qg q1c)):=
 gk q6y qe q9 (alc q4h (alc ud (alc wL aln))) aln (b1 Tryz.func43) Tryz.func43
def q92:Tmpl:={ t:=(.any::.any::.any::(.ptr 1 0)::qz 35 ((.imm [.str,.str,.str])::(.int .i64)::(.int .i64)::qz 17 [])),h:=[.dead,.cells [.str,.str]] }
def q9c:List Out:=[⟨(.exit 2),{ t:=(qz 59 []),h:=[] }⟩,⟨.ret,{ t:=(qz 4 (.bool::(.int .i64)::qz 53 [])),h:=[] }⟩]
noncomputable def q5D:=qa [(28,q8 q0V q0Y zQ),(36,q8 uD uy zY),(75,q8 vo vj qE)] [(43,Tryz.f43)] [] 0
noncomputable def q08:=vd q5D 43 Tryz.f43 17 q92 q9c
theorem qj8:qp Tryz.prog qc q5D.nimp (qy Tryz.prog q5D.iter 43) (zu Tryz.f43 17) (qk q92 q9c (qg q08)):=
 gk q5D qe q9 (alc q4h (alc ud (alc wL aln))) aln (b1 Tryz.func43) Tryz.func43
noncomputable def qlv:=qa [(28,q8 q0V q0Y zQ),(36,q8 uD uy zY),(75,q8 vo vj qE)] [(43,Tryz.f43)] [((43,7),qk qbz qaQ (qg q1c)),((43,17),qk q92 q9c (qg q08))] 0
noncomputable def yv:=qo qlv 43 Tryz.f43 true q75 q6Y
theorem q9j:zb Tryz.prog qc 43 (q8 q75 q6Y yv):=sk qlv qe q9 (alc q4h (alc ud (alc wL aln))) (alc (lk Tryz.func43 qkn) (alc (lk Tryz.func43 qj8) aln)) (b1 Tryz.func43) Tryz.func43
def q0U:FIn:=⟨[(.agg [(.imm [(.int .i64),(.int .i64),(.int .i64),(.int .i64),(.int .i64),(.int .i64),.bool]),(.imm [(.int .i64),(.int .i64),(.int .i64)]),(.int .i64)])],[]⟩
def q0R:List FOut:=[⟨(.tuple [.bool,(.agg [(.int .i64),(.int .i64),(.int .i64)]),(.int .i64)]),[],none⟩]
noncomputable def qeq:=qa [(23,q8 q6E q6A uV),(36,q8 uD uy zY)] [(46,Tryz.f46)] [] 0
noncomputable def zP:=qo qeq 46 Tryz.f46 true q0U q0R
theorem q4i:zb Tryz.prog qc 46 (q8 q0U q0R zP):=sk qeq qe q9 (alc qco (alc ud aln)) aln (b1 Tryz.func46) Tryz.func46
def q27:FIn:=⟨[(.agg [(.imm [(.int .i64),(.int .i64),(.int .i64),(.int .i64),(.int .i64),(.int .i64),.bool]),(.imm [(.int .i64),(.int .i64),(.int .i64)]),(.int .i64)])],[]⟩
def q2c:List FOut:=[⟨(.tuple [(.imm [(.int .i64)]),(.int .i64)]),[],none⟩]
noncomputable def q6N:=qa [(17,q8 q1T q2k jf),(36,q8 uD uy zY)] [(48,Tryz.f48)] [] 0
noncomputable def jd:=qo q6N 48 Tryz.f48 true q27 q2c
theorem qcn:zb Tryz.prog qc 48 (q8 q27 q2c jd):=sk q6N qe q9 (alc qbD (alc ud aln)) aln (b1 Tryz.func48) Tryz.func48
def jp:FIn:=⟨[(.ptr 0 0),(.int .i64)],[.cells [(.imm [.str,.str,.str]),(.int .i64)]]⟩
def jc:List FOut:=[⟨.bool,[.cells [(.imm [.str,.str,.str]),(.int .i64)]],none⟩]
noncomputable def q7f:=qa [(23,q8 q6E q6A uV),(81,q8 q4X q5d yM)] [(89,Tryz.f89)] [] 1
noncomputable def zo:=qo q7f 89 Tryz.f89 true jp jc
theorem kF:zb Tryz.prog qc 89 (q8 jp jc zo):=sk q7f qe q9 (alc qco (alc qay aln)) aln (b1 Tryz.func89) Tryz.func89
def qdn:FIn:=⟨[(.int .i64),(.int .i64),(.fn 89 [(.ptr 0 0)] [])],[.cells [(.imm [.str,.str,.str]),(.int .i64)]]⟩
def qcW:List FOut:=[⟨(.int .i64),[.cells [(.imm [.str,.str,.str]),(.int .i64)]],none⟩]
def q9p:Tmpl:={ t:=((.int .i64)::(.int .i64)::(.fn 89 [(.ptr 0 0)] [])::qz 19 []),h:=[.cells [(.imm [.str,.str,.str]),(.int .i64)]] }
def q9m:List Out:=[⟨(.exit 0),{ t:=((.int .i64)::qz 21 []),h:=[.cells [(.imm [.str,.str,.str]),(.int .i64)]] }⟩]
noncomputable def q5z:=qa [(89,q8 jp jc zo)] [(90,Tryz.f90)] [] 1
noncomputable def q22:=vd q5z 90 Tryz.f90 2 q9p q9m
theorem qjo:qp Tryz.prog qc q5z.nimp (qy Tryz.prog q5z.iter 90) (zu Tryz.f90 2) (qk q9p q9m (qg q22)):=
 gk q5z qe q9 (alc kF aln) aln (b1 Tryz.func90) Tryz.func90
noncomputable def qip:=qa [(89,q8 jp jc zo)] [(90,Tryz.f90)] [((90,2),qk q9p q9m (qg q22))] 1
noncomputable def q5F:=qo qip 90 Tryz.f90 true qdn qcW
theorem qma:zb Tryz.prog qc 90 (q8 qdn qcW q5F):=sk qip qe q9 (alc kF aln) (alc (lk Tryz.func90 qjo) aln) (b1 Tryz.func90) Tryz.func90
def qbu:FIn:=⟨[(.agg [(.imm [(.int .i64),(.int .i64),(.int .i64),(.int .i64),(.int .i64),(.int .i64),.bool]),(.imm [(.int .i64),(.int .i64),(.int .i64)]),(.int .i64)])],[]⟩
def qaV:List FOut:=[⟨(.tuple [(.int .i64),(.int .i64)]),[],none⟩]
noncomputable def qgX:=qa [(39,q8 q8v q8F q0z),(80,q8 kw kq we),(89,q8 jp jc zo),(90,q8 qdn qcW q5F)] [(51,Tryz.f51)] [] 0
noncomputable def yn:=qo qgX 51 Tryz.f51 true qbu qaV
theorem qkZ:zb Tryz.prog qc 51 (q8 qbu qaV yn):=sk qgX qe q9 (alc qe0 (alc q5u (alc kF (alc qma aln)))) aln (b1 Tryz.func51) Tryz.func51
def qi3:FIn:=⟨[(.int .i64),(.int .i64),(.int .i64)],[]⟩
def qhE:List FOut:=[⟨(.agg [(.imm [(.int .i64),(.int .i64),(.int .i64),(.int .i64),(.int .i64),(.int .i64),.bool]),(.imm [(.int .i64),(.int .i64),(.int .i64)]),(.int .i64)]),[],none⟩]
noncomputable def qmR:=qa [] [(79,Tryz.f79)] [] 0
noncomputable def q4p:=qo qmR 79 Tryz.f79 true qi3 qhE
theorem qq9:zb Tryz.prog qc 79 (q8 qi3 qhE q4p):=sk qmR qe q9 aln aln (b1 Tryz.func79) Tryz.func79
def q7T:FIn:=⟨[],[]⟩
def q8b:List FOut:=[⟨.bool,[],none⟩]
noncomputable def qiu:=qa [(36,q8 uD uy zY),(43,q8 q75 q6Y yv),(46,q8 q0U q0R zP),(48,q8 q27 q2c jd),(50,q8 q1r q1l vM),(51,q8 qbu qaV yn),(79,q8 qi3 qhE q4p)] [(35,Tryz.f35)] [] 0
noncomputable def zV:=qo qiu 35 Tryz.f35 true q7T q8b
theorem qe8:zb Tryz.prog qc 35 (q8 q7T q8b zV):=sk qiu qe q9 (alc ud (alc q9j (alc q4i (alc qcn (alc qbm (alc qkZ (alc qq9 aln))))))) aln (b1 Tryz.func35) Tryz.func35
def qko:FIn:=⟨[(.int .i64)],[]⟩
def qkq:List FOut:=[⟨.bool,[],none⟩]
noncomputable def qqK:=qa [] [(211,Tryz.f211)] [] 0
noncomputable def q4z:=qo qqK 211 Tryz.f211 true qko qkq
theorem qrn:zb Tryz.prog qc 211 (q8 qko qkq q4z):=sk qqK qe q9 aln aln (b1 Tryz.func211) Tryz.func211
def q7Y:FIn:=⟨[(.agg [(.int .i64),(.int .i64)])],[]⟩
def q81:List FOut:=[⟨.bool,[],none⟩]
noncomputable def qkc:=qa [(211,q8 qko qkq q4z)] [(174,Tryz.f174)] [] 0
noncomputable def yg:=qo qkc 174 Tryz.f174 true q7Y q81
theorem qe1:zb Tryz.prog qc 174 (q8 q7Y q81 yg):=sk qkc qe q9 (alc qrn aln) aln (b1 Tryz.func174) Tryz.func174
def qar:FIn:=⟨[(.int .i64)],[]⟩
def qam:List FOut:=[⟨.bool,[],none⟩]
noncomputable def qlO:=qa [] [(175,Tryz.f175)] [] 0
noncomputable def jk:=qo qlO 175 Tryz.f175 true qar qam
theorem qfQ:zb Tryz.prog qc 175 (q8 qar qam jk):=sk qlO qe q9 aln aln (b1 Tryz.func175) Tryz.func175
def q4Q:FIn:=⟨[(.agg [(.int .i64),(.int .i64),(.int .i64),(.int .i64),(.int .i64),(.int .i64),.bool])],[]⟩
def q5t:List FOut:=[⟨(.int .i64),[],none⟩]
noncomputable def qjX:=qa [(174,q8 q7Y q81 yg),(175,q8 qar qam jk)] [(131,Tryz.f131)] [] 0
noncomputable def q0I:=qo qjX 131 Tryz.f131 true q4Q q5t
theorem q7k:zb Tryz.prog qc 131 (q8 q4Q q5t q0I):=sk qjX qe q9 (alc qe1 (alc qfQ aln)) aln (b1 Tryz.func131) Tryz.func131
def q6K:FIn:=⟨[(.agg [(.int .i64),(.int .i64),(.int .i64)])],[]⟩
def q7h:List FOut:=[⟨(.int .i64),[],none⟩]
noncomputable def qlt:=qa [(174,q8 q7Y q81 yg),(175,q8 qar qam jk)] [(132,Tryz.f132)] [] 0
noncomputable def q21:=qo qlt 132 Tryz.f132 true q6K q7h
theorem q9u:zb Tryz.prog qc 132 (q8 q6K q7h q21):=sk qlt qe q9 (alc qe1 (alc qfQ aln)) aln (b1 Tryz.func132) Tryz.func132
def q1E:FIn:=⟨[(.imm [(.int .i64),(.int .i64),(.int .i64),(.int .i64),(.int .i64),(.int .i64),.bool]),(.imm [(.int .i64),(.int .i64),(.int .i64)])],[]⟩
def q1D:List FOut:=[⟨(.int .i64),[],none⟩]
def q3h:Tmpl:={ t:=((.imm [(.int .i64),(.int .i64),(.int .i64),(.int .i64),(.int .i64),(.int .i64),.bool])::(.imm [(.int .i64),(.int .i64),(.int .i64)])::.any::.any::.any::(.int .i64)::qz 39 []),h:=[] }
def q3c:List Out:=[⟨(.exit 0),{ t:=((.imm [(.int .i64),(.int .i64),(.int .i64),(.int .i64),(.int .i64),(.int .i64),.bool])::(.imm [(.int .i64),(.int .i64),(.int .i64)])::qz 43 []),h:=[] }⟩,⟨.ret,{ t:=(qz 4 ((.int .i64)::qz 40 [])),h:=[] }⟩]
noncomputable def kv:=qa [(131,q8 q4Q q5t q0I),(132,q8 q6K q7h q21)] [(84,Tryz.f84)] [] 0
noncomputable def jU:=vd kv 84 Tryz.f84 6 q3h q3c
theorem qdq:qp Tryz.prog qc kv.nimp (qy Tryz.prog kv.iter 84) (zu Tryz.f84 6) (qk q3h q3c (qg jU)):=
 gk kv qe q9 (alc q7k (alc q9u aln)) aln (b1 Tryz.func84) Tryz.func84
def q2g:Tmpl:={ t:=(.any::(.imm [(.int .i64),(.int .i64),(.int .i64)])::qz 5 ((.int .i64)::qz 37 [])),h:=[] }
def q2h:List Out:=[⟨(.exit 2),{ t:=(qz 45 []),h:=[] }⟩,⟨.ret,{ t:=(qz 4 ((.int .i64)::qz 40 [])),h:=[] }⟩]
noncomputable def ut:=qa [(131,q8 q4Q q5t q0I),(132,q8 q6K q7h q21)] [(84,Tryz.f84)] [] 0
noncomputable def jm:=vd ut 84 Tryz.f84 18 q2g q2h
theorem qbG:qp Tryz.prog qc ut.nimp (qy Tryz.prog ut.iter 84) (zu Tryz.f84 18) (qk q2g q2h (qg jm)):=
 gk ut qe q9 (alc q7k (alc q9u aln)) aln (b1 Tryz.func84) Tryz.func84
noncomputable def qa5:=qa [(131,q8 q4Q q5t q0I),(132,q8 q6K q7h q21)] [(84,Tryz.f84)] [((84,6),qk q3h q3c (qg jU)),((84,18),qk q2g q2h (qg jm))] 0
noncomputable def jx:=qo qa5 84 Tryz.f84 true q1E q1D
theorem q6S:zb Tryz.prog qc 84 (q8 q1E q1D jx):=sk qa5 qe q9 (alc q7k (alc q9u aln)) (alc (lk Tryz.func84 qdq) (alc (lk Tryz.func84 qbG) aln)) (b1 Tryz.func84) Tryz.func84
def q6t:FIn:=⟨[(.agg [(.int .i64),(.int .i64),(.int .i64),(.int .i64),(.int .i64),(.int .i64),.bool]),(.int .i64)],[]⟩
def q6x:List FOut:=[⟨.bool,[],none⟩]
noncomputable def qhl:=qa [] [(85,Tryz.f85)] [] 0
noncomputable def q1f:=qo qhl 85 Tryz.f85 true q6t q6x
theorem qcs:zb Tryz.prog qc 85 (q8 q6t q6x q1f):=sk qhl qe q9 aln aln (b1 Tryz.func85) Tryz.func85
def q2B:FIn:=⟨[(.agg [(.imm [(.int .i64),(.int .i64),(.int .i64),(.int .i64),(.int .i64),(.int .i64),.bool]),(.imm [(.int .i64),(.int .i64),(.int .i64)]),(.int .i64)])],[]⟩
def q2y:List FOut:=[⟨(.int .i64),[],none⟩]
def q7H:Tmpl:={ t:=(.any::(.ptr 0 0)::.any::.any::(.int .i64)::qz 40 []),h:=[.cells [(.imm [(.int .i64),(.int .i64),(.int .i64),(.int .i64),(.int .i64),(.int .i64),.bool]),(.imm [(.int .i64),(.int .i64),(.int .i64)]),(.int .i64)]] }
def q7y:List Out:=[⟨(.exit 0),{ t:=(.any::(.ptr 0 0)::qz 43 []),h:=[.cells [(.imm [(.int .i64),(.int .i64),(.int .i64),(.int .i64),(.int .i64),(.int .i64),.bool]),(.imm [(.int .i64),(.int .i64),(.int .i64)]),(.int .i64)]] }⟩,⟨.ret,{ t:=(.any::.any::(.int .i64)::qz 42 []),h:=[] }⟩]
noncomputable def q3Y:=qa [(84,q8 q1E q1D jx),(85,q8 q6t q6x q1f)] [(40,Tryz.f40)] [] 0
noncomputable def q0L:=vd q3Y 40 Tryz.f40 10 q7H q7y
theorem qhy:qp Tryz.prog qc q3Y.nimp (qy Tryz.prog q3Y.iter 40) (zu Tryz.f40 10) (qk q7H q7y (qg q0L)):=
 gk q3Y qe q9 (alc q6S (alc qcs aln)) aln (b1 Tryz.func40) Tryz.func40
noncomputable def qjR:=qa [(84,q8 q1E q1D jx),(85,q8 q6t q6x q1f)] [(40,Tryz.f40)] [((40,10),qk q7H q7y (qg q0L))] 0
noncomputable def vn:=qo qjR 40 Tryz.f40 true q2B q2y
theorem qec:zb Tryz.prog qc 40 (q8 q2B q2y vn):=sk qjR qe q9 (alc q6S (alc qcs aln)) (alc (lk Tryz.func40 qhy) aln) (b1 Tryz.func40) Tryz.func40
def qlN:FIn:=⟨[(.int .i64),(.int .i64)],[]⟩
def qlM:List FOut:=[⟨.str,[],none⟩]
noncomputable def qut:=qa [(71,q8 uP uQ zz),(73,q8 q14 q15 qW)] [(170,Tryz.f170)] [] 0
noncomputable def qa7:=qo qut 170 Tryz.f170 true qlN qlM
def qbw:FIn:=⟨[(.int .i64),(.int .i64),(.int .i64)],[]⟩
def qaY:List FOut:=[⟨(.agg [.str,.str,.str]),[],none⟩]
noncomputable def qpk:=qa [(27,q8 q4M q5H j9),(170,q8 qlN qlM qa7),(171,q8 q2Z q2S qO)] [(127,Tryz.f127)] [] 0
noncomputable def q16:=qo qpk 127 Tryz.f127 true qbw qaY
def qcP:FIn:=⟨[(.agg [(.int .i64),(.int .i64),(.int .i64),(.int .i64),(.int .i64),(.int .i64),.bool]),(.int .i64)],[]⟩
def qd5:List FOut:=[⟨(.int .i64),[],none⟩]
noncomputable def qrA:=qa [] [(128,Tryz.f128)] [] 0
noncomputable def q2W:=qo qrA 128 Tryz.f128 true qcP qd5
def qnq:FIn:=⟨[(.agg [(.imm [(.int .i64),(.int .i64),(.int .i64),(.int .i64),(.int .i64),(.int .i64),.bool]),(.imm [(.int .i64),(.int .i64),(.int .i64)]),(.int .i64)])],[]⟩
def qog:List FOut:=[⟨(.imm [.str,.str,.str]),[],none⟩]
def qiT:Tmpl:={ t:=(.any::(.ptr 0 0)::.any::(.vec 1)::(.int .i64)::qz 54 []),h:=[.cells [(.imm [(.int .i64),(.int .i64),(.int .i64),(.int .i64),(.int .i64),(.int .i64),.bool]),(.imm [(.int .i64),(.int .i64),(.int .i64)]),(.int .i64)],.vec 40 [.str,.str,.str]],pro:=[(3,40,[.str,.str,.str])] }
def qkf:List Out:=[⟨(.exit 0),{ t:=(.any::(.ptr 0 0)::.any::(.vec 1)::qz 55 []),h:=[.cells [(.imm [(.int .i64),(.int .i64),(.int .i64),(.int .i64),(.int .i64),(.int .i64),.bool]),(.imm [(.int .i64),(.int .i64),(.int .i64)]),(.int .i64)],.vec 40 [.str,.str,.str]] }⟩]
noncomputable def qst:=qa [(127,q8 qbw qaY q16),(128,q8 qcP qd5 q2W)] [(82,Tryz.f82)] [] 0
noncomputable def q5G:=vd qst 82 Tryz.f82 4 qiT qkf
noncomputable def quK:=qa [(127,q8 qbw qaY q16),(128,q8 qcP qd5 q2W)] [(82,Tryz.f82)] [((82,4),qk qiT qkf (qg q5G))] 0
noncomputable def qd1:=qo quK 82 Tryz.f82 true qnq qog
def qi1:FIn:=⟨[(.agg [(.imm [(.int .i64),(.int .i64),(.int .i64),(.int .i64),(.int .i64),(.int .i64),.bool]),(.imm [(.int .i64),(.int .i64),(.int .i64)]),(.int .i64)])],[]⟩
def qhN:List FOut:=[⟨(.agg [(.imm [(.int .i64),(.int .i64),(.int .i64),(.int .i64),(.int .i64),(.int .i64),.bool]),(.imm [(.int .i64),(.int .i64),(.int .i64)]),(.int .i64)]),[],none⟩]
noncomputable def qn4:=qa [] [(38,Tryz.f38)] [] 0
noncomputable def q8T:=qo qn4 38 Tryz.f38 true qi1 qhN
theorem qpP:zb Tryz.prog qc 38 (q8 qi1 qhN q8T):=sk qn4 qe q9 aln aln (b1 Tryz.func38) Tryz.func38
def q8C:FIn:=⟨[.str],[]⟩
def q8w:List FOut:=[⟨.bool,[],none⟩]
noncomputable def qjW:=qa [(86,q8 q2P q2X zS)] [(42,Tryz.f42)] [] 0
noncomputable def q0u:=qo qjW 42 Tryz.f42 true q8C q8w
theorem qea:zb Tryz.prog qc 42 (q8 q8C q8w q0u):=sk qjW qe q9 (alc q7F aln) aln (b1 Tryz.func42) Tryz.func42
def qhq:FIn:=⟨[(.agg [(.imm [(.int .i64),(.int .i64),(.int .i64),(.int .i64),(.int .i64),(.int .i64),.bool]),(.imm [(.int .i64),(.int .i64),(.int .i64)]),(.int .i64)])],[]⟩
def qih:List FOut:=[⟨.bool,[],none⟩]
noncomputable def qn7:=qa [(34,q8 qht qhP q9q),(40,q8 q2B q2y vn)] [(45,Tryz.f45)] [] 0
noncomputable def q9w:=qo qn7 45 Tryz.f45 true qhq qih
theorem qpo:zb Tryz.prog qc 45 (q8 qhq qih q9w):=sk qn7 qe q9 (alc qpV (alc qec aln)) aln (b1 Tryz.func45) Tryz.func45
def qlT:FIn:=⟨[(.agg [(.imm [(.int .i64),(.int .i64),(.int .i64),(.int .i64),(.int .i64),(.int .i64),.bool]),(.imm [(.int .i64),(.int .i64),(.int .i64)]),(.int .i64)]),(.int .i64)],[]⟩
def qlQ:List FOut:=[⟨(.agg [(.imm [(.int .i64),(.int .i64),(.int .i64),(.int .i64),(.int .i64),(.int .i64),.bool]),(.imm [(.int .i64),(.int .i64),(.int .i64)]),(.int .i64)]),[],none⟩]
noncomputable def qts:=qa [] [(136,Tryz.f136)] [] 0
noncomputable def qfb:=qo qts 136 Tryz.f136 true qlT qlQ
def q7o:FIn:=⟨[(.agg [(.imm [(.int .i64),(.int .i64),(.int .i64),(.int .i64),(.int .i64),(.int .i64),.bool]),(.imm [(.int .i64),(.int .i64),(.int .i64)]),(.int .i64)]),(.int .i64)],[]⟩
def q7z:List FOut:=[⟨.bool,[],none⟩]
noncomputable def qmf:=qa [(82,q8 qnq qog qd1),(88,q8 qiF qjV q8d),(136,q8 qlT qlQ qfb)] [(91,Tryz.f91)] [] 0
noncomputable def u6:=qo qmf 91 Tryz.f91 true q7o q7z
def qpd:FIn:=⟨[(.agg [(.imm [(.int .i64),(.int .i64),(.int .i64),(.int .i64),(.int .i64),(.int .i64),.bool]),(.imm [(.int .i64),(.int .i64),(.int .i64)]),(.int .i64)])],[]⟩
def qpL:List FOut:=[⟨(.tuple [(.int .i64),(.int .i64)]),[],none⟩]
def qbJ:Tmpl:={ t:=(.any::(.ptr 0 0)::.any::.any::.any::(.int .i64)::(.int .i64)::qz 29 []),h:=[.cells [(.imm [(.int .i64),(.int .i64),(.int .i64),(.int .i64),(.int .i64),(.int .i64),.bool]),(.imm [(.int .i64),(.int .i64),(.int .i64)]),(.int .i64)]] }
def qbU:List Out:=[⟨(.exit 0),{ t:=(qz 5 ((.int .i64)::qz 30 [])),h:=[] }⟩]
noncomputable def ql3:=qa [(40,q8 q2B q2y vn),(91,q8 q7o q7z u6)] [(52,Tryz.f52)] [] 0
noncomputable def kZ:=vd ql3 52 Tryz.f52 10 qbJ qbU
noncomputable def qq5:=qa [(40,q8 q2B q2y vn),(91,q8 q7o q7z u6)] [(52,Tryz.f52)] [((52,10),qk qbJ qbU (qg kZ))] 0
noncomputable def q6C:=qo qq5 52 Tryz.f52 true qpd qpL
def q8i:FIn:=⟨[(.agg [(.imm [(.int .i64),(.int .i64),(.int .i64),(.int .i64),(.int .i64),(.int .i64),.bool]),(.imm [(.int .i64),(.int .i64),(.int .i64)]),(.int .i64)])],[]⟩
def q8r:List FOut:=[⟨.bool,[],none⟩]
noncomputable def qjm:=qa [(38,q8 qi1 qhN q8T),(40,q8 q2B q2y vn),(45,q8 qhq qih q9w)] [(53,Tryz.f53)] [] 0
noncomputable def q0B:=qo qjm 53 Tryz.f53 true q8i q8r
theorem qdX:zb Tryz.prog qc 53 (q8 q8i q8r q0B):=sk qjm qe q9 (alc qpP (alc qec (alc qpo aln))) aln (b1 Tryz.func53) Tryz.func53
def q5x:FIn:=⟨[(.agg [(.imm [(.int .i64),(.int .i64),(.int .i64),(.int .i64),(.int .i64),(.int .i64),.bool]),(.imm [(.int .i64),(.int .i64),(.int .i64)]),(.int .i64)]),(.agg [(.int .i8),(.int .i8)]),(.agg [.str,.str])],[]⟩
def q5j:List FOut:=[⟨.bool,[],none⟩]
def q3k:Tmpl:={ t:=(.any::.any::.any::(.ptr 0 0)::(.ptr 1 0)::(.ptr 2 0)::.any::(.ptr 3 0)::qz 45 ((.imm [(.int .i64),(.int .i64),(.int .i64)])::(.int .i64)::(.int .i64)::qz 99 [])),h:=[.cells [(.imm [(.int .i64),(.int .i64),(.int .i64),(.int .i64),(.int .i64),(.int .i64),.bool]),(.imm [(.int .i64),(.int .i64),(.int .i64)]),(.int .i64)],.cells [(.int .i8),(.int .i8)],.cells [.str,.str],.cells [(.imm [(.int .i64),(.int .i64),(.int .i64),(.int .i64),(.int .i64),(.int .i64),.bool]),(.vec 4),(.int .i64)],.vec 89 [(.int .i64),(.int .i64),(.int .i64)]],prc:=[(7,1,89,[(.int .i64),(.int .i64),(.int .i64)])] }
def q3m:List Out:=[⟨(.exit 0),{ t:=(.any::.any::.any::(.ptr 0 0)::(.ptr 1 0)::(.ptr 2 0)::.any::(.ptr 3 0)::qz 147 []),h:=[.cells [(.imm [(.int .i64),(.int .i64),(.int .i64),(.int .i64),(.int .i64),(.int .i64),.bool]),(.imm [(.int .i64),(.int .i64),(.int .i64)]),(.int .i64)],.cells [(.int .i8),(.int .i8)],.cells [.str,.str],.cells [(.imm [(.int .i64),(.int .i64),(.int .i64),(.int .i64),(.int .i64),(.int .i64),.bool]),(.vec 4),(.int .i64)],.vec 89 [(.int .i64),(.int .i64),(.int .i64)]] }⟩]
noncomputable def ku:=qa [(27,q8 q4M q5H j9),(35,q8 q7T q8b zV),(42,q8 q8C q8w q0u),(43,q8 q75 q6Y yv),(46,q8 q0U q0R zP),(53,q8 q8i q8r q0B),(54,q8 q82 q8G q0E),(55,q8 uv ui qY)] [(10,Tryz.f10)] [] 0
noncomputable def vA:=vd ku 10 Tryz.f10 9 q3k q3m
theorem qcI:qp Tryz.prog qc ku.nimp (qy Tryz.prog ku.iter 10) (zu Tryz.f10 9) (qk q3k q3m (qg vA)):=
 gk ku qe q9 (alc qe7 (alc qe8 (alc qea (alc q9j (alc q4i (alc qdX (alc qe5 (alc qep aln)))))))) aln (b1 Tryz.func10) Tryz.func10
noncomputable def zm:=qa [(27,q8 q4M q5H j9),(35,q8 q7T q8b zV),(42,q8 q8C q8w q0u),(43,q8 q75 q6Y yv),(46,q8 q0U q0R zP),(53,q8 q8i q8r q0B),(54,q8 q82 q8G q0E),(55,q8 uv ui qY)] [(10,Tryz.f10)] [((10,9),qk q3k q3m (qg vA))] 0
noncomputable def ur:=qo zm 10 Tryz.f10 true q5x q5j
theorem qfw:zb Tryz.prog qc 10 (q8 q5x q5j ur):=sk zm qe q9 (alc qe7 (alc qe8 (alc qea (alc q9j (alc q4i (alc qdX (alc qe5 (alc qep aln)))))))) (alc (lk Tryz.func10 qcI) aln) (b1 Tryz.func10) Tryz.func10
end Go.Eng

