/- Texts of the proof, merged: what the code computes, and plain laws. No statement stands here. -/
import Derived.Shelf.Strings.SlTrimAscii
import Derived.Shelf.Strings.Search2
import Derived.Shelf.Small.Strs
import Derived.Shelf.Strconv.Itoa3
import Derived.Shelf.Strconv.Atoi
import Derived.Shelf.Strings.BuilderK
import Derived.Shelf.LaysM
import Derived.Test.YtehgceikghodkaaGreatDoorProg
import Derived.WalkKit
import Derived.BigCall
import Derived.Deep.RegionWith
import Derived.Laws.Externs
import Derived.Lib.Builder
import Derived.Lib.AppendStr
import Derived.KernelRfl
import Derived.Test.YtehgceikghodkaaGreatDoorM2
namespace Go.Eng
open Go.Shelf Go.RowKit Go.Proofs Go.Sort
theorem qka(w:World)(q:Nat)(os:Array Obj):Below w.heap.size w (grow (w.drewN q) os):=
 ⟨rfl,rfl,rfl,by simp[grow],fun i hi=>by
  show ((w.drewN q).heap++os)[i]?=_
  rw[Array.getElem?_append_left (by show i<w.heap.size;omega)]
  rfl⟩
theorem qq1(w:World)(e:TypeId)(s:ByteArray):Below w.heap.size w (Lib.bytesWorld w e s):=
 ⟨rfl,rfl,rfl,by rw[Lib.bytesWorld_size];omega,fun k hk=>Lib.bytesWorld_at_old w e s k (by omega)⟩
theorem HSim.grow{B:Base}{X:Ctx}(hs:HSim B X){w':World}(hb:Below X.w.heap.size X.w w'):HSim B { X with w:=w' }∧Ext X { X with w:=w' }:=by
 have hold:∀n (o:Obj),X.w.heap[n]?=some o→w'.heap[n]?=some o:=fun n o h=>(hb.block n (Array.getElem?_eq_some_iff.1 h).1).trans h
 have hx:Ext X { X with w:=w' }:=Move.of (fun _ h=>h) (fun a ha=>World.cell?_of_block (hb.block _ (hs.ltM _ ha))) (fun b b' hb' h=>by
  cases h
  exact⟨hb',rfl,fun _ _ h=>h,fun _ _ _ n _ c T fr h=>⟨c,T,fr,hold n _ h,rfl⟩⟩)
 refine⟨⟨fun b k hk=>?_,hs.inj,hs.notM,fun n hn=>Nat.lt_of_lt_of_le (hs.ltM n hn) hb.size,hs.M0,hs.newM,hb.os.trans hs.os,hb.tape.trans hs.tape,hb.output.trans hs.output,Nat.le_trans hs.size hb.size,
  fun n hn hni=>?_,hs.imps,hs.impc,hs.fresh,fun p hp=>?_⟩,hx⟩
 ·by_cases hd:k=.dead
  ·subst hd;trivial
  ·exact u7.ext hx rfl (fun n hn=>hb.block n (hs.lt hk hd hn)) (hs.blk b k hk)
 ·show w'.heap[n]?=_
  rw[hb.block n (Nat.lt_of_lt_of_le hn hs.size)]
  exact hs.frame n hn hni
 ·obtain⟨q1,q2,q3⟩:=hs.kept p hp
  exact⟨hold _ _ q1,q2,q3⟩
theorem qeO{P:Program}{gl:List (Nat×AV)}{f:FuncId}{i:FIn}{o:FOut}{T:List PV→TR}(he:qiO P f)(hi:i.h.all BP.isCells=true)
  (h:∀(B:Base) (X:Ctx) (ps:List PV) (j:Nat) (qs:List PV) (vargs:List Value),HSim B X→qa6 gl X→X.h=(i.make ps).2→RepL X (i.make ps).1 vargs→ps.map PV.kind=i.kinds→(T ps).run=some (j,qs) →
   j=0∧qs.map PV.kind=o.kinds∧(o.make qs).2=(i.make ps).2∧Calls P f vargs.toArray X.w fun e w'=>∃v,e=.returned v∧Below X.w.heap.size X.w w'∧Rep X (o.make qs).1 v) :
  wg P gl f (qc i [o] T):=by
 refine⟨he,fun B X args vargs r hs hen hgl ha hr=>?_⟩
 obtain⟨ps,j,qs,h1,h2,h3⟩:=qq8 hr
 unfold FIn.take at h1
 obtain⟨x,y,g1,g2,rfl⟩:=q3E h1
 obtain⟨a1,a2,a3⟩:=AP.takeL_ok (X:=X) _ _ x y g1
 obtain⟨b1,b2,b3,b4,b5⟩:=BP.takeL_ok (X:=X) _ _ y [] g2
 rw[List.append_nil] at b3 b5
 have himp:B.imps.length=X.h.length:=by rw[hen.imps];simp
 obtain⟨d1,d2⟩:=qbc hs (h':=(BP.makeL i.h y).1) b3 (fun b k' hb=>by obtain⟨k0,e1,e2,_⟩:=b5 b k' hb;exact⟨k0,e1,e2⟩)
  (fun b hb k' hk'=>by
   obtain⟨k0,_,_,e3⟩:=b5 b k' hk'
   have hlt:b<i.h.length:=by omega
   exact e3 i.h[b] (List.getElem?_eq_getElem hlt) (List.all_eq_true.1 hi _ (List.getElem_mem hlt)))
 have hkd:(x++y).map PV.kind=i.kinds:=by simp[FIn.kinds,a2,b2]
 have hgl1:qa6 gl ({ X with h:=(BP.makeL i.h y).1 }:Ctx):=fun z hz=>⟨(hgl z hz).1,(hgl z hz).2.move d2.M d2.w ((hgl z hz).2.1.ext d2)⟩
 have hmk:i.make (x++y)=((AP.makeL i.args (x++y)).1,(BP.makeL i.h y).1):=by simp only[FIn.make,a1]
 obtain⟨k1,k2,k3,k4⟩:=h B _ (x++y) j qs vargs d1 hgl1 (by rw[hmk]) (by rw[hmk];exact(a3 _ ha).ext d2) hkd h2
 subst k1
 refine k4.mono fun e w' ⟨v,e1,e2,e3⟩=>?_
 obtain⟨m1,m2⟩:=d1.grow e2
 have hre:=qpL h2 [o] 0 o r (Nat.zero_le _) rfl k2 h3
 subst hre
 exact⟨v,_,e1,rfl,e3.ext m2,by rw[k3,hmk],m1,rfl⟩
theorem qts{X:Ctx}{s:List UInt8}{vs:List Value}(h:RepL X [.str s] vs):vs=[.string ⟨s.toArray⟩]:=by
 cases h with
 | cons h t=>cases h;cases t;rfl
theorem qtj{X:Ctx}{k:IntKind}{n:Int}{vs:List Value}(h:RepL X [.int k n] vs):vs=[.int k n]:=by
 cases h with
 | cons h t=>cases h;cases t;rfl
theorem qlZ{X:Ctx}{s t:List UInt8}{vs:List Value}(h:RepL X [.str s,.str t] vs):vs=[.string ⟨s.toArray⟩,.string ⟨t.toArray⟩]:=by
 cases h with
 | cons h t=>cases h;rw[qts t]
theorem qz5{ps:List PV}(h:ps.map PV.kind=[.s]):∃s,ps=[.s s]:=by
 match ps,h with
 | [.s s],_=>exact⟨s,rfl⟩
theorem qzl{ps:List PV}(h:ps.map PV.kind=[.i]):∃s,ps=[.i s]:=by
 match ps,h with
 | [.i s],_=>exact⟨s,rfl⟩
theorem qpU{ps:List PV}(h:ps.map PV.kind=[.s,.s]):∃s t,ps=[.s s,.s t]:=by
 match ps,h with
 | [.s s,.s t],_=>exact⟨s,t,rfl⟩
def qqh:List PV→TR
 | [.s s,.s [c]]=>.leaf (0,[.i (Lib.indexByte s c)])
 | _=>.fail
theorem qrD{P:Program}{ρ:Ren}(L:Lays.n219 P ρ)(he:qiO P (ρ.f 219)){gl:List (Nat×AV)} :
  wg P gl (ρ.f 219) (qc { args:=[.str,.str],h:=[] } [{ res:=.int .i64,h:=[] }] qqh):=
 qeO he rfl fun B X ps j qs vargs hs hg hh ha hk hT=>by
  obtain⟨s,t,rfl⟩:=qpU hk
  unfold qqh at hT
  split at hT
  ·rename_i s' c hps
   simp only[List.cons.injEq,PV.s.injEq,and_true] at hps
   obtain⟨rfl,rfl⟩:=hps
   cases hT
   have:=qlZ ha
   subst this
   refine⟨rfl,rfl,rfl,(Any.stringslite_Index_one L ⟨s.toArray⟩ c X.w).mono fun e w' ⟨h1,h2⟩=>?_⟩
   subst h2
   exact⟨_,h1,Below.refl _ _,.int _ _⟩
  ·cases hT
def qkW:List PV→TR
 | [.s s,.s t]=>.leaf (0,[.i (Lib.compareBytes s t)])
 | _=>.fail
theorem qoB{P:Program}{ρ:Ren}(L:Lays.n106 P ρ)(he:qiO P (ρ.f 106)){gl:List (Nat×AV)} :
  wg P gl (ρ.f 106) (qc { args:=[.str,.str],h:=[] } [{ res:=.int .i64,h:=[] }] qkW):=
 qeO he rfl fun B X ps j qs vargs hs hg hh ha hk hT=>by
  obtain⟨s,t,rfl⟩:=qpU hk
  cases hT
  have:=qlZ ha
  subst this
  refine⟨rfl,rfl,rfl,(Any.strings_Compare L ⟨s.toArray⟩ ⟨t.toArray⟩ X.w).mono fun e w' ⟨h1,h2⟩=>?_⟩
  subst h2
  exact⟨_,h1,Below.refl _ _,.int _ _⟩
def qv5:List PV→TR
 | [.s s,.s t]=>if s.length≤9223372036854775807∧t.length<4294967281∧t.all (fun b=>decide (b.toNat<128))=true then .leaf (0,[.s (Lib.trimS s t)]) else .fail
 | _=>.fail
theorem quK{P:Program}{ρ:Ren}(L:Lays.n160 P ρ)(he:qiO P (ρ.f 160))(h116:(P.info? (ρ.t 116)).map (fun i=>(i.zero,i.size))=some (some (.agg (Array.replicate 256 (.bool false))),256)){gl:List (Nat×AV)} :
  wg P gl (ρ.f 160) (qc { args:=[.str,.str],h:=[] } [{ res:=.str,h:=[] }] qv5):=
 qeO he rfl fun B X ps j qs vargs hs hg hh ha hk hT=>by
  obtain⟨s,t,rfl⟩:=qpU hk
  simp only[qv5] at hT
  split at hT
  ·rename_i hc
   cases hT
   have:=qlZ ha
   subst this
   refine⟨rfl,rfl,rfl,(Any.strings_Trim_laid L h116 ⟨s.toArray⟩ ⟨t.toArray⟩ X.w (by simpa[ByteArray.size] using hc.1) (by simpa[ByteArray.size] using hc.2.1) (fun j b hj=>?_)).mono fun e w' ⟨h1,h2⟩=>⟨_,h1,h2,.str _⟩⟩
   have h3:=hc.2.2
   rw[List.all_eq_true] at h3
   simpa using h3 b (List.mem_of_getElem? hj)
  ·cases hT
def qye:R:=[Lib.pow10Tab.map U.i]
def qwg:List PV→TR
 | [.i n]=>if -9223372036854775808≤n∧n≤9223372036854775807 then .leaf (0,[.s (Lib.itoa n)]) else .fail
 | _=>.fail
theorem qmM{P:Program}{X:Ctx}{g:Nat}{k:IntKind}{zs:List Int}{name:String}(hn:P.globalNamed name=some g)(hz:zs≠[])
  (h:qxA X (g,.eptr (zs.map fun _=>.int k) [zs.map U.i] 0 0)):Lib.TabIs P X.w name k zs:=by
 obtain⟨h1,h2,h3⟩:=h
 simp only at h1 h2 h3
 have hcell:∀j (hj:j<zs.length),X.w.cell? ⟨g,j,none⟩=some (.int k zs[j]):=by
  intro j hj
  generalize hv:(Value.pointer (some ⟨g,0,none⟩))=vv at h1
  cases h1 with
  | eptr _ _ _ _ a hsp h0 hl hr=>
   simp only[Value.pointer.injEq,Option.some.injEq,Addr.mk.injEq] at hv
   obtain⟨v1,v2,_⟩:=hv
   obtain⟨hM,v,e1,e2⟩:=hr 0 j (by simpa using hj) (by simp)
   have ho:a.off=0:=by omega
   have e1':X.w.cell? ⟨g,j,none⟩=some v:=by
    rw[Nat.zero_mul,Nat.add_zero,ho,Nat.zero_add,←v1] at e1
    exact e1
   rw[e1']
   have e2':RepU X.w X.M (.int k) (U.i zs[j]) v:=by
    simpa[jj,List.getD_eq_getElem?_getD,hj] using e2
   cases e2'
   rfl
 unfold Lib.TabIs World.var?
 rw[hn]
 simp only[Option.bind_some]
 have h0:=hcell 0 (List.length_pos_iff.2 hz)
 unfold World.cell? at h0
 simp only at h0
 split at h0
 ·rename_i cs T fr hheap
  rw[hheap]
  simp only
  congr 1
  have hsz:cs.size≤zs.length:=by
   have h4:X.w.cell? ⟨g,zs.length,none⟩=none:=by
    simpa[AV.span] using h3
   unfold World.cell? at h4
   simp only[hheap] at h4
   simpa using h4
  apply Array.ext
  ·simp
   rcases Nat.lt_or_ge cs.size zs.length with hlt|hge
   ·have:=hcell cs.size hlt
    unfold World.cell? at this
    simp[hheap] at this
   ·omega
  ·intro j hj hj2
   have hjz:j<zs.length:=by omega
   have:=hcell j hjz
   unfold World.cell? at this
   simp only[hheap] at this
   simp[hj] at this
   simp[this]
 ·cases h0
theorem qus {P:Program} {ρ:Ren} (L:LaysM.n171 P ρ) (he:qiO P (ρ.f 171)) {gl:List (Nat×AV)} {g:Nat} (hn:P.globalNamed "internal/strconv.uint64pow10" = some g)
  (hg:(g,AV.eptr (Lib.pow10Tab.map fun _=>.int .u64) qye 0 0)∈gl) :
  wg P gl (ρ.f 171) (qc { args:=[.int .i64],h:=[] } [{ res:=.str,h:=[] }] qwg):=
 qeO he rfl fun B X ps j qs vargs hs hgl hh ha hk hT=>by
  obtain⟨n,rfl⟩:=qzl hk
  simp only[qwg] at hT
  split at hT
  ·rename_i hc
   cases hT
   have:=qtj ha
   subst this
   refine⟨rfl,rfl,rfl,(Any.strconv_Itoa L n hc.1 hc.2 X.w (qmM hn (by decide) (hgl _ hg).2)).mono fun e w' ⟨h1,k,os,h2⟩=>⟨_,h1,?_,.str _⟩⟩
   subst h2
   exact qka _ _ _
  ·cases hT
def qwO:List PV→TR
 | [.s s]=>if s.length≤18 then (match Lib.atoi s with|some n=>.leaf (0,[.i n])|none=>.fail) else .fail
 | _=>.fail
theorem qu3{P:Program}{ρ:Ren}(L:Lays.n172 P ρ)(he:qiO P (ρ.f 172)){gl:List (Nat×AV)} :
  wg P gl (ρ.f 172) (qc { args:=[.str],h:=[] } [{ res:=.tuple [.int .i64,.any],h:=[] }] qwO):=
 qeO he rfl fun B X ps j qs vargs hs hg hh ha hk hT=>by
  obtain⟨s,rfl⟩:=qz5 hk
  simp only[qwO] at hT
  split at hT
  ·rename_i hc
   split at hT
   ·rename_i n hn
    cases hT
    have:=qts ha
    subst this
    refine⟨rfl,rfl,rfl,(Any.strconv_Atoi L ⟨s.toArray⟩ n (by simpa[ByteArray.size] using hc) (by simpa using hn) X.w).mono fun e w' ⟨h1,t,h2⟩=>⟨_,h1,?_,.tuple _ _ (.cons (.int _ _) (.cons (.undef _) .nil))⟩⟩
    subst h2
    exact qq1 _ _ _
   ·cases hT
  ·cases hT
def qwZ(s:List UInt8):List UInt8:=q6K (q5W [48,48,48,48,48,48,48,48,48] (qw s) 9) s
def qh8(w:R):Nat→List UInt8
 | 0=>[]
 | i+1=>qwZ (Lib.itoa (cI w i 0))++qh8 w i
def qwr(b:Bool)(n:Int)(w:R):List UInt8:=if n=0 then [48] else (if b then [45] else [])++Lib.itoa (cI w (n-1) 0)++qh8 w (n-1).toNat
def qoC(n:Int)(w:R):Bool:=decide (0≤n)&&decide (n≤232)&&(List.range n.toNat).all fun i=>decide (0≤cI w i 0∧cI w i 0<1000000000)
def qvt:List PV→TR
 | [.b b,.i n,.r w]=>if qoC n w then .leaf (0,[.s (qwr b n w),.b b,.i n,.r w]) else .fail
 | _=>.fail
end Go.Eng

namespace Go.Proofs
open Go.Shelf
def Tryz.lays219_ren:Go.Shelf.Ren:=⟨fun|219=>217|217=>237|225=>238|224=>239|267=>240|266=>262|314=>263|n=>n,fun|9=>9|3=>3|4=>4|5=>5|46=>272|146=>289|51=>288|n=>n,fun|1=>1|n=>n⟩
theorem Tryz.lays219:Go.Proofs.Lays.n219 Tryz.prog Tryz.lays219_ren:={
 mixed:=by kernel_rfl
 f217:=Tryz.func237.trans (congrArg some (by kernel_rfl))
 f219:=Tryz.func217.trans (congrArg some (by kernel_rfl))
 f224:=Tryz.func239.trans (congrArg some (by kernel_rfl))
 f225:=Tryz.func238.trans (congrArg some (by kernel_rfl))
 f266:=Tryz.func262.trans (congrArg some (by kernel_rfl))
 f267:=Tryz.func240.trans (congrArg some (by kernel_rfl))
 f314:=Tryz.func263.trans (congrArg some (by kernel_rfl))
 t3:=Tryz.underlying3
 a3:=Tryz.isAgg3
 z3:=Tryz.sizeOf3
 v3:=Tryz.zeroValue3
 t4:=Tryz.underlying4
 a4:=Tryz.isAgg4
 z4:=Tryz.sizeOf4
 v4:=Tryz.zeroValue4
 t5:=Tryz.underlying5
 a5:=Tryz.isAgg5
 z5:=Tryz.sizeOf5
 v5:=Tryz.zeroValue5
 t9:=Tryz.underlying9
 a9:=Tryz.isAgg9
 z9:=Tryz.sizeOf9
 v9:=Tryz.zeroValue9
 t46:=Tryz.underlying272
 a46:=Tryz.isAgg272
 z46:=Tryz.sizeOf272
 v46:=Tryz.zeroValue272
 t51:=Tryz.underlying288
 a51:=Tryz.isAgg288
 z51:=Tryz.sizeOf288
 v51:=Tryz.zeroValue288
 t146:=Tryz.underlying289
 a146:=Tryz.isAgg289
 z146:=Tryz.sizeOf289
 v146:=Tryz.zeroValue289
 g1:=by kernel_rfl }
def Tryz.lays106_ren:Go.Shelf.Ren:=⟨fun|106=>193|213=>223|265=>244|n=>n,fun|9=>9|3=>3|n=>n,fun|n=>n⟩
theorem Tryz.lays106:Go.Proofs.Lays.n106 Tryz.prog Tryz.lays106_ren:={
 mixed:=by kernel_rfl
 f106:=Tryz.func193.trans (congrArg some (by kernel_rfl))
 f213:=Tryz.func223.trans (congrArg some (by kernel_rfl))
 f265:=Tryz.func244.trans (congrArg some (by kernel_rfl))
 t3:=Tryz.underlying3
 a3:=Tryz.isAgg3
 z3:=Tryz.sizeOf3
 v3:=Tryz.zeroValue3
 t9:=Tryz.underlying9
 a9:=Tryz.isAgg9
 z9:=Tryz.sizeOf9
 v9:=Tryz.zeroValue9 }
def Tryz.lays160_ren:Go.Shelf.Ren:=⟨fun|160=>154|232=>187|231=>186|227=>188|234=>190|233=>189|236=>192|235=>191|228=>219|271=>222|151=>221|197=>220|120=>243|152=>242|260=>241|137=>264|119=>265|224=>239|225=>238|217=>237|266=>262|n=>n,fun|9=>9|4=>4|3=>3|5=>5|117=>232|116=>231|0=>0|124=>235|21=>21|105=>260|46=>272|119=>291|139=>294|138=>293|n=>n,fun|3=>2|4=>3|n=>n⟩
theorem Tryz.lays160:Go.Proofs.Lays.n160 Tryz.prog Tryz.lays160_ren:={
 mixed:=by kernel_rfl
 f119:=Tryz.func265.trans (congrArg some (by kernel_rfl))
 f120:=Tryz.func243.trans (congrArg some (by kernel_rfl))
 f137:=Tryz.func264.trans (congrArg some (by kernel_rfl))
 f151:=Tryz.func221.trans (congrArg some (by kernel_rfl))
 f152:=Tryz.func242.trans (congrArg some (by kernel_rfl))
 f160:=Tryz.func154.trans (congrArg some (by kernel_rfl))
 f197:=Tryz.func220.trans (congrArg some (by kernel_rfl))
 f217:=Tryz.func237.trans (congrArg some (by kernel_rfl))
 f224:=Tryz.func239.trans (congrArg some (by kernel_rfl))
 f225:=Tryz.func238.trans (congrArg some (by kernel_rfl))
 f227:=Tryz.func188.trans (congrArg some (by kernel_rfl))
 f228:=Tryz.func219.trans (congrArg some (by kernel_rfl))
 f231:=Tryz.func186.trans (congrArg some (by kernel_rfl))
 f232:=Tryz.func187.trans (congrArg some (by kernel_rfl))
 f233:=Tryz.func189.trans (congrArg some (by kernel_rfl))
 f234:=Tryz.func190.trans (congrArg some (by kernel_rfl))
 f235:=Tryz.func191.trans (congrArg some (by kernel_rfl))
 f236:=Tryz.func192.trans (congrArg some (by kernel_rfl))
 f260:=Tryz.func241.trans (congrArg some (by kernel_rfl))
 f266:=Tryz.func262.trans (congrArg some (by kernel_rfl))
 f271:=Tryz.func222.trans (congrArg some (by kernel_rfl))
 t0:=Tryz.underlying0
 a0:=Tryz.isAgg0
 z0:=Tryz.sizeOf0
 v0:=Tryz.zeroValue0
 t3:=Tryz.underlying3
 a3:=Tryz.isAgg3
 z3:=Tryz.sizeOf3
 v3:=Tryz.zeroValue3
 t4:=Tryz.underlying4
 a4:=Tryz.isAgg4
 z4:=Tryz.sizeOf4
 v4:=Tryz.zeroValue4
 t5:=Tryz.underlying5
 a5:=Tryz.isAgg5
 z5:=Tryz.sizeOf5
 v5:=Tryz.zeroValue5
 t9:=Tryz.underlying9
 a9:=Tryz.isAgg9
 z9:=Tryz.sizeOf9
 v9:=Tryz.zeroValue9
 t21:=Tryz.underlying21
 a21:=Tryz.isAgg21
 z21:=Tryz.sizeOf21
 v21:=Tryz.zeroValue21
 t46:=Tryz.underlying272
 a46:=Tryz.isAgg272
 z46:=Tryz.sizeOf272
 v46:=Tryz.zeroValue272
 t105:=Tryz.underlying260
 a105:=Tryz.isAgg260
 z105:=Tryz.sizeOf260
 v105:=Tryz.zeroValue260
 t116:=Tryz.underlying231
 a116:=Tryz.isAgg231
 z116:=Tryz.sizeOf231
 t117:=Tryz.underlying232
 a117:=Tryz.isAgg232
 z117:=Tryz.sizeOf232
 v117:=Tryz.zeroValue232
 t119:=Tryz.underlying291
 a119:=Tryz.isAgg291
 z119:=Tryz.sizeOf291
 t124:=Tryz.underlying235
 a124:=Tryz.isAgg235
 z124:=Tryz.sizeOf235
 v124:=Tryz.zeroValue235
 t138:=Tryz.underlying293
 a138:=Tryz.isAgg293
 z138:=Tryz.sizeOf293
 v138:=Tryz.zeroValue293
 t139:=Tryz.underlying294
 a139:=Tryz.isAgg294
 z139:=Tryz.sizeOf294
 v139:=Tryz.zeroValue294
 g3:=by kernel_rfl
 g4:=by kernel_rfl }
def Tryz.lays172_ren:Go.Shelf.Ren:=⟨fun|172=>194|244=>224|245=>225|247=>245|279=>246|280=>247|281=>248|282=>249|287=>266|316=>267|171=>196|205=>268|321=>275|322=>276|243=>226|246=>250|283=>269|284=>270|285=>271|286=>272|129=>278|317=>277|318=>279|319=>280|320=>281|337=>282|338=>283|n=>n,fun|9=>9|3=>3|75=>237|76=>238|4=>4|5=>5|167=>274|37=>162|0=>0|85=>275|2=>2|168=>277|53=>296|175=>297|46=>272|210=>300|127=>265|145=>314|143=>312|21=>21|171=>302|173=>305|212=>316|51=>288|20=>20|213=>317|232=>320|233=>321|80=>249|n=>n,fun|15=>4|16=>5|17=>6|18=>7|19=>8|n=>n⟩
theorem Tryz.lays172:Go.Proofs.Lays.n172 Tryz.prog Tryz.lays172_ren:={
 mixed:=by kernel_rfl
 f129:=Tryz.func278.trans (congrArg some (by kernel_rfl))
 f171:=Tryz.func196.trans (congrArg some (by kernel_rfl))
 f172:=Tryz.func194.trans (congrArg some (by kernel_rfl))
 f205:=Tryz.func268.trans (congrArg some (by kernel_rfl))
 f243:=Tryz.func226.trans (congrArg some (by kernel_rfl))
 f244:=Tryz.func224.trans (congrArg some (by kernel_rfl))
 f245:=Tryz.func225.trans (congrArg some (by kernel_rfl))
 f246:=Tryz.func250.trans (congrArg some (by kernel_rfl))
 f247:=Tryz.func245.trans (congrArg some (by kernel_rfl))
 f279:=Tryz.func246.trans (congrArg some (by kernel_rfl))
 f280:=Tryz.func247.trans (congrArg some (by kernel_rfl))
 f281:=Tryz.func248.trans (congrArg some (by kernel_rfl))
 f282:=Tryz.func249.trans (congrArg some (by kernel_rfl))
 f283:=Tryz.func269.trans (congrArg some (by kernel_rfl))
 f284:=Tryz.func270.trans (congrArg some (by kernel_rfl))
 f285:=Tryz.func271.trans (congrArg some (by kernel_rfl))
 f286:=Tryz.func272.trans (congrArg some (by kernel_rfl))
 f287:=Tryz.func266.trans (congrArg some (by kernel_rfl))
 f316:=Tryz.func267.trans (congrArg some (by kernel_rfl))
 f317:=Tryz.func277.trans (congrArg some (by kernel_rfl))
 f318:=Tryz.func279.trans (congrArg some (by kernel_rfl))
 f319:=Tryz.func280.trans (congrArg some (by kernel_rfl))
 f320:=Tryz.func281.trans (congrArg some (by kernel_rfl))
 f321:=Tryz.func275.trans (congrArg some (by kernel_rfl))
 f322:=Tryz.func276.trans (congrArg some (by kernel_rfl))
 f337:=Tryz.func282.trans (congrArg some (by kernel_rfl))
 f338:=Tryz.func283.trans (congrArg some (by kernel_rfl))
 t0:=Tryz.underlying0
 a0:=Tryz.isAgg0
 z0:=Tryz.sizeOf0
 v0:=Tryz.zeroValue0
 t2:=Tryz.underlying2
 a2:=Tryz.isAgg2
 z2:=Tryz.sizeOf2
 v2:=Tryz.zeroValue2
 t3:=Tryz.underlying3
 a3:=Tryz.isAgg3
 z3:=Tryz.sizeOf3
 v3:=Tryz.zeroValue3
 t4:=Tryz.underlying4
 a4:=Tryz.isAgg4
 z4:=Tryz.sizeOf4
 v4:=Tryz.zeroValue4
 t5:=Tryz.underlying5
 a5:=Tryz.isAgg5
 z5:=Tryz.sizeOf5
 v5:=Tryz.zeroValue5
 t9:=Tryz.underlying9
 a9:=Tryz.isAgg9
 z9:=Tryz.sizeOf9
 v9:=Tryz.zeroValue9
 t20:=Tryz.underlying20
 a20:=Tryz.isAgg20
 z20:=Tryz.sizeOf20
 v20:=Tryz.zeroValue20
 t21:=Tryz.underlying21
 a21:=Tryz.isAgg21
 z21:=Tryz.sizeOf21
 v21:=Tryz.zeroValue21
 t37:=Tryz.underlying162
 a37:=Tryz.isAgg162
 z37:=Tryz.sizeOf162
 v37:=Tryz.zeroValue162
 t46:=Tryz.underlying272
 a46:=Tryz.isAgg272
 z46:=Tryz.sizeOf272
 v46:=Tryz.zeroValue272
 t51:=Tryz.underlying288
 a51:=Tryz.isAgg288
 z51:=Tryz.sizeOf288
 v51:=Tryz.zeroValue288
 t53:=Tryz.underlying296
 a53:=Tryz.isAgg296
 z53:=Tryz.sizeOf296
 v53:=Tryz.zeroValue296
 t75:=Tryz.underlying237
 a75:=Tryz.isAgg237
 z75:=Tryz.sizeOf237
 v75:=Tryz.zeroValue237
 t76:=Tryz.underlying238
 a76:=Tryz.isAgg238
 z76:=Tryz.sizeOf238
 v76:=Tryz.zeroValue238
 t85:=Tryz.underlying275
 a85:=Tryz.isAgg275
 z85:=Tryz.sizeOf275
 v85:=Tryz.zeroValue275
 t127:=Tryz.underlying265
 a127:=Tryz.isAgg265
 z127:=Tryz.sizeOf265
 v127:=Tryz.zeroValue265
 t143:=Tryz.underlying312
 a143:=Tryz.isAgg312
 z143:=Tryz.sizeOf312
 v143:=Tryz.zeroValue312
 t145:=Tryz.underlying314
 a145:=Tryz.isAgg314
 z145:=Tryz.sizeOf314
 v145:=Tryz.zeroValue314
 t167:=Tryz.underlying274
 a167:=Tryz.isAgg274
 z167:=Tryz.sizeOf274
 v167:=Tryz.zeroValue274
 t168:=Tryz.underlying277
 a168:=Tryz.isAgg277
 z168:=Tryz.sizeOf277
 v168:=Tryz.zeroValue277
 t171:=Tryz.underlying302
 a171:=Tryz.isAgg302
 z171:=Tryz.sizeOf302
 v171:=Tryz.zeroValue302
 t173:=Tryz.underlying305
 a173:=Tryz.isAgg305
 z173:=Tryz.sizeOf305
 v173:=Tryz.zeroValue305
 t175:=Tryz.underlying297
 a175:=Tryz.isAgg297
 z175:=Tryz.sizeOf297
 v175:=Tryz.zeroValue297
 t210:=Tryz.underlying300
 a210:=Tryz.isAgg300
 z210:=Tryz.sizeOf300
 v210:=Tryz.zeroValue300
 t212:=Tryz.underlying316
 a212:=Tryz.isAgg316
 z212:=Tryz.sizeOf316
 v212:=Tryz.zeroValue316
 t213:=Tryz.underlying317
 a213:=Tryz.isAgg317
 z213:=Tryz.sizeOf317
 t232:=Tryz.underlying320
 a232:=Tryz.isAgg320
 z232:=Tryz.sizeOf320
 v232:=Tryz.zeroValue320
 t233:=Tryz.underlying321
 a233:=Tryz.isAgg321
 z233:=Tryz.sizeOf321
 v233:=Tryz.zeroValue321
 g15:=by kernel_rfl
 g16:=by kernel_rfl
 g17:=by kernel_rfl
 g18:=by kernel_rfl
 g19:=by kernel_rfl }
def Tryz.lays169_ren:Go.Shelf.Ren:=⟨fun|169=>202|n=>n,fun|70=>245|9=>9|0=>0|72=>247|37=>162|127=>265|3=>3|5=>5|n=>n,fun|n=>n⟩
theorem Tryz.lays169:Go.Proofs.Lays.n169 Tryz.prog Tryz.lays169_ren:={
 mixed:=by kernel_rfl
 f169:=Tryz.func202.trans (congrArg some (by kernel_rfl))
 t0:=Tryz.underlying0
 a0:=Tryz.isAgg0
 z0:=Tryz.sizeOf0
 v0:=Tryz.zeroValue0
 t3:=Tryz.underlying3
 a3:=Tryz.isAgg3
 z3:=Tryz.sizeOf3
 v3:=Tryz.zeroValue3
 t9:=Tryz.underlying9
 a9:=Tryz.isAgg9
 z9:=Tryz.sizeOf9
 v9:=Tryz.zeroValue9
 t37:=Tryz.underlying162
 a37:=Tryz.isAgg162
 z37:=Tryz.sizeOf162
 v37:=Tryz.zeroValue162
 t70:=Tryz.underlying245
 a70:=Tryz.isAgg245
 z70:=Tryz.sizeOf245
 v70:=Tryz.zeroValue245
 t72:=Tryz.underlying247
 a72:=Tryz.isAgg247
 z72:=Tryz.sizeOf247
 v72:=Tryz.zeroValue247
 t127:=Tryz.underlying265
 a127:=Tryz.isAgg265
 z127:=Tryz.sizeOf265
 v127:=Tryz.zeroValue265 }
def Tryz.laysM171_ren:Go.Shelf.Ren:=⟨fun|171=>196|243=>226|246=>250|283=>269|284=>270|285=>271|286=>272|129=>278|317=>277|318=>279|319=>280|320=>281|337=>282|338=>283|n=>n,fun|3=>3|9=>9|2=>2|4=>4|171=>302|0=>0|53=>296|37=>162|5=>5|173=>305|212=>316|51=>288|20=>20|213=>317|46=>272|232=>320|233=>321|n=>n,fun|17=>6|18=>7|19=>8|n=>n⟩
theorem Tryz.laysM171:Go.Proofs.LaysM.n171 Tryz.prog Tryz.laysM171_ren:={
 mixed:=by kernel_rfl
 f129:=Tryz.func278.trans (congrArg some (by kernel_rfl))
 f171:=Tryz.func196.trans (congrArg some (by kernel_rfl))
 f243:=Tryz.func226.trans (congrArg some (by kernel_rfl))
 f246:=Tryz.func250.trans (congrArg some (by kernel_rfl))
 f283:=Tryz.func269.trans (congrArg some (by kernel_rfl))
 f284:=Tryz.func270.trans (congrArg some (by kernel_rfl))
 f285:=Tryz.func271.trans (congrArg some (by kernel_rfl))
 f286:=Tryz.func272.trans (congrArg some (by kernel_rfl))
 f317:=Tryz.func277.trans (congrArg some (by kernel_rfl))
 f318:=Tryz.func279.trans (congrArg some (by kernel_rfl))
 f319:=Tryz.func280.trans (congrArg some (by kernel_rfl))
 f320:=Tryz.func281.trans (congrArg some (by kernel_rfl))
 f337:=Tryz.func282.trans (congrArg some (by kernel_rfl))
 f338:=Tryz.func283.trans (congrArg some (by kernel_rfl))
 t0:=Tryz.underlying0
 a0:=Tryz.isAgg0
 z0:=Tryz.sizeOf0
 v0:=Tryz.zeroValue0
 t2:=Tryz.underlying2
 a2:=Tryz.isAgg2
 z2:=Tryz.sizeOf2
 v2:=Tryz.zeroValue2
 t3:=Tryz.underlying3
 a3:=Tryz.isAgg3
 z3:=Tryz.sizeOf3
 v3:=Tryz.zeroValue3
 t4:=Tryz.underlying4
 a4:=Tryz.isAgg4
 z4:=Tryz.sizeOf4
 v4:=Tryz.zeroValue4
 t5:=Tryz.underlying5
 a5:=Tryz.isAgg5
 z5:=Tryz.sizeOf5
 v5:=Tryz.zeroValue5
 t9:=Tryz.underlying9
 a9:=Tryz.isAgg9
 z9:=Tryz.sizeOf9
 v9:=Tryz.zeroValue9
 t20:=Tryz.underlying20
 a20:=Tryz.isAgg20
 z20:=Tryz.sizeOf20
 v20:=Tryz.zeroValue20
 t37:=Tryz.underlying162
 a37:=Tryz.isAgg162
 z37:=Tryz.sizeOf162
 v37:=Tryz.zeroValue162
 t46:=Tryz.underlying272
 a46:=Tryz.isAgg272
 z46:=Tryz.sizeOf272
 v46:=Tryz.zeroValue272
 t51:=Tryz.underlying288
 a51:=Tryz.isAgg288
 z51:=Tryz.sizeOf288
 v51:=Tryz.zeroValue288
 t53:=Tryz.underlying296
 a53:=Tryz.isAgg296
 z53:=Tryz.sizeOf296
 v53:=Tryz.zeroValue296
 t171:=Tryz.underlying302
 a171:=Tryz.isAgg302
 z171:=Tryz.sizeOf302
 v171:=Tryz.zeroValue302
 t173:=Tryz.underlying305
 a173:=Tryz.isAgg305
 z173:=Tryz.sizeOf305
 v173:=Tryz.zeroValue305
 t212:=Tryz.underlying316
 a212:=Tryz.isAgg316
 z212:=Tryz.sizeOf316
 v212:=Tryz.zeroValue316
 t213:=Tryz.underlying317
 a213:=Tryz.isAgg317
 z213:=Tryz.sizeOf317
 t232:=Tryz.underlying320
 a232:=Tryz.isAgg320
 z232:=Tryz.sizeOf320
 v232:=Tryz.zeroValue320
 t233:=Tryz.underlying321
 a233:=Tryz.isAgg321
 z233:=Tryz.sizeOf321
 v233:=Tryz.zeroValue321
 g17:=by kernel_rfl
 g18:=by kernel_rfl
 g19:=by kernel_rfl
 i0:=by kernel_rfl
 i2:=by kernel_rfl
 i3:=by kernel_rfl
 i4:=by kernel_rfl
 i5:=by kernel_rfl
 i9:=by kernel_rfl
 i20:=by kernel_rfl
 i37:=by kernel_rfl
 i46:=by kernel_rfl
 i51:=by kernel_rfl
 i53:=by kernel_rfl
 i171:=by kernel_rfl
 i173:=by kernel_rfl
 i212:=by kernel_rfl
 i232:=by kernel_rfl
 i233:=by kernel_rfl
 m17:=by kernel_rfl
 m18:=by kernel_rfl
 m19:=by kernel_rfl }
end Go.Proofs

namespace Go.Eng
open Go.Shelf Go.RowKit Go.Proofs
set_option maxHeartbeats 2000000 in
set_option maxRecDepth 100000 in
theorem qxV(b:Nat)(w:World)(h0:w.cell? ⟨b,0,none⟩=some (.pointer (some ⟨b,0,none⟩))) :
  Calls Tryz.prog 228 #[.pointer (some ⟨b,0,none⟩)] w fun e w'=>e=.returned (.tuple #[])∧w'=w:=by
 obtain⟨j,hj,_⟩:=Option.map_eq_some_iff.1 (show (Tryz.prog.info? 247).map (·.size)=some 2 by kernel_rfl)
 go_enter Tryz.func228,Tryz.ntmps228
 go_wp2
 rw[Lib.run_neq_ptr_same w ⟨b,0,none⟩ Tryz.underlying245 hj]
 go_wp2
 go_end0
 exact⟨rfl,rfl⟩
set_option maxHeartbeats 2000000 in
set_option maxRecDepth 100000 in
theorem qvf(b:Nat)(w:World)(h0:w.cell? ⟨b,0,none⟩=some (.pointer none))(hsh:w.shape? b=some (247,2))(hfz:w.frozen? ⟨b,0,none⟩=false) :
  Calls Tryz.prog 228 #[.pointer (some ⟨b,0,none⟩)] w fun e w'=>e=.returned (.tuple #[])∧w'=w.setCell ⟨b,0,none⟩ (.pointer (some ⟨b,0,none⟩)):=by
 obtain⟨j,hj,hjs⟩:=Option.map_eq_some_iff.1 (show (Tryz.prog.info? 247).map (·.size)=some 2 by kernel_rfl)
 go_enter Tryz.func228,Tryz.ntmps228
 go_wp2
 rw[Lib.run_to_unsafe w ⟨b,0,none⟩ Tryz.underlying245 Tryz.underlying281 hj (by rw[hjs];decide) hsh (Nat.zero_lt_succ 1)]
 simp only[Result.andThen]
 rw[Oper.upon_value]
 go_wp2
 rw[run_callFunc_extern Tryz.func251 (by kernel_rfl) (by kernel_rfl) (by kernel_rfl) (e:=Extern.AbiNoEscape.same) (by kernel_rfl)]
 rw[Lib.run_noEscape]
 simp only[Result.andThen]
 rw[Oper.upon_value]
 go_wp2
 rw[Lib.run_from_unsafe w ⟨b,0,none⟩ Tryz.underlying281 Tryz.underlying245 hj hsh (by kernel_rfl)]
 simp only[Result.andThen]
 rw[Oper.upon_value]
 go_wp2
 go_end0
 exact⟨rfl,rfl⟩
abbrev BtB(B b:Nat)(bs:List Value)(w:World):Prop:=Lib.IsBuilder 247 5 B b bs w
set_option maxHeartbeats 2000000 in
set_option maxRecDepth 100000 in
theorem qqw(B b:Nat)(bs:List Value)(w:World)(h:BtB B b bs w) :
  Calls Tryz.prog 228 #[.pointer (some ⟨b,0,none⟩)] w fun e w'=>e=.returned (.tuple #[])∧Lib.BuilderAt 247 5 B b (.pointer (some ⟨b,0,none⟩)) bs w'∧Below B w w':=by
 rcases h with h|h
 ·refine(qvf b w h.cell0 h.shape h.frozen0).mono ?_
  rintro e w' ⟨rfl,rfl⟩
  exact⟨rfl,h.used _,(Below.refl B w).setCell (p:=⟨b,0,none⟩) h.1 _⟩
 ·refine(qxV b w h.cell0).mono ?_
  rintro e w' ⟨rfl,rfl⟩
  exact⟨rfl,h,Below.refl B _⟩
set_option maxHeartbeats 2000000 in
set_option maxRecDepth 100000 in
theorem qxL(B b:Nat)(bs:List Value)(c:Int)(w:World)(h:BtB B b bs w)(hlen:bs.length+1≤140737488355328)(hBw:B≤w.heap.size) :
  Calls Tryz.prog 200 #[.pointer (some ⟨b,0,none⟩),.int .u8 c] w fun e w'=>e=.returned .nilIface∧BtB B b (bs++[.int .u8 c]) w'∧Below B w w':=by
 obtain⟨i0,hi,hz0,hz1,hz2⟩:=info_parts (show (Tryz.prog.info? 5).map (fun i=>(i.zero,i.size,i.bytes))=some (some (.int .u8 0),1,1) by kernel_rfl)
 go_enter Tryz.func200,Tryz.ntmps200
 go_wp2_with (go_at_call 228;refine(qqw B b bs _ h).mono ?_)
 rintro e w1 ⟨rfl,h1,hb1⟩
 obtain⟨hB,v,hbk,hown,hne⟩:=h1
 have c0:w1.cell? ⟨b,0,none⟩=some (.pointer (some ⟨b,0,none⟩)):=by rw[Lib.cell_of_heap hbk];rfl
 have c1:w1.cell? ⟨b,1,none⟩=some v:=by rw[Lib.cell_of_heap hbk];rfl
 have hsz1:=hb1.size
 go_wp2_with (at_builtin;refine wpList_append_own _ rfl _ _ 162 rfl B 5 i0 (.int .u8 0) 1 1 Tryz.underlying162 hi hz0 hz1 hz2 rfl (by decide) _ _ _ rfl (hown.alloc _) ⟨w1.heap.size,0,none⟩ 1 1 [.int .u8 c] rfl rfl ?c1 ?c2 ?c3 ?c4 ?c5 ?_)
 case c1=>
  intro j u hj
  match j,hj with
  | 0,hj=>simp at hj;subst hj;simp[Addr.add]
 case c2=>intro u hu;simp at hu;subst hu;rfl
 case c3=>unfold maxLen;omega
 case c4=>omega
 case c5=>simp;omega
 intro v' w2 hown' hgrow _
 have hlt:b<w1.heap.size:=by
  rcases Nat.lt_or_ge b w1.heap.size with h'|h'
  ·exact h'
  ·simp[Array.getElem?_eq_none h'] at hbk
 have hb2:w2.heap[b]?=some (.cells #[.pointer (some ⟨b,0,none⟩),v] 247 (0,0)):=by
  rw[hgrow.block b (by simp;omega) (fun e=>hne e.symm),Lib.alloc_old w1 _ b hlt]
  exact hbk
 have d0:w2.cell? ⟨b,0,none⟩=some (.pointer (some ⟨b,0,none⟩)):=by rw[Lib.cell_of_heap hb2];rfl
 have d1:w2.cell? ⟨b,1,none⟩=some v:=by rw[Lib.cell_of_heap hb2];rfl
 have f1:w2.frozen? ⟨b,1,none⟩=false:=Lib.frozen_of_heap hb2 1
 obtain⟨ao,n',cap,rfl⟩:∃ao n' cap,v'=.slice ao n' cap:=by
  rcases hown'.2 with⟨hv,_⟩|⟨g,cap,cur,hv,_⟩
  ·exact⟨_,_,_,hv⟩
  ·exact⟨_,_,_,hv⟩
 go_wp2
 go_ret
 refine⟨rfl,.inr ?_,?_⟩
 ·exact Lib.BuilderAt.put (T:=247) (e:=5) hB hb2 (bs':=bs++[.int .u8 c]) (by simpa using hown') (by decide)
 ·exact((hb1.alloc (by omega) _).grown hgrow (by simp;omega) (fun k hk=>(hown.lt k hk).1)).setCell (p:=⟨b,1,none⟩) hB _
set_option maxHeartbeats 2000000 in
set_option maxRecDepth 100000 in
theorem qw2(B b:Nat)(bs:List Value)(s:ByteArray)(w:World)(h:BtB B b bs w)(hlen:bs.length+s.size≤140737488355328)(hBw:B≤w.heap.size) :
  Calls Tryz.prog 201 #[.pointer (some ⟨b,0,none⟩),.string s] w fun e w'=>e=.returned (.tuple #[.int .i64 s.size,.nilIface])∧BtB B b (bs++Lib.strCells s) w'∧Below B w w':=by
 obtain⟨i0,hi,hz0,hz1,hz2⟩:=info_parts (show (Tryz.prog.info? 5).map (fun i=>(i.zero,i.size,i.bytes))=some (some (.int .u8 0),1,1) by kernel_rfl)
 go_enter Tryz.func201,Tryz.ntmps201
 go_wp2_with (go_at_call 228;refine(qqw B b bs _ h).mono ?_)
 rintro e w1 ⟨rfl,h1,hb1⟩
 obtain⟨hB,v,hbk,hown,hne⟩:=h1
 have c0:w1.cell? ⟨b,0,none⟩=some (.pointer (some ⟨b,0,none⟩)):=by rw[Lib.cell_of_heap hbk];rfl
 have c1:w1.cell? ⟨b,1,none⟩=some v:=by rw[Lib.cell_of_heap hbk];rfl
 have hsz1:=hb1.size
 go_wp2_with (at_builtin;refine Lib.wpList_append_own_string _ rfl _ _ 162 9 rfl B 5 i0 Tryz.underlying162 Tryz.underlying9 hi hz0 hz1 hz2 _ _ _ rfl hown s rfl ?c3 ?c4 ?c5 ?_)
 case c3=>unfold maxLen;omega
 case c4=>omega
 case c5=>omega
 intro v' w2 hown' hgrow _
 have hlt:b<w1.heap.size:=by
  rcases Nat.lt_or_ge b w1.heap.size with h'|h'
  ·exact h'
  ·simp[Array.getElem?_eq_none h'] at hbk
 have hb2:w2.heap[b]?=some (.cells #[.pointer (some ⟨b,0,none⟩),v] 247 (0,0)):=by
  rw[hgrow.block b hlt (fun e=>hne e.symm)]
  exact hbk
 have d0:w2.cell? ⟨b,0,none⟩=some (.pointer (some ⟨b,0,none⟩)):=by rw[Lib.cell_of_heap hb2];rfl
 have d1:w2.cell? ⟨b,1,none⟩=some v:=by rw[Lib.cell_of_heap hb2];rfl
 have f1:w2.frozen? ⟨b,1,none⟩=false:=Lib.frozen_of_heap hb2 1
 obtain⟨ao,n',cap,rfl⟩:∃ao n' cap,v'=.slice ao n' cap:=by
  rcases hown'.2 with⟨hv,_⟩|⟨g,cap,cur,hv,_⟩
  ·exact⟨_,_,_,hv⟩
  ·exact⟨_,_,_,hv⟩
 go_wp2
 go_ret2
 refine⟨rfl,.inr ?_,?_⟩
 ·exact Lib.BuilderAt.put (T:=247) (e:=5) hB hb2 (bs':=bs++Lib.strCells s) (by simpa[Lib.strCells_length] using hown') (by decide)
 ·exact(hb1.grown hgrow (by omega) (fun k hk=>(hown.lt k hk).1)).setCell (p:=⟨b,1,none⟩) hB _
theorem qvW:Builder.Extra Tryz.prog Tryz.lays169_ren where
 sizeBuilder:=by kernel_rfl
 liesBuilder:=by kernel_rfl
 t5:=Tryz.underlying5
 a5:=Tryz.isAgg5
 z5:=Tryz.sizeOf5
 v5:=Tryz.zeroValue5
 infoByte:=by kernel_rfl
 cellsByte:=by kernel_rfl
 sizeByte:=by kernel_rfl
 neB5:=by decide
set_option maxHeartbeats 2000000 in
set_option maxRecDepth 100000 in
theorem qu1(B b:Nat)(l:List UInt8)(w:World)(h:BtB B b (Lib.byteCells l) w)(h0:l≠[]) :
  Calls Tryz.prog 202 #[.pointer (some ⟨b,0,none⟩)] w fun e w'=>e=.returned (.string ⟨l.toArray⟩)∧Below B w w':=
 Any.Builder_String Tryz.lays169 qvW B b l w h h0
def qhR(f:Nat→Int):Nat→List UInt8
 | 0=>[]
 | i+1=>qwZ (Lib.itoa (f i))++qhR f i
def qtz(b:Bool)(n:Nat)(f:Nat→Int):List UInt8:=if n=0 then [48] else (if b then [45] else [])++Lib.itoa (f (n-1))++qhR f (n-1)
theorem qtF (n:Int) (h:-9223372036854775808≤n∧n≤9223372036854775807) (w:World) (ht:Lib.TabIs Tryz.prog w "internal/strconv.uint64pow10" .u64 Lib.pow10Tab) :
  Calls Tryz.prog 196 #[.int .i64 n] w fun e w'=>e=.returned (.string ⟨(Lib.itoa n).toArray⟩)∧Below w.heap.size w w':=
 (Any.strconv_Itoa Tryz.laysM171 n h.1 h.2 w ht).mono fun e w' ⟨h1,k,os,h2⟩=>⟨h1,by subst h2;exact qka _ _ _⟩
theorem ql7{P:Program}{w w':World}{name:String}{k:IntKind}{zs:List Int}(h:Lib.TabIs P w name k zs)(hb:Below w.heap.size w w'):Lib.TabIs P w' name k zs:=by
 unfold Lib.TabIs World.var? at *
 cases hg:P.globalNamed name with
 | none=>rw[hg] at h;cases h
 | some g=>
  rw[hg] at h
  simp only[Option.bind_some] at h ⊢
  by_cases hlt:g<w.heap.size
  ·rw[hb.block g hlt];exact h
  ·rw[Array.getElem?_eq_none (by omega)] at h;cases h
theorem qeZ{w w':World}(hb:Below w.heap.size w w'){n:Nat}(hn:n<w.heap.size)(o:Nat):w'.cell? ⟨n,o,none⟩=w.cell? ⟨n,o,none⟩:=World.cell?_of_block (hb.block n hn)
theorem qqx{B b:Nat}{bs:List Value}{w w':World}(h:BtB B b bs w)(hb:Below w.heap.size w w'):BtB B b bs w':=by
 have key:∀p,Lib.BuilderAt 247 5 B b p bs w→Lib.BuilderAt 247 5 B b p bs w':=by
  intro p h
  have hlt:=h.lt
  obtain⟨hB,v,hbk,⟨hl,hown⟩,hne⟩:=h
  refine⟨hB,v,(hb.block b hlt).trans hbk,⟨hl,?_⟩,hne⟩
  rcases hown with h|⟨g,cap,cur,h1,h2,h3,h4⟩
  ·exact .inl h
  ·exact .inr ⟨g,cap,cur,h1,h2,(hb.block g (Array.getElem?_eq_some_iff.1 h3).1).trans h3,h4⟩
 exact h.elim (fun x=>.inl (key _ x)) (fun x=>.inr (key _ x))
theorem qxR{B b:Nat}{bs:List Value}{w:World}(h:BtB B b bs w):BtB B b bs w.drew:=h.elim (fun x=>.inl x.drew) (fun x=>.inr x.drew)
theorem qwx:∀(k n:Nat),n<10^(k+1)→(Lib.decDigits n).length≤k+1
 | 0,n,h=>by rw[Lib.decDigits,dif_pos (by omega)];simp
 | k+1,n,h=>by
  rw[Lib.decDigits]
  split
  ·simp
  ·have:=qwx k (n/10) (by rw[Nat.pow_succ] at h;omega)
   simp;omega
theorem qxf{pre l:List UInt8}{k:Nat}(hp:pre.length≤k)(hl:l.length≤9)(hk:k≤100000:=by omega):(Lib.byteCells pre).length+(⟨l.toArray⟩:ByteArray).size≤140737488355328:=by
 rw[Lib.byteCells_length]
 have:(⟨l.toArray⟩:ByteArray).size=l.length:=by simp[ByteArray.size]
 omega
theorem qtv{x:Int}(h:0≤x∧x<1000000000):(Lib.itoa x).length≤9:=by
 unfold Lib.itoa
 rw[if_neg (by omega)]
 exact qwx 8 _ (by omega)
theorem qtc{l:List UInt8}(h:l.length≤9):(qwZ l).length=9:=by
 unfold qwZ q6K q5W qw
 simp;omega
theorem qwX{l:List UInt8}(h:l.length≤9):(⟨#[48,48,48,48,48,48,48,48,48]⟩:ByteArray).extract l.length 9++⟨l.toArray⟩=⟨(qwZ l).toArray⟩:=by
 have key:∀k:Nat,k≤9→(⟨#[48,48,48,48,48,48,48,48,48]⟩:ByteArray).extract k 9=⟨(q5W [48,48,48,48,48,48,48,48,48] (k:Int) 9).toArray⟩:=by
  intro k hk
  have:k=0∨k=1∨k=2∨k=3∨k=4∨k=5∨k=6∨k=7∨k=8∨k=9:=by omega
  rcases this with rfl|rfl|rfl|rfl|rfl|rfl|rfl|rfl|rfl|rfl<;>rfl
 rw[key _ h]
 unfold qwZ q6K qw
 apply ByteArray.ext
 simp
theorem qvH(l:List UInt8):Lib.strCells ⟨l.toArray⟩=Lib.byteCells l:=rfl
theorem qxp(x:Int):0<(Lib.itoa x).length:=by
 unfold Lib.itoa
 split
 ·simp
 ·rw[Lib.decDigits];split<;>simp
set_option maxHeartbeats 4000000 in
set_option maxRecDepth 1000000 in
theorem qxn(n0:Nat)(b:Bool)(n:Nat)(f:Nat→Int)(w:World)(hlt:n0<w.heap.size)(h0:w.cell? ⟨n0,0,none⟩=some (.bool b))(h1:w.cell? ⟨n0,1,none⟩=some (.int .i64 (n:Int)))(hw:∀i,i<232→w.cell? ⟨n0,2+i,none⟩=some (.int .i64 (f i)))
  (hn:n≤232) (hf:∀i,i<n→0≤f i∧f i<1000000000) (ht:Lib.TabIs Tryz.prog w "internal/strconv.uint64pow10" .u64 Lib.pow10Tab) :
  Calls Tryz.prog 161 #[.pointer (some ⟨n0,0,none⟩)] w fun e w'=>e=.returned (.string ⟨(qtz b n f).toArray⟩)∧Below w.heap.size w w':=by
 rcases Nat.eq_zero_or_pos n with rfl|hpos
 ·go_enter Tryz.func161,Tryz.ntmps161
  go_wp2
  go_ret
  exact⟨rfl,Below.refl _ _⟩
 obtain⟨m,rfl⟩:∃m,n=m+1:=⟨n-1,by omega⟩
 have hne:(((m+1:Nat):Int)==0)=false:=by simp;omega
 have w1:IntKind.i64.wrap (((m+1:Nat):Int)-1)=(m:Int):=by unfold IntKind.wrap;simp[IntKind.signed,IntKind.bits];omega
 have w1':IntKind.i64.wrap (m:Int)=(m:Int):=by unfold IntKind.wrap;simp[IntKind.signed,IntKind.bits];omega
 have hi:0≤(m:Int)∧(m:Int)<232:=by omega
 have hwm:=hw m (by omega)
 have w2:IntKind.i64.wrap (((m+1:Nat):Int)-2)=(m:Int)-1:=by unfold IntKind.wrap;simp[IntKind.signed,IntKind.bits];omega
 have hitm:=qtv (hf m (by omega))
 cases b
 case' false=>
  go_enter Tryz.func161,Tryz.ntmps161
  go_wp2
  have hB0:=Lib.fresh_isBuilder 247 5 w
  have hb0:=(Below.refl w.heap.size w).alloc (Nat.le_refl _) (.cells #[.pointer none,.slice none 0 0] 247)
  generalize w.alloc (.cells #[.pointer none,.slice none 0 0] 247)=W0 at *
  obtain⟨pre,hpre⟩:∃pre:List UInt8,pre=if false=true then [45] else []:=⟨_,rfl⟩
  replace hB0:BtB w.heap.size w.heap.size (Lib.byteCells pre) W0:=by subst hpre;exact hB0
 case' true=>
  go_enter Tryz.func161,Tryz.ntmps161
  go_wp2_with (go_at_call 200;refine(qxL w.heap.size w.heap.size [] 45 _ (Lib.fresh_isBuilder 247 5 w) (by simp) (by simp)).mono ?_)
  rintro e W0 ⟨rfl,hB0,hb0⟩
  replace hb0:=((Below.refl w.heap.size w).alloc (Nat.le_refl _) (.cells #[.pointer none,.slice none 0 0] 247)).trans hb0
  obtain⟨pre,hpre⟩:∃pre:List UInt8,pre=if true=true then [45] else []:=⟨_,rfl⟩
  replace hB0:BtB w.heap.size w.heap.size (Lib.byteCells pre) W0:=by subst hpre;exact hB0
  go_wp2
 all_goals
  have hp1:pre.length≤1:=by subst hpre;split<;>simp
  have hs0:=hb0.size
  have d1:=(qeZ hb0 hlt 1).trans h1
  have dm:=(qeZ hb0 hlt (2+m)).trans hwm
  go_region_with (first
   | (go_at_call 196;refine(qtF (f m) (by have:=hf m (by omega);omega) _ (ql7 ht hb0.drew)).mono ?_;rintro e W1 ⟨rfl,b1⟩)
   | (go_at_call 201;refine(qw2 w.heap.size w.heap.size _ _ _ (qqx (qxR hB0) b1) (qxf hp1 hitm) (Nat.le_trans hs0 b1.size)).mono ?_;rintro e W2 ⟨rfl,hB2,b2⟩))
  have b02:Below w.heap.size w W2:=(hb0.drew.trans (b1.mono hs0)).trans b2
  have e1:=(qeZ b02 hlt 1).trans h1
  replace hB2:BtB w.heap.size w.heap.size (Lib.byteCells (pre++Lib.itoa (f m))) W2:=by rw[Lib.byteCells_append];exact hB2
  go_wp2
  go_loopw [4] (fun vi wr=>∃(k:Nat) (acc:List UInt8),vi=.int .i64 ((k:Int)-1)∧k≤m∧BtB w.heap.size w.heap.size (Lib.byteCells acc) wr∧Below w.heap.size w wr∧acc++qhR f k=pre++Lib.itoa (f m)++qhR f m∧acc.length≤10+9*(m-k)) (fun vi _=>(intOf vi+1).toNat)
  case atStart=>exact⟨m,_,by congr 1<;>omega,Nat.le_refl _,hB2,b02,rfl,by simp;omega⟩
  case round=>
   obtain⟨k,acc,rfl,hkm,hI,hbw,hacc,hal⟩:=hrel
   have hbs:=hbw.size
   rcases Nat.eq_zero_or_pos k with rfl|hk0
   ·go_wp2_with (go_at_call 202;refine(qu1 w.heap.size w.heap.size acc _ hI ?hne).mono ?_)
    case hne=>
     intro h0
     subst h0
     have:=congrArg List.length hacc
     have h9:=qxp (f m)
     simp[qhR] at this
     omega
    rintro e W3 ⟨rfl,b3⟩
    go_wp2
    go_ret
    refine⟨?_,hbw.trans b3⟩
    simp only[qhR,List.append_nil] at hacc
    rw[hacc,hpre]
    simp[qtz]
   ·obtain⟨q,rfl⟩:∃q,k=q+1:=⟨k-1,by omega⟩
    have x1:(((q+1:Nat):Int)-1)=(q:Int):=by omega
    have x2:(0:Int)≤(q:Int)∧(q:Int)<232:=by omega
    have x3:(q:Int).toNat=q:=Int.toNat_natCast q
    have dq:=(qeZ hbw hlt (2+q)).trans (hw q (by omega))
    have hq9:=qtv (hf q (by omega))
    rw[x1]
    go_wp2_with (go_at_call 196;refine(qtF (f q) (by have:=hf q (by omega);omega) _ (ql7 ht hbw)).mono ?_)
    rintro e W3 ⟨rfl,b3⟩
    clear w1 w1' w2 hi hwm hne h1 hf hw ht
    have hl9:((⟨(Lib.itoa (f q)).toArray⟩:ByteArray).size:Int)≤9:=by simp[ByteArray.size];omega
    go_wp2_with (go_at_call 201;refine(qw2 w.heap.size w.heap.size (Lib.byteCells acc) _ _ (qqx hI b3) ?hl (Nat.le_trans hbs b3.size)).mono ?_)
    case hl=>rw[qwX hq9,Lib.byteCells_length];have:=qtc hq9;simp[ByteArray.size];omega
    rintro e W4 ⟨rfl,hB4,b4⟩
    rw[qwX hq9,qvH,←Lib.byteCells_append] at hB4
    go_wp2
    go_roundw
    case rel=>
     refine⟨q,_,by congr 1<;>omega,by omega,hB4,(hbw.trans (b3.mono hbs)).trans b4,?_,?_⟩
     ·rw[←hacc];simp[qhR]
     ·have:=qtc hq9
      simp;omega
    case measure=>simp[intOf]
theorem qsU(w:R):∀i,qh8 w i=qhR (fun i=>cI w i 0) i
 | 0=>rfl
 | i+1=>by unfold qh8 qhR;rw[qsU w i]
theorem qxP(b:Bool)(n:Nat)(w:R):qwr b (n:Int) w=qtz b n (fun i=>cI w i 0):=by
 unfold qwr qtz
 by_cases h:n=0
 ·subst h;rfl
 ·rw[if_neg (by omega),if_neg h,qsU]
  have e:((n:Int)-1)=((n-1:Nat):Int):=by omega
  rw[e,Int.toNat_natCast]
theorem qvw{ps:List PV}(h:ps.map PV.kind=[.b,.i,.r]):∃b n w,ps=[.b b,.i n,.r w]:=by
 match ps,h with
 | [.b b,.i n,.r w],_=>exact⟨b,n,w,rfl⟩
theorem qug{gl:List (Nat×AV)}(hg:(6,AV.eptr (Lib.pow10Tab.map fun _=>.int .u64) qye 0 0)∈gl) :
  wg Tryz.prog gl 161 (qc { args:=[.ptr 0 0],h:=[.big [.bool,.int .i64] .i64 232] } [{ res:=.str,h:=[.big [.bool,.int .i64] .i64 232] }] qvt):=
 qeO (q2b Tryz.func161 (by kernel_rfl) (by kernel_rfl)) rfl fun B X ps j qs vargs hs hgl hh ha hk hT=>by
  obtain⟨b,n,r,rfl⟩:=qvw hk
  simp only[qvt] at hT
  split at hT
  ·rename_i hc
   cases hT
   unfold qoC at hc
   simp only[Bool.and_eq_true,decide_eq_true_eq,List.all_eq_true,List.mem_range] at hc
   obtain⟨⟨c1,c2⟩,c3⟩:=hc
   obtain⟨m,rfl⟩:∃m:Nat,n=(m:Int):=⟨n.toNat,by omega⟩
   have hb0:X.h[0]?=some (.big [.bool b,.int .i64 (m:Int)] .i64 232 r):=by rw[hh];rfl
   obtain⟨n0,c,T,vs,hσ,hheap,hrep,hcl,hrl⟩:=hs.blk 0 _ hb0
   have hvs:vs=[.bool b,.int .i64 (m:Int)]:=by
    cases hrep with
    | cons h t=>cases h;rw[qtj t]
   subst hvs
   have hva:vargs=[.pointer (some ⟨n0,0,none⟩)]:=by
    cases ha with
    | cons h t=>
     cases t
     cases h with
     | ptr _ _ n1 hb hσ2=>
      have:n1=n0:=Option.some.inj (hσ2.symm.trans hσ)
      rw[this]
   subst hva
   have hlt:n0<X.w.heap.size:=(Array.getElem?_eq_some_iff.1 hheap).1
   have hcell:∀o,X.w.cell? ⟨n0,o,none⟩=c[o]?:=fun o=>by unfold World.cell?;simp only[hheap];rfl
   have g0:X.w.cell? ⟨n0,0,none⟩=some (.bool b):=by rw[hcell,←Array.getElem?_toList,hcl];rfl
   have g1:X.w.cell? ⟨n0,1,none⟩=some (.int .i64 (m:Int)):=by rw[hcell,←Array.getElem?_toList,hcl];rfl
   have gw:∀i,i<232→X.w.cell? ⟨n0,2+i,none⟩=some (.int .i64 (cI r (i:Int) 0)):=fun i hi=>by
    rw[hcell]
    exact qp2 (vs:=[.bool b,.int .i64 (m:Int)]) hcl (by omega)
   refine⟨rfl,rfl,rfl,?_⟩
   have hT:=qmM (k:=.u64) (zs:=Lib.pow10Tab) (show Tryz.prog.globalNamed "internal/strconv.uint64pow10" = some 6 by kernel_rfl) (by decide) (hgl _ hg).2
   refine(qxn n0 b m (fun i=>cI r (i:Int) 0) X.w hlt g0 g1 gw (by omega) (fun i hi=>c3 i (by omega)) hT).mono fun e w' ⟨k1,k2⟩=>⟨_,k1,k2,?_⟩
   rw[←qxP]
   exact .str _
  ·cases hT
end Go.Eng

namespace Go.Eng
open Go.Proofs
noncomputable def qat:List (TypeId×TI):=[(1,(.mk .func 1 [.nilFunc] 8 false false)),(2,(.mk (.int .i64) 1 [(.int .i64 0)] 8 false false)),(3,(.mk (.int .i64) 1 [(.int .i64 0)] 8 false false)),(4,(.mk .bool 1 [(.bool false)] 1 false false)),(5,(.mk (.int .u8) 1 [(.int .u8 0)] 1 false false)),(6,(.mk (.int .u8) 1 [(.int .u8 0)] 1 false false)),(8,(.mk (.struct [(0,(2,1)),(1,(3,1)),(2,(4,1)),(3,(6,1))]) 4 [(.int .i64 0),(.int .i64 0),(.bool false),(.int .u8 0)] 24 true true)),(9,(.mk .str 1 [(.string (.mk (.mk [])))] 16 false false)),(10,(.mk .str 1 [(.string (.mk (.mk [])))] 16 false false)),(11,(.mk .str 1 [(.string (.mk (.mk [])))] 16 false false)),(12,(.mk (.int .u64) 1 [(.int .u64 0)] 8 false false)),(13,(.mk (.struct [(0,(9,1)),(1,(12,1))]) 2 [(.string (.mk (.mk []))),(.int .u64 0)] 24 false true)),(14,(.mk (.struct [(0,(9,1)),(1,(12,1))]) 2 [(.string (.mk (.mk []))),(.int .u64 0)] 24 false true)),(16,(.mk (.ptr 326) 1 [(.pointer .none)] 8 false false)),(17,(.mk (.ptr 334) 1 [(.pointer .none)] 8 false false)),(18,(.mk (.struct [(0,(17,1))]) 1 [(.pointer .none)] 8 false true)),(22,(.mk (.slice 40 3) 1 [(.slice .none 0 0)] 24 false false)),(24,(.mk .func 1 [.nilFunc] 8 false false)),(25,(.mk (.slice 3 1) 1 [(.slice .none 0 0)] 24 false false)),(26,(.mk (.int .i64) 1 [(.int .i64 0)] 8 false false)),(30,(.mk .func 1 [.nilFunc] 8 false false)),(32,(.mk (.struct [(0,(3,1)),(1,(3,1)),(2,(3,1))]) 3 [(.int .i64 0),(.int .i64 0),(.int .i64 0)] 24 true true)),(33,(.mk (.struct [(0,(3,1)),(1,(3,1)),(2,(3,1))]) 3 [(.int .i64 0),(.int .i64 0),(.int .i64 0)] 24 true true)),(36,(.mk .str 1 [(.string (.mk (.mk [])))] 16 false false)),(38,(.mk (.struct [(0,(36,1)),(1,(36,1))]) 2 [(.string (.mk (.mk []))),(.string (.mk (.mk [])))] 32 true true)),(40,(.mk (.struct [(0,(38,2)),(2,(36,1))]) 3 [(.string (.mk (.mk []))),(.string (.mk (.mk []))),(.string (.mk (.mk [])))] 48 true true)),(47,(.mk .func 1 [.nilFunc] 8 false false)),(48,(.mk .func 1 [.nilFunc] 8 false false)),(49,(.mk .func 1 [.nilFunc] 8 false false)),(50,(.mk .func 1 [.nilFunc] 8 false false)),(51,(.mk .func 1 [.nilFunc] 8 false false)),(52,(.mk (.slice 97 7) 1 [(.slice .none 0 0)] 24 false false)),(53,(.mk (.slice 89 3) 1 [(.slice .none 0 0)] 24 false false)),(54,(.mk (.struct [(0,(52,1)),(1,(53,1)),(2,(3,1))]) 3 [(.slice .none 0 0),(.slice .none 0 0),(.int .i64 0)] 56 true true)),(55,(.mk (.struct [(0,(52,1)),(1,(53,1)),(2,(3,1))]) 3 [(.slice .none 0 0),(.slice .none 0 0),(.int .i64 0)] 56 true true)),(56,(.mk .func 1 [.nilFunc] 8 false false)),(61,(.mk (.struct [(0,(52,1)),(1,(53,1)),(2,(3,1))]) 3 [(.slice .none 0 0),(.slice .none 0 0),(.int .i64 0)] 56 true true)),(64,(.mk .func 1 [.nilFunc] 8 false false)),(74,(.mk (.struct [(0,(3,1)),(1,(3,1)),(2,(3,1))]) 3 [(.int .i64 0),(.int .i64 0),(.int .i64 0)] 24 true true)),(83,(.mk (.int .i8) 1 [(.int .i8 0)] 1 false false)),(84,(.mk (.array 2 83 1) 2 [(.int .i8 0),(.int .i8 0)] 2 false false)),(87,(.mk (.struct [(0,(3,1)),(1,(3,1))]) 2 [(.int .i64 0),(.int .i64 0)] 16 true true)),(89,(.mk (.struct [(0,(87,2)),(2,(3,1))]) 3 [(.int .i64 0),(.int .i64 0),(.int .i64 0)] 24 true true)),(95,(.mk (.struct [(0,(3,1)),(1,(3,1))]) 2 [(.int .i64 0),(.int .i64 0)] 16 true true)),(97,(.mk (.struct [(0,(87,2)),(2,(95,2)),(4,(3,1)),(5,(3,1)),(6,(4,1))]) 7 [(.int .i64 0),(.int .i64 0),(.int .i64 0),(.int .i64 0),(.int .i64 0),(.int .i64 0),(.bool false)] 56 true true)),(101,(.mk .func 1 [.nilFunc] 8 false false)),(104,(.mk (.ptr 106) 1 [(.pointer .none)] 8 false false)),(106,(.mk (.struct [(0,(26,1))]) 1 [(.int .i64 0)] 8 true true)),(109,(.mk .func 1 [.nilFunc] 8 false false)),(114,(.mk (.slice 117 1) 1 [(.slice .none 0 0)] 24 false false)),(117,(.mk .str 1 [(.string (.mk (.mk [])))] 16 false false)),(121,(.mk (.slice 36 1) 1 [(.slice .none 0 0)] 24 false false)),(128,(.mk .func 1 [.nilFunc] 8 false false)),(138,(.mk (.ptr 140) 1 [(.pointer .none)] 8 false false)),(140,(.mk (.struct [(0,(22,1)),(1,(26,1))]) 2 [(.slice .none 0 0),(.int .i64 0)] 32 true true)),(141,(.mk .func 1 [.nilFunc] 8 false false)),(149,(.mk .func 1 [.nilFunc] 8 false false)),(150,(.mk .func 1 [.nilFunc] 8 false false)),(162,(.mk (.slice 5 1) 1 [(.slice .none 0 0)] 24 false false)),(168,(.mk .func 1 [.nilFunc] 8 false false)),(172,(.mk (.struct [(0,(38,2)),(2,(38,2)),(4,(36,1))]) 5 [(.string (.mk (.mk []))),(.string (.mk (.mk []))),(.string (.mk (.mk []))),(.string (.mk (.mk []))),(.string (.mk (.mk [])))] 80 true true)),(190,(.mk (.struct [(0,(97,7)),(7,(3,1))]) 8 [(.int .i64 0),(.int .i64 0),(.int .i64 0),(.int .i64 0),(.int .i64 0),(.int .i64 0),(.bool false),(.int .i64 0)] 64 true true)),(193,(.mk .func 1 [.nilFunc] 8 false false)),(205,(.mk (.ptr 210) 1 [(.pointer .none)] 8 false false)),(208,(.mk (.array 232 3 1) 232 [(.int .i64 0),(.int .i64 0),(.int .i64 0),(.int .i64 0),(.int .i64 0),(.int .i64 0),(.int .i64 0),(.int .i64 0),(.int .i64 0),(.int .i64 0),(.int .i64 0),(.int .i64 0),(.int .i64 0),(.int .i64 0),(.int .i64 0),(.int .i64 0),(.int .i64 0),(.int .i64 0),(.int .i64 0),(.int .i64 0),(.int .i64 0),(.int .i64 0),(.int .i64 0),(.int .i64 0),(.int .i64 0),(.int .i64 0),(.int .i64 0),(.int .i64 0),(.int .i64 0),(.int .i64 0),(.int .i64 0),(.int .i64 0),(.int .i64 0),(.int .i64 0),(.int .i64 0),(.int .i64 0),(.int .i64 0),(.int .i64 0),(.int .i64 0),(.int .i64 0),(.int .i64 0),(.int .i64 0),(.int .i64 0),(.int .i64 0),(.int .i64 0),(.int .i64 0),(.int .i64 0),(.int .i64 0),(.int .i64 0),(.int .i64 0),(.int .i64 0),(.int .i64 0),(.int .i64 0),(.int .i64 0),(.int .i64 0),(.int .i64 0),(.int .i64 0),(.int .i64 0),(.int .i64 0),(.int .i64 0),(.int .i64 0),(.int .i64 0),(.int .i64 0),(.int .i64 0),(.int .i64 0),(.int .i64 0),(.int .i64 0),(.int .i64 0),(.int .i64 0),(.int .i64 0),(.int .i64 0),(.int .i64 0),(.int .i64 0),(.int .i64 0),(.int .i64 0),(.int .i64 0),(.int .i64 0),(.int .i64 0),(.int .i64 0),(.int .i64 0),(.int .i64 0),(.int .i64 0),(.int .i64 0),(.int .i64 0),(.int .i64 0),(.int .i64 0),(.int .i64 0),(.int .i64 0),(.int .i64 0),(.int .i64 0),(.int .i64 0),(.int .i64 0),(.int .i64 0),(.int .i64 0),(.int .i64 0),(.int .i64 0),(.int .i64 0),(.int .i64 0),(.int .i64 0),(.int .i64 0),(.int .i64 0),(.int .i64 0),(.int .i64 0),(.int .i64 0),(.int .i64 0),(.int .i64 0),(.int .i64 0),(.int .i64 0),(.int .i64 0),(.int .i64 0),(.int .i64 0),(.int .i64 0),(.int .i64 0),(.int .i64 0),(.int .i64 0),(.int .i64 0),(.int .i64 0),(.int .i64 0),(.int .i64 0),(.int .i64 0),(.int .i64 0),(.int .i64 0),(.int .i64 0),(.int .i64 0),(.int .i64 0),(.int .i64 0),(.int .i64 0),(.int .i64 0),(.int .i64 0),(.int .i64 0),(.int .i64 0),(.int .i64 0),(.int .i64 0),(.int .i64 0),(.int .i64 0),(.int .i64 0),(.int .i64 0),(.int .i64 0),(.int .i64 0),(.int .i64 0),(.int .i64 0),(.int .i64 0),(.int .i64 0),(.int .i64 0),(.int .i64 0),(.int .i64 0),(.int .i64 0),(.int .i64 0),(.int .i64 0),(.int .i64 0),(.int .i64 0),(.int .i64 0),(.int .i64 0),(.int .i64 0),(.int .i64 0),(.int .i64 0),(.int .i64 0),(.int .i64 0),(.int .i64 0),(.int .i64 0),(.int .i64 0),(.int .i64 0),(.int .i64 0),(.int .i64 0),(.int .i64 0),(.int .i64 0),(.int .i64 0),(.int .i64 0),(.int .i64 0),(.int .i64 0),(.int .i64 0),(.int .i64 0),(.int .i64 0),(.int .i64 0),(.int .i64 0),(.int .i64 0),(.int .i64 0),(.int .i64 0),(.int .i64 0),(.int .i64 0),(.int .i64 0),(.int .i64 0),(.int .i64 0),(.int .i64 0),(.int .i64 0),(.int .i64 0),(.int .i64 0),(.int .i64 0),(.int .i64 0),(.int .i64 0),(.int .i64 0),(.int .i64 0),(.int .i64 0),(.int .i64 0),(.int .i64 0),(.int .i64 0),(.int .i64 0),(.int .i64 0),(.int .i64 0),(.int .i64 0),(.int .i64 0),(.int .i64 0),(.int .i64 0),(.int .i64 0),(.int .i64 0),(.int .i64 0),(.int .i64 0),(.int .i64 0),(.int .i64 0),(.int .i64 0),(.int .i64 0),(.int .i64 0),(.int .i64 0),(.int .i64 0),(.int .i64 0),(.int .i64 0),(.int .i64 0),(.int .i64 0),(.int .i64 0),(.int .i64 0),(.int .i64 0),(.int .i64 0),(.int .i64 0),(.int .i64 0),(.int .i64 0),(.int .i64 0),(.int .i64 0),(.int .i64 0),(.int .i64 0),(.int .i64 0),(.int .i64 0),(.int .i64 0)] 1856 false false)),(210,(.mk (.struct [(0,(4,1)),(1,(3,1)),(2,(208,232))]) 234 [(.bool false),(.int .i64 0),(.int .i64 0),(.int .i64 0),(.int .i64 0),(.int .i64 0),(.int .i64 0),(.int .i64 0),(.int .i64 0),(.int .i64 0),(.int .i64 0),(.int .i64 0),(.int .i64 0),(.int .i64 0),(.int .i64 0),(.int .i64 0),(.int .i64 0),(.int .i64 0),(.int .i64 0),(.int .i64 0),(.int .i64 0),(.int .i64 0),(.int .i64 0),(.int .i64 0),(.int .i64 0),(.int .i64 0),(.int .i64 0),(.int .i64 0),(.int .i64 0),(.int .i64 0),(.int .i64 0),(.int .i64 0),(.int .i64 0),(.int .i64 0),(.int .i64 0),(.int .i64 0),(.int .i64 0),(.int .i64 0),(.int .i64 0),(.int .i64 0),(.int .i64 0),(.int .i64 0),(.int .i64 0),(.int .i64 0),(.int .i64 0),(.int .i64 0),(.int .i64 0),(.int .i64 0),(.int .i64 0),(.int .i64 0),(.int .i64 0),(.int .i64 0),(.int .i64 0),(.int .i64 0),(.int .i64 0),(.int .i64 0),(.int .i64 0),(.int .i64 0),(.int .i64 0),(.int .i64 0),(.int .i64 0),(.int .i64 0),(.int .i64 0),(.int .i64 0),(.int .i64 0),(.int .i64 0),(.int .i64 0),(.int .i64 0),(.int .i64 0),(.int .i64 0),(.int .i64 0),(.int .i64 0),(.int .i64 0),(.int .i64 0),(.int .i64 0),(.int .i64 0),(.int .i64 0),(.int .i64 0),(.int .i64 0),(.int .i64 0),(.int .i64 0),(.int .i64 0),(.int .i64 0),(.int .i64 0),(.int .i64 0),(.int .i64 0),(.int .i64 0),(.int .i64 0),(.int .i64 0),(.int .i64 0),(.int .i64 0),(.int .i64 0),(.int .i64 0),(.int .i64 0),(.int .i64 0),(.int .i64 0),(.int .i64 0),(.int .i64 0),(.int .i64 0),(.int .i64 0),(.int .i64 0),(.int .i64 0),(.int .i64 0),(.int .i64 0),(.int .i64 0),(.int .i64 0),(.int .i64 0),(.int .i64 0),(.int .i64 0),(.int .i64 0),(.int .i64 0),(.int .i64 0),(.int .i64 0),(.int .i64 0),(.int .i64 0),(.int .i64 0),(.int .i64 0),(.int .i64 0),(.int .i64 0),(.int .i64 0),(.int .i64 0),(.int .i64 0),(.int .i64 0),(.int .i64 0),(.int .i64 0),(.int .i64 0),(.int .i64 0),(.int .i64 0),(.int .i64 0),(.int .i64 0),(.int .i64 0),(.int .i64 0),(.int .i64 0),(.int .i64 0),(.int .i64 0),(.int .i64 0),(.int .i64 0),(.int .i64 0),(.int .i64 0),(.int .i64 0),(.int .i64 0),(.int .i64 0),(.int .i64 0),(.int .i64 0),(.int .i64 0),(.int .i64 0),(.int .i64 0),(.int .i64 0),(.int .i64 0),(.int .i64 0),(.int .i64 0),(.int .i64 0),(.int .i64 0),(.int .i64 0),(.int .i64 0),(.int .i64 0),(.int .i64 0),(.int .i64 0),(.int .i64 0),(.int .i64 0),(.int .i64 0),(.int .i64 0),(.int .i64 0),(.int .i64 0),(.int .i64 0),(.int .i64 0),(.int .i64 0),(.int .i64 0),(.int .i64 0),(.int .i64 0),(.int .i64 0),(.int .i64 0),(.int .i64 0),(.int .i64 0),(.int .i64 0),(.int .i64 0),(.int .i64 0),(.int .i64 0),(.int .i64 0),(.int .i64 0),(.int .i64 0),(.int .i64 0),(.int .i64 0),(.int .i64 0),(.int .i64 0),(.int .i64 0),(.int .i64 0),(.int .i64 0),(.int .i64 0),(.int .i64 0),(.int .i64 0),(.int .i64 0),(.int .i64 0),(.int .i64 0),(.int .i64 0),(.int .i64 0),(.int .i64 0),(.int .i64 0),(.int .i64 0),(.int .i64 0),(.int .i64 0),(.int .i64 0),(.int .i64 0),(.int .i64 0),(.int .i64 0),(.int .i64 0),(.int .i64 0),(.int .i64 0),(.int .i64 0),(.int .i64 0),(.int .i64 0),(.int .i64 0),(.int .i64 0),(.int .i64 0),(.int .i64 0),(.int .i64 0),(.int .i64 0),(.int .i64 0),(.int .i64 0),(.int .i64 0),(.int .i64 0),(.int .i64 0),(.int .i64 0),(.int .i64 0),(.int .i64 0),(.int .i64 0),(.int .i64 0),(.int .i64 0),(.int .i64 0),(.int .i64 0),(.int .i64 0),(.int .i64 0),(.int .i64 0),(.int .i64 0)] 1872 true true)),(216,(.mk .func 1 [.nilFunc] 8 false false)),(223,(.mk (.struct [(0,(38,2)),(2,(38,2)),(4,(36,1))]) 5 [(.string (.mk (.mk []))),(.string (.mk (.mk []))),(.string (.mk (.mk []))),(.string (.mk (.mk []))),(.string (.mk (.mk [])))] 80 true true)),(227,(.mk (.array 3 3 1) 3 [(.int .i64 0),(.int .i64 0),(.int .i64 0)] 24 false false)),(228,(.mk (.array 2 227 3) 6 [(.int .i64 0),(.int .i64 0),(.int .i64 0),(.int .i64 0),(.int .i64 0),(.int .i64 0)] 48 false false)),(252,(.mk (.ptr 267) 1 [(.pointer .none)] 8 false false)),(264,(.mk .func 1 [.nilFunc] 8 false false)),(265,(.mk (.ptr 5) 1 [(.pointer .none)] 8 false false)),(267,(.mk (.struct [(0,(26,1))]) 1 [(.int .i64 0)] 8 true true)),(269,(.mk .func 1 [.nilFunc] 8 false false)),(270,(.mk .func 1 [.nilFunc] 8 false false)),(288,(.mk (.int .u32) 1 [(.int .u32 0)] 4 false false)),(296,(.mk (.int .u64) 1 [(.int .u64 0)] 8 false false)),(316,(.mk (.array 20 296 1) 20 [(.int .u64 0),(.int .u64 0),(.int .u64 0),(.int .u64 0),(.int .u64 0),(.int .u64 0),(.int .u64 0),(.int .u64 0),(.int .u64 0),(.int .u64 0),(.int .u64 0),(.int .u64 0),(.int .u64 0),(.int .u64 0),(.int .u64 0),(.int .u64 0),(.int .u64 0),(.int .u64 0),(.int .u64 0),(.int .u64 0)] 160 false false)),(324,(.mk (.array 0 16 1) 0 [] 0 false false)),(326,(.mk (.struct [(0,(324,0))]) 0 [] 0 false true)),(328,(.mk (.int .u8) 1 [(.int .u8 0)] 1 false false)),(329,(.mk (.int .u8) 1 [(.int .u8 0)] 1 false false)),(330,(.mk .func 1 [.nilFunc] 8 false false)),(331,(.mk (.int .i32) 1 [(.int .i32 0)] 4 false false)),(332,(.mk (.int .i32) 1 [(.int .i32 0)] 4 false false)),(334,(.mk (.struct [(0,(12,1)),(1,(12,1)),(2,(288,1)),(3,(328,1)),(4,(5,1)),(5,(5,1)),(6,(329,1)),(7,(330,1)),(8,(265,1)),(9,(331,1)),(10,(332,1))]) 11 [(.int .u64 0),(.int .u64 0),(.int .u32 0),(.int .u8 0),(.int .u8 0),(.int .u8 0),(.int .u8 0),.nilFunc,(.pointer .none),(.int .i32 0),(.int .i32 0)] 48 false true))]
noncomputable def qe:List (Nat×AV):=[(6,(.eptr [.int .u64,.int .u64,.int .u64,.int .u64,.int .u64,.int .u64,.int .u64,.int .u64,.int .u64,.int .u64,.int .u64,.int .u64,.int .u64,.int .u64,.int .u64,.int .u64,.int .u64,.int .u64,.int .u64,.int .u64] [[.i 1,.i 10,.i 100,.i 1000,.i 10000,.i 100000,.i 1000000,.i 10000000,.i 100000000,.i 1000000000,.i 10000000000,.i 100000000000,.i 1000000000000,.i 10000000000000,.i 100000000000000,.i 1000000000000000,.i 10000000000000000,.i 100000000000000000,.i 1000000000000000000,.i 10000000000000000000]] 0 0))]
theorem qa:qat.map (fun x=>qq4 Tryz.prog x.1)=qat.map (·.2):=by kernel_rfl
theorem qh:Tryz.prog.follows .mixedOrders=true:=by kernel_rfl
noncomputable def qj(s:List (FuncId×(List AV→List Blk→Tree (AV×List Blk))))(b:List (FuncId×Func))(l:List ((FuncId×Nat)×(St→Tree (Ex×St))))(n:Nat):Env:=⟨qat,qe,s,b,l,n,[]⟩
def q7x:FIn:=⟨[(.agg [.str,.str,.str])],[]⟩
def q7L:List FOut:=[⟨.bool,[],none⟩]
def q8U:Tmpl:={ t:=(zd 13 ((.vec 1)::(.int .i64)::(.int .i64)::zd 7 [])),h:=[.dead,.vec 36 [.str]] }
def q8E:List Out:=[⟨(.exit 0),{ t:=(zd 23 []),h:=[] }⟩,⟨.ret,{ t:=(.any::.any::.bool::zd 20 []),h:=[] }⟩]
noncomputable def q56:=qj [] [(60,Tryz.f60)] [] 0
noncomputable def u5:=vA q56 60 Tryz.f60 3 q8U q8E
theorem qiv:qA Tryz.prog qe q56.nimp (qW Tryz.prog q56.iter 60) (zU Tryz.f60 3) (qv q8U q8E (qf u5)):=
 gk q56 qh qa aln aln (b1 Tryz.func60) Tryz.func60
noncomputable def qiK:=qj [] [(60,Tryz.f60)] [((60,3),qv q8U q8E (qf u5))] 0
noncomputable def q0W:=qT qiK 60 Tryz.f60 true q7x q7L
theorem qdb:wg Tryz.prog qe 60 (qc q7x q7L q0W):=sk qiK qh qa aln (alc (lk Tryz.func60 qiv) aln) (b1 Tryz.func60) Tryz.func60
def qbY:FIn:=⟨[(.imm [.str,.str,.str])],[]⟩
def qcr:List FOut:=[⟨.bool,[],none⟩]
def qbU:Tmpl:={ t:=((.imm [.str,.str,.str])::.any::.any::(.int .i64)::zd 29 []),h:=[] }
def qbO:List Out:=[⟨(.exit 0),{ t:=((.imm [.str,.str,.str])::zd 32 []),h:=[] }⟩,⟨.ret,{ t:=(.any::.any::.bool::zd 30 []),h:=[] }⟩]
noncomputable def q80:=qj [(60,qc q7x q7L q0W)] [(15,Tryz.f15)] [] 0
noncomputable def jK:=vA q80 15 Tryz.f15 3 qbU qbO
theorem qkA:qA Tryz.prog qe q80.nimp (qW Tryz.prog q80.iter 15) (zU Tryz.f15 3) (qv qbU qbO (qf jK)):=
 gk q80 qh qa (alc qdb aln) aln (b1 Tryz.func15) Tryz.func15
noncomputable def qmx:=qj [(60,qc q7x q7L q0W)] [(15,Tryz.f15)] [((15,3),qv qbU qbO (qf jK))] 0
noncomputable def q4a:=qT qmx 15 Tryz.f15 true qbY qcr
theorem qgd:wg Tryz.prog qe 15 (qc qbY qcr q4a):=sk qmx qh qa (alc qdb aln) (alc (lk Tryz.func15 qkA) aln) (b1 Tryz.func15) Tryz.func15
def q22:FIn:=⟨[.str,.str],[]⟩
def q25:List FOut:=[⟨(.int .i64),[],none⟩]
noncomputable def qY:List PV→TR:=qqh
theorem q5N:wg Tryz.prog qe 217 (qc q22 q25 qY):=qrD Tryz.lays219 (q2b Tryz.func217 (by kernel_rfl) (by kernel_rfl))
def ut:FIn:=⟨[.str,.str],[]⟩
def ur:List FOut:=[⟨(.tuple [.str,.str,.bool]),[],none⟩]
noncomputable def q2Y:=qj [(217,qc q22 q25 qY)] [(184,Tryz.f184)] [] 0
noncomputable def zv:=qT q2Y 184 Tryz.f184 true ut ur
theorem q7m:wg Tryz.prog qe 184 (qc ut ur zv):=sk q2Y qh qa (alc q5N aln) aln (b1 Tryz.func184) Tryz.func184
def qcJ:FIn:=⟨[.str,.str],[]⟩
def qcc:List FOut:=[⟨(.tuple [.str,.str,.bool]),[],none⟩]
noncomputable def qi3:=qj [(184,qc ut ur zv)] [(152,Tryz.f152)] [] 0
noncomputable def jf:=qT qi3 152 Tryz.f152 true qcJ qcc
theorem qky:wg Tryz.prog qe 152 (qc qcJ qcc jf):=sk qi3 qh qa (alc q7m aln) aln (b1 Tryz.func152) Tryz.func152
def q2h:FIn:=⟨[.str],[]⟩
def q2o:List FOut:=[⟨(.tuple [.str,.str,.bool]),[],none⟩]
noncomputable def qm0:=qj [(152,qc qcJ qcc jf)] [(112,Tryz.f112)] [] 0
noncomputable def q8:=qT qm0 112 Tryz.f112 true q2h q2o
theorem q1A:wg Tryz.prog qe 112 (qc q2h q2o q8):=sk qm0 qh qa (alc qky aln) aln (b1 Tryz.func112) Tryz.func112
def wW:FIn:=⟨[.str,.str],[]⟩
def wV:List FOut:=[⟨.bool,[],none⟩]
noncomputable def q02:=qj [] [(218,Tryz.f218)] [] 0
noncomputable def qV:=qT q02 218 Tryz.f218 true wW wV
theorem um:wg Tryz.prog qe 218 (qc wW wV qV):=sk q02 qh qa aln aln (b1 Tryz.func218) Tryz.func218
def je:FIn:=⟨[.str,.str],[]⟩
def j9:List FOut:=[⟨.str,[],none⟩]
noncomputable def uX:=qj [(218,qc wW wV qV)] [(185,Tryz.f185)] [] 0
noncomputable def zp:=qT uX 185 Tryz.f185 true je j9
theorem q3h:wg Tryz.prog qe 185 (qc je j9 zp):=sk uX qh qa (alc um aln) aln (b1 Tryz.func185) Tryz.func185
def ji:FIn:=⟨[.str,.str],[]⟩
def jh:List FOut:=[⟨.str,[],none⟩]
noncomputable def q7n:=qj [(185,qc je j9 zp)] [(153,Tryz.f153)] [] 0
noncomputable def ql:=qT q7n 153 Tryz.f153 true ji jh
theorem yF:wg Tryz.prog qe 153 (qc ji jh ql):=sk q7n qh qa (alc q3h aln) aln (b1 Tryz.func153) Tryz.func153
def qga:FIn:=⟨[.str,.str],[]⟩
def qfR:List FOut:=[⟨.str,[],none⟩]
noncomputable def q3z:List PV→TR:=qv5
theorem qjm:wg Tryz.prog qe 154 (qc qga qfR q3z):=quK Tryz.lays160 (q2b Tryz.func154 (by kernel_rfl) (by kernel_rfl)) (by kernel_rfl)
def uT:FIn:=⟨[.str],[]⟩
def uZ:List FOut:=[⟨(.int .i64),[],none⟩]
noncomputable def qiW:=qj [(153,qc ji jh ql),(154,qc qga qfR q3z)] [(113,Tryz.f113)] [] 0
noncomputable def qJ:=qT qiW 113 Tryz.f113 true uT uZ
theorem uD:wg Tryz.prog qe 113 (qc uT uZ qJ):=sk qiW qh qa (alc yF (alc qjm aln)) aln (b1 Tryz.func113) Tryz.func113
def kw:FIn:=⟨[(.imm [.str])],[]⟩
def kL:List FOut:=[⟨(.int .i64),[],none⟩]
def qcL:Tmpl:={ t:=(zd 6 ((.imm [.str])::(.int .i64)::(.int .i64)::zd 9 [])),h:=[] }
def qcB:List Out:=[⟨(.exit 0),{ t:=(zd 18 []),h:=[] }⟩,⟨.ret,{ t:=(.any::.any::(.int .i64)::zd 15 []),h:=[] }⟩]
noncomputable def q7U:=qj [(113,qc uT uZ qJ)] [(155,Tryz.f155)] [] 0
noncomputable def q1f:=vA q7U 155 Tryz.f155 3 qcL qcB
theorem qkL:qA Tryz.prog qe q7U.nimp (qW Tryz.prog q7U.iter 155) (zU Tryz.f155 3) (qv qcL qcB (qf q1f)):=
 gk q7U qh qa (alc uD aln) aln (b1 Tryz.func155) Tryz.func155
noncomputable def qmX:=qj [(113,qc uT uZ qJ)] [(155,Tryz.f155)] [((155,3),qv qcL qcB (qf q1f))] 0
noncomputable def zo:=qT qmX 155 Tryz.f155 true kw kL
theorem yQ:wg Tryz.prog qe 155 (qc kw kL zo):=sk qmX qh qa (alc uD aln) (alc (lk Tryz.func155 qkL) aln) (b1 Tryz.func155) Tryz.func155
def q6x:FIn:=⟨[.str],[]⟩
def q6s:List FOut:=[⟨(.int .i64),[],none⟩]
noncomputable def qjZ:=qj [] [(156,Tryz.f156)] [] 0
noncomputable def zS:=qT qjZ 156 Tryz.f156 true q6x q6s
theorem q9c:wg Tryz.prog qe 156 (qc q6x q6s zS):=sk qjZ qh qa aln aln (b1 Tryz.func156) Tryz.func156
def qbr:FIn:=⟨[.str,.str],[]⟩
def qbJ:List FOut:=[⟨(.int .i64),[],none⟩]
noncomputable def q0m:List PV→TR:=qkW
theorem qfl:wg Tryz.prog qe 193 (qc qbr qbJ q0m):=qoB Tryz.lays106 (q2b Tryz.func193 (by kernel_rfl) (by kernel_rfl))
def qc8:FIn:=⟨[.str,.str],[]⟩
def qcl:List FOut:=[⟨(.int .i64),[],none⟩]
noncomputable def qiM:=qj [(193,qc qbr qbJ q0m)] [(157,Tryz.f157)] [] 0
noncomputable def q2z:=qT qiM 157 Tryz.f157 true qc8 qcl
theorem qkH:wg Tryz.prog qe 157 (qc qc8 qcl q2z):=sk qiM qh qa (alc qfl aln) aln (b1 Tryz.func157) Tryz.func157
def q8F:FIn:=⟨[.str,.str],[]⟩
def q8W:List FOut:=[⟨(.tuple [(.int .i64),(.int .i64)]),[],none⟩]
noncomputable def qdL:=qj [(153,qc ji jh ql),(155,qc kw kL zo),(156,qc q6x q6s zS),(157,qc qc8 qcl q2z)] [(114,Tryz.f114)] [] 0
noncomputable def ui:=qT qdL 114 Tryz.f114 true q8F q8W
theorem qhX:wg Tryz.prog qe 114 (qc q8F q8W ui):=sk qdL qh qa (alc yF (alc yQ (alc q9c (alc qkH aln)))) aln (b1 Tryz.func114) Tryz.func114
def q65:FIn:=⟨[.str],[]⟩
def q61:List FOut:=[⟨(.tuple [(.int .i64),.any]),[],none⟩]
noncomputable def vu:List PV→TR:=qwO
theorem q5v:wg Tryz.prog qe 194 (qc q65 q61 vu):=qu3 Tryz.lays172 (q2b Tryz.func194 (by kernel_rfl) (by kernel_rfl))
def wl:FIn:=⟨[(.ptr 0 0)],[.big [.bool,(.int .i64)] .i64 232]⟩
def wk:List FOut:=[⟨(.ptr 0 0),[.big [.bool,(.int .i64)] .i64 232],none⟩]
def q1M:Tmpl:={ t:=((.ptr 0 0)::zd 28 []),h:=[.big [.bool,(.int .i64)] .i64 232] }
def q1J:List Out:=[⟨(.exit 0),{ t:=((.ptr 0 0)::zd 28 []),h:=[.big [.bool,(.int .i64)] .i64 232] }⟩]
noncomputable def uo:=qj [] [(195,Tryz.f195)] [] 1
noncomputable def wj:=vA uo 195 Tryz.f195 2 q1M q1J
theorem qaX:qA Tryz.prog qe uo.nimp (qW Tryz.prog uo.iter 195) (zU Tryz.f195 2) (qv q1M q1J (qf wj)):=
 gk uo qh qa aln aln (b1 Tryz.func195) Tryz.func195
noncomputable def q7o:=qj [] [(195,Tryz.f195)] [((195,2),qv q1M q1J (qf wj))] 1
noncomputable def qG:=qT q7o 195 Tryz.f195 false wl wk
theorem wF:wg Tryz.prog qe 195 (qc wl wk qG):=qmm (E:=q7o) qh ⟨q9s qa,aln,(alc (lk Tryz.func195 qaX) aln),(b1 Tryz.func195)⟩ Tryz.func195 (by kernel_rfl) (by kernel_rfl) (fun _=>rfl)
def kg:FIn:=⟨[.str],[]⟩
def uQ:List FOut:=[⟨(.ptr 0 0),[.big [.bool,(.int .i64)] .i64 232],none⟩]
def qaT:Tmpl:={ t:=(.any::.any::.any::.str::(.ptr 0 0)::zd 43 []),h:=[.big [.bool,(.int .i64)] .i64 232] }
def qaQ:List Out:=[⟨(.exit 0),{ t:=(zd 4 ((.ptr 0 0)::zd 43 [])),h:=[.big [.bool,(.int .i64)] .i64 232] }⟩]
noncomputable def q6a:=qj [(153,qc ji jh ql),(194,qc q65 q61 vu),(195,qc wl wk qG)] [(158,Tryz.f158)] [] 0
noncomputable def zx:=vA q6a 158 Tryz.f158 5 qaT qaQ
theorem qjK:qA Tryz.prog qe q6a.nimp (qW Tryz.prog q6a.iter 158) (zU Tryz.f158 5) (qv qaT qaQ (qf zx)):=
 gk q6a qh qa (alc yF (alc q5v (alc wF aln))) aln (b1 Tryz.func158) Tryz.func158
noncomputable def qjY:=qj [(153,qc ji jh ql),(194,qc q65 q61 vu),(195,qc wl wk qG)] [(158,Tryz.f158)] [((158,5),qv qaT qaQ (qf zx))] 0
noncomputable def qk:=qT qjY 158 Tryz.f158 false kg uQ
theorem uj:wg Tryz.prog qe 158 (qc kg uQ qk):=qmm (E:=qjY) qh ⟨q9s qa,(alc yF (alc q5v (alc wF aln))),(alc (lk Tryz.func158 qjK) aln),(b1 Tryz.func158)⟩ Tryz.func158 (by kernel_rfl) (by kernel_rfl) (fun _=>rfl)
def qfK:FIn:=⟨[(.int .i64)],[]⟩
def qfY:List FOut:=[⟨.str,[],none⟩]
noncomputable def q3x:List PV→TR:=qwg
theorem qjH:wg Tryz.prog qe 196 (qc qfK qfY q3x):=qus Tryz.laysM171 (q2b Tryz.func196 (by kernel_rfl) (by kernel_rfl)) (by kernel_rfl) (by unfold qe;exact List.mem_cons_self)
def q5G:FIn:=⟨[(.int .i64)],[]⟩
def q5F:List FOut:=[⟨.str,[],none⟩]
noncomputable def qos:=qj [(196,qc qfK qfY q3x)] [(159,Tryz.f159)] [] 0
noncomputable def vm:=qT qos 159 Tryz.f159 true q5G q5F
theorem q4N:wg Tryz.prog qe 159 (qc q5G q5F vm):=sk qos qh qa (alc qjH aln) aln (b1 Tryz.func159) Tryz.func159
def ju:FIn:=⟨[(.ptr 0 0),(.ptr 1 0)],[.big [.bool,(.int .i64)] .i64 232,.big [.bool,(.int .i64)] .i64 232]⟩
def jx:List FOut:=[⟨(.int .i64),[.big [.bool,(.int .i64)] .i64 232,.big [.bool,(.int .i64)] .i64 232],none⟩]
def q2d:Tmpl:={ t:=((.ptr 0 0)::(.ptr 1 0)::.any::.any::.any::(.int .i64)::zd 53 []),h:=[.big [.bool,(.int .i64)] .i64 232,.big [.bool,(.int .i64)] .i64 232] }
def q2t:List Out:=[⟨(.exit 0),{ t:=(zd 59 []),h:=[.big [.bool,(.int .i64)] .i64 232,.big [.bool,(.int .i64)] .i64 232] }⟩,⟨.ret,{ t:=(zd 4 ((.int .i64)::zd 54 [])),h:=[.big [.bool,(.int .i64)] .i64 232,.big [.bool,(.int .i64)] .i64 232] }⟩]
noncomputable def uR:=qj [] [(197,Tryz.f197)] [] 2
noncomputable def qF:=vA uR 197 Tryz.f197 6 q2d q2t
theorem qby:qA Tryz.prog qe uR.nimp (qW Tryz.prog uR.iter 197) (zU Tryz.f197 6) (qv q2d q2t (qf qF)):=
 gk uR qh qa aln aln (b1 Tryz.func197) Tryz.func197
noncomputable def q95:=qj [] [(197,Tryz.f197)] [((197,6),qv q2d q2t (qf qF))] 2
noncomputable def wG:=qT q95 197 Tryz.f197 true ju jx
theorem un:wg Tryz.prog qe 197 (qc ju jx wG):=sk q95 qh qa aln (alc (lk Tryz.func197 qby) aln) (b1 Tryz.func197) Tryz.func197
def q1n:FIn:=⟨[(.ptr 0 0),(.ptr 1 0)],[.big [.bool,(.int .i64)] .i64 232,.big [.bool,(.int .i64)] .i64 232]⟩
def q1i:List FOut:=[⟨(.int .i64),[.big [.bool,(.int .i64)] .i64 232,.big [.bool,(.int .i64)] .i64 232],none⟩]
noncomputable def qcY:=qj [] [(198,Tryz.f198),(227,Tryz.f227)] [] 2
noncomputable def yp:=qT qcY 198 Tryz.f198 true q1n q1i
theorem q48:wg Tryz.prog qe 198 (qc q1n q1i yp):=sk qcY qh qa aln aln (alc (bk Tryz.func198) (alc (bk Tryz.func227) aln)) Tryz.func198
def vb:FIn:=⟨[(.ptr 0 0),(.ptr 1 0),(.int .i64),(.int .i64)],[.big [.bool,(.int .i64)] .i64 232,.big [.bool,(.int .i64)] .i64 232]⟩
def va:List FOut:=[⟨(.tuple []),[.big [.bool,(.int .i64)] .i64 232,.big [.bool,(.int .i64)] .i64 232],none⟩]
def q3e:Tmpl:={ t:=((.ptr 0 0)::(.ptr 1 0)::(.int .i64)::(.int .i64)::zd 4 ((.int .i64)::(.int .i64)::zd 73 [])),h:=[.big [.bool,(.int .i64)] .i64 232,.big [.bool,(.int .i64)] .i64 232] }
def q35:List Out:=[⟨(.exit 0),{ t:=((.ptr 0 0)::zd 82 []),h:=[.big [.bool,(.int .i64)] .i64 232,.big [.bool,(.int .i64)] .i64 232] }⟩]
noncomputable def q06:=qj [(195,qc wl wk qG)] [(199,Tryz.f199)] [] 2
noncomputable def qC:=vA q06 199 Tryz.f199 3 q3e q35
theorem qcm:qA Tryz.prog qe q06.nimp (qW Tryz.prog q06.iter 199) (zU Tryz.f199 3) (qv q3e q35 (qf qC)):=
 gk q06 qh qa (alc wF aln) aln (b1 Tryz.func199) Tryz.func199
noncomputable def qa5:=qj [(195,qc wl wk qG)] [(199,Tryz.f199)] [((199,3),qv q3e q35 (qf qC))] 2
noncomputable def qN:=qT qa5 199 Tryz.f199 true vb va
theorem vU:wg Tryz.prog qe 199 (qc vb va qN):=sk qa5 qh qa (alc wF aln) (alc (lk Tryz.func199 qcm) aln) (b1 Tryz.func199) Tryz.func199
def q0r:FIn:=⟨[(.ptr 0 0),(.ptr 1 0)],[.big [.bool,(.int .i64)] .i64 232,.big [.bool,(.int .i64)] .i64 232]⟩
def q0N:List FOut:=[⟨(.tuple [(.ptr 2 0),(.ptr 3 0)]),[.big [.bool,(.int .i64)] .i64 232,.big [.bool,(.int .i64)] .i64 232,.big [.bool,(.int .i64)] .i64 232,.big [.bool,(.int .i64)] .i64 232],none⟩]
def q5g:Tmpl:={ t:=((.ptr 0 0)::(.ptr 1 0)::zd 4 ((.ptr 2 0)::(.ptr 3 0)::(.int .i64)::(.int .i64)::zd 80 [])),h:=[.big [.bool,(.int .i64)] .i64 232,.big [.bool,(.int .i64)] .i64 232,.big [.bool,(.int .i64)] .i64 232,.big [.bool,(.int .i64)] .i64 232] }
def q4D:List Out:=[⟨(.exit 2),{ t:=((.ptr 0 0)::(.ptr 1 0)::zd 4 ((.ptr 2 0)::(.ptr 3 0)::(.int .i64)::(.int .i64)::zd 80 [])),h:=[.big [.bool,(.int .i64)] .i64 232,.big [.bool,(.int .i64)] .i64 232,.big [.bool,(.int .i64)] .i64 232,.big [.bool,(.int .i64)] .i64 232] }⟩]
noncomputable def q1S:=qj [(195,qc wl wk qG),(197,qc ju jx wG),(198,qc q1n q1i yp),(199,qc vb va qN)] [(160,Tryz.f160)] [] 2
noncomputable def yb:=vA q1S 160 Tryz.f160 14 q5g q4D
theorem qeg:qA Tryz.prog qe q1S.nimp (qW Tryz.prog q1S.iter 160) (zU Tryz.f160 14) (qv q5g q4D (qf yb)):=
 gk q1S qh qa (alc wF (alc un (alc q48 (alc vU aln)))) aln (b1 Tryz.func160) Tryz.func160
def q5L:Tmpl:={ t:=((.ptr 0 0)::(.ptr 1 0)::zd 4 ((.ptr 2 0)::(.ptr 3 0)::(.int .i64)::zd 81 [])),h:=[.big [.bool,(.int .i64)] .i64 232,.big [.bool,(.int .i64)] .i64 232,.big [.bool,(.int .i64)] .i64 232,.big [.bool,(.int .i64)] .i64 232] }
def q5T:List Out:=[⟨(.exit 0),{ t:=(zd 6 ((.ptr 2 0)::(.ptr 3 0)::zd 82 [])),h:=[.big [.bool,(.int .i64)] .i64 232,.big [.bool,(.int .i64)] .i64 232,.big [.bool,(.int .i64)] .i64 232,.big [.bool,(.int .i64)] .i64 232] }⟩]
noncomputable def q2G:=qj [(195,qc wl wk qG),(197,qc ju jx wG),(198,qc q1n q1i yp),(199,qc vb va qN)] [(160,Tryz.f160)] [((160,14),qv q5g q4D (qf yb))] 2
noncomputable def q0c:=vA q2G 160 Tryz.f160 4 q5L q5T
theorem qfi:qA Tryz.prog qe q2G.nimp (qW Tryz.prog q2G.iter 160) (zU Tryz.f160 4) (qv q5L q5T (qf q0c)):=
 gk q2G qh qa (alc wF (alc un (alc q48 (alc vU aln)))) (alc (lk Tryz.func160 qeg) aln) (b1 Tryz.func160) Tryz.func160
noncomputable def qek:=qj [(195,qc wl wk qG),(197,qc ju jx wG),(198,qc q1n q1i yp),(199,qc vb va qN)] [(160,Tryz.f160)] [((160,4),qv q5L q5T (qf q0c))] 2
noncomputable def qX:=qT qek 160 Tryz.f160 false q0r q0N
theorem q26:wg Tryz.prog qe 160 (qc q0r q0N qX):=qmm (E:=qek) qh ⟨q9s qa,(alc wF (alc un (alc q48 (alc vU aln)))),(alc (lk Tryz.func160 qfi) aln),(b1 Tryz.func160)⟩ Tryz.func160 (by kernel_rfl) (by kernel_rfl) (fun _=>rfl)
def yZ:FIn:=⟨[(.ptr 0 0)],[.big [.bool,(.int .i64)] .i64 232]⟩
def yY:List FOut:=[⟨.str,[.big [.bool,(.int .i64)] .i64 232],none⟩]
noncomputable def qB:List PV→TR:=qvt
theorem yB:wg Tryz.prog qe 161 (qc yZ yY qB):=qug (by unfold qe;exact List.mem_cons_self)
def q8M:FIn:=⟨[.str,.str],[]⟩
def q9t:List FOut:=[⟨(.tuple [.str,(.int .i64)]),[],none⟩]
def qb4:Tmpl:={ t:=(zd 9 ((.int .i64)::(.int .i64)::zd 61 [])),h:=[] }
def qaP:List Out:=[⟨(.exit 2),{ t:=(zd 9 ((.int .i64)::zd 62 [])),h:=[] }⟩]
noncomputable def q6i:=qj [(155,qc kw kL zo),(158,qc kg uQ qk),(159,qc q5G q5F vm),(160,qc q0r q0N qX),(161,qc yZ yY qB)] [(115,Tryz.f115)] [] 0
noncomputable def yM:=vA q6i 115 Tryz.f115 14 qb4 qaP
theorem qjz:qA Tryz.prog qe q6i.nimp (qW Tryz.prog q6i.iter 115) (zU Tryz.f115 14) (qv qb4 qaP (qf yM)):=
 gk q6i qh qa (alc yQ (alc uj (alc q4N (alc q26 (alc yB aln))))) aln (b1 Tryz.func115) Tryz.func115
def qbZ:Tmpl:={ t:=(zd 7 ((.ptr 1 0)::(.ptr 2 0)::zd 63 [])),h:=[.dead,.big [.bool,(.int .i64)] .i64 232,.big [.bool,(.int .i64)] .i64 232],sw:=[(7,1),(8,2)],swn:=0 }
def qcP:List Out:=[⟨(.exit 0),{ t:=(zd 7 ((.ptr 1 0)::zd 64 [])),h:=[.dead,.big [.bool,(.int .i64)] .i64 232] }⟩,⟨.ret,{ t:=(zd 4 (.str::(.int .i64)::zd 66 [])),h:=[] }⟩]
noncomputable def q82:=qj [(155,qc kw kL zo),(158,qc kg uQ qk),(159,qc q5G q5F vm),(160,qc q0r q0N qX),(161,qc yZ yY qB)] [(115,Tryz.f115)] [((115,14),qv qb4 qaP (qf yM))] 0
noncomputable def vL:=vA q82 115 Tryz.f115 7 qbZ qcP
theorem qkv:qA Tryz.prog qe q82.nimp (qW Tryz.prog q82.iter 115) (zU Tryz.f115 7) (qv qbZ qcP (qf vL)):=
 gk q82 qh qa (alc yQ (alc uj (alc q4N (alc q26 (alc yB aln))))) (alc (lk Tryz.func115 qjz) aln) (b1 Tryz.func115) Tryz.func115
noncomputable def qlu:=qj [(155,qc kw kL zo),(158,qc kg uQ qk),(159,qc q5G q5F vm),(160,qc q0r q0N qX),(161,qc yZ yY qB)] [(115,Tryz.f115)] [((115,7),qv qbZ qcP (qf vL))] 0
noncomputable def jd:=qT qlu 115 Tryz.f115 true q8M q9t
theorem qaR:wg Tryz.prog qe 115 (qc q8M q9t jd):=sk qlu qh qa (alc yQ (alc uj (alc q4N (alc q26 (alc yB aln))))) (alc (lk Tryz.func115 qkv) aln) (b1 Tryz.func115) Tryz.func115
def ki:FIn:=⟨[.str],[]⟩
def kp:List FOut:=[⟨(.int .i64),[],none⟩]
noncomputable def qij:=qj [(112,qc q2h q2o q8),(113,qc uT uZ qJ),(114,qc q8F q8W ui),(115,qc q8M q9t jd)] [(75,Tryz.f75)] [] 0
noncomputable def zj:=qT qij 75 Tryz.f75 true ki kp
theorem uB:wg Tryz.prog qe 75 (qc ki kp zj):=sk qij qh qa (alc q1A (alc uD (alc qhX (alc qaR aln)))) aln (b1 Tryz.func75) Tryz.func75
def uK:FIn:=⟨[(.agg [.str,.str,.str])],[]⟩
def uL:List FOut:=[⟨(.int .i64),[],none⟩]
def q8Z:Tmpl:={ t:=(.any::(.ptr 0 0)::zd 12 ((.vec 1)::(.int .i64)::(.int .i64)::zd 13 [])),h:=[.cells [.str,.str,.str],.vec 36 [.str]] }
def q8K:List Out:=[⟨(.exit 0),{ t:=(.any::(.ptr 0 0)::zd 28 []),h:=[.cells [.str,.str,.str]] }⟩,⟨.ret,{ t:=(.any::.any::(.int .i64)::zd 27 []),h:=[] }⟩]
noncomputable def q4B:=qj [(75,qc ki kp zj)] [(74,Tryz.f74)] [] 0
noncomputable def j7:=vA q4B 74 Tryz.f74 3 q8Z q8K
theorem qhG:qA Tryz.prog qe q4B.nimp (qW Tryz.prog q4B.iter 74) (zU Tryz.f74 3) (qv q8Z q8K (qf j7)):=
 gk q4B qh qa (alc uB aln) aln (b1 Tryz.func74) Tryz.func74
noncomputable def qhA:=qj [(75,qc ki kp zj)] [(74,Tryz.f74)] [((74,3),qv q8Z q8K (qf j7))] 0
noncomputable def wt:=qT qhA 74 Tryz.f74 true uK uL
theorem uz:wg Tryz.prog qe 74 (qc uK uL wt):=sk qhA qh qa (alc uB aln) (alc (lk Tryz.func74 qhG) aln) (b1 Tryz.func74) Tryz.func74
def vj:FIn:=⟨[(.imm [.str,.str,.str])],[]⟩
def vg:List FOut:=[⟨(.int .i64),[],none⟩]
def qaA:Tmpl:={ t:=((.imm [.str,.str,.str])::zd 8 ((.imm [.str,.str,.str])::(.int .i64)::(.int .i64)::zd 12 [])),h:=[] }
def qaS:List Out:=[⟨(.exit 0),{ t:=((.imm [.str,.str,.str])::zd 23 []),h:=[] }⟩,⟨.ret,{ t:=(.any::.any::(.int .i64)::zd 21 []),h:=[] }⟩]
noncomputable def q5V:=qj [(74,qc uK uL wt)] [(62,Tryz.f62)] [] 0
noncomputable def yS:=vA q5V 62 Tryz.f62 6 qaA qaS
theorem qjR:qA Tryz.prog qe q5V.nimp (qW Tryz.prog q5V.iter 62) (zU Tryz.f62 6) (qv qaA qaS (qf yS)):=
 gk q5V qh qa (alc uz aln) aln (b1 Tryz.func62) Tryz.func62
noncomputable def qk0:=qj [(74,qc uK uL wt)] [(62,Tryz.f62)] [((62,6),qv qaA qaS (qf yS))] 0
noncomputable def zi:=qT qk0 62 Tryz.f62 true vj vg
theorem wL:wg Tryz.prog qe 62 (qc vj vg zi):=sk qk0 qh qa (alc uz aln) (alc (lk Tryz.func62 qjR) aln) (b1 Tryz.func62) Tryz.func62
def q5j:FIn:=⟨[.str,.str],[]⟩
def q4H:List FOut:=[⟨(.tuple [(.int .i64),(.int .i64),.bool]),[],none⟩]
noncomputable def qiy:=qj [(194,qc q65 q61 vu)] [(257,Tryz.f257)] [] 0
noncomputable def wo:=qT qiy 257 Tryz.f257 true q5j q4H
theorem q7f:wg Tryz.prog qe 257 (qc q5j q4H wo):=sk qiy qh qa (alc q5v aln) aln (b1 Tryz.func257) Tryz.func257
def q6f:FIn:=⟨[(.int .i64)],[]⟩
def q6h:List FOut:=[⟨(.tuple [.str,(.int .i64)]),[],none⟩]
noncomputable def qfO:=qj [(159,qc q5G q5F vm)] [(258,Tryz.f258)] [] 0
noncomputable def jE:=qT qfO 258 Tryz.f258 true q6f q6h
theorem qbH:wg Tryz.prog qe 258 (qc q6f q6h jE):=sk qfO qh qa (alc q4N aln) aln (b1 Tryz.func258) Tryz.func258
def yC:FIn:=⟨[(.ptr 0 0)],[.big [.bool,(.int .i64)] .i64 232]⟩
def yw:List FOut:=[⟨(.tuple [.str,(.int .i64)]),[.big [.bool,(.int .i64)] .i64 232],none⟩]
noncomputable def q7q:=qj [(113,qc uT uZ qJ),(161,qc yZ yY qB)] [(260,Tryz.f260)] [] 1
noncomputable def zI:=qT q7q 260 Tryz.f260 true yC yw
theorem q13:wg Tryz.prog qe 260 (qc yC yw zI):=sk q7q qh qa (alc uD (alc yB aln)) aln (b1 Tryz.func260) Tryz.func260
def q09:FIn:=⟨[(.ptr 0 0),(.ptr 1 0)],[.big [.bool,(.int .i64)] .i64 232,.big [.bool,(.int .i64)] .i64 232]⟩
def q0O:List FOut:=[⟨(.tuple []),[.big [.bool,(.int .i64)] .i64 232,.big [.bool,(.int .i64)] .i64 232],none⟩]
noncomputable def qbB:=qj [(197,qc ju jx wG),(199,qc vb va qN)] [(274,Tryz.f274)] [] 2
noncomputable def zN:=qT qbB 274 Tryz.f274 true q09 q0O
theorem q3a:wg Tryz.prog qe 274 (qc q09 q0O zN):=sk qbB qh qa (alc un (alc vU aln)) aln (b1 Tryz.func274) Tryz.func274
def qgm:FIn:=⟨[(.imm [.str])],[]⟩
def qgJ:List FOut:=[⟨(.tuple [.str,(.int .i64)]),[],none⟩]
def qc1:Tmpl:={ t:=(zd 4 ((.ptr 0 0)::zd 4 ((.imm [.str])::(.int .i64)::(.int .i64)::zd 12 []))),h:=[.big [.bool,(.int .i64)] .i64 232] }
def qcs:List Out:=[⟨(.exit 0),{ t:=(zd 4 ((.ptr 0 0)::zd 19 [])),h:=[.big [.bool,(.int .i64)] .i64 232] }⟩]
noncomputable def q89:=qj [(158,qc kg uQ qk),(260,qc yC yw zI),(274,qc q09 q0O zN)] [(261,Tryz.f261)] [] 0
noncomputable def wS:=vA q89 261 Tryz.f261 4 qc1 qcs
theorem qkM:qA Tryz.prog qe q89.nimp (qW Tryz.prog q89.iter 261) (zU Tryz.f261 4) (qv qc1 qcs (qf wS)):=
 gk q89 qh qa (alc uj (alc q13 (alc q3a aln))) aln (b1 Tryz.func261) Tryz.func261
noncomputable def qlV:=qj [(158,qc kg uQ qk),(260,qc yC yw zI),(274,qc q09 q0O zN)] [(261,Tryz.f261)] [((261,4),qv qc1 qcs (qf wS))] 0
noncomputable def q49:=qT qlV 261 Tryz.f261 true qgm qgJ
theorem qnm:wg Tryz.prog qe 261 (qc qgm qgJ q49):=sk qlV qh qa (alc uj (alc q13 (alc q3a aln))) (alc (lk Tryz.func261 qkM) aln) (b1 Tryz.func261) Tryz.func261
def q9e:FIn:=⟨[.str,.str],[]⟩
def q9C:List FOut:=[⟨(.tuple [.str,(.int .i64)]),[],none⟩]
noncomputable def qlP:=qj [(155,qc kw kL zo),(257,qc q5j q4H wo),(258,qc q6f q6h jE),(261,qc qgm qgJ q49)] [(236,Tryz.f236)] [] 0
noncomputable def jc:=qT qlP 236 Tryz.f236 true q9e q9C
theorem qaq:wg Tryz.prog qe 236 (qc q9e q9C jc):=sk qlP qh qa (alc yQ (alc q7f (alc qbH (alc qnm aln)))) aln (b1 Tryz.func236) Tryz.func236
def q6O:FIn:=⟨[.str],[]⟩
def q7e:List FOut:=[⟨.str,[],none⟩]
noncomputable def qdc:=qj [(156,qc q6x q6s zS)] [(256,Tryz.f256)] [] 0
noncomputable def jl:=qT qdc 256 Tryz.f256 true q6O q7e
theorem qgK:wg Tryz.prog qe 256 (qc q6O q7e jl):=sk qdc qh qa (alc q9c aln) aln (b1 Tryz.func256) Tryz.func256
def qc4:FIn:=⟨[.str,.str],[]⟩
def qbT:List FOut:=[⟨(.tuple [.str,(.int .i64)]),[],none⟩]
noncomputable def qmu:=qj [(155,qc kw kL zo),(236,qc q9e q9C jc),(256,qc q6O q7e jl)] [(233,Tryz.f233)] [] 0
noncomputable def kJ:=qT qmu 233 Tryz.f233 true qc4 qbT
theorem qg6:wg Tryz.prog qe 233 (qc qc4 qbT kJ):=sk qmu qh qa (alc yQ (alc qaq (alc qgK aln))) aln (b1 Tryz.func233) Tryz.func233
def kM:FIn:=⟨[(.ptr 0 0),(.fn 233 [] []),.str,.str],[.cells [(.int .i64)]]⟩
def kU:List FOut:=[⟨.str,[.cells [(.int .i64)]],none⟩]
noncomputable def q3k:=qj [(233,qc qc4 qbT kJ)] [(232,Tryz.f232)] [] 1
noncomputable def zX:=qT q3k 232 Tryz.f232 true kM kU
theorem q7M:wg Tryz.prog qe 232 (qc kM kU zX):=sk q3k qh qa (alc qg6 aln) aln (b1 Tryz.func232) Tryz.func232
def uF:FIn:=⟨[(.ptr 0 0),.str,.str],[.cells [(.int .i64)]]⟩
def uw:List FOut:=[⟨.str,[.cells [(.int .i64)]],none⟩]
noncomputable def qdn:=qj [(233,qc qc4 qbT kJ),(232,qc kM kU zX)] [(206,Tryz.f206)] [] 1
noncomputable def zm:=qT qdn 206 Tryz.f206 true uF uw
theorem q19:wg Tryz.prog qe 206 (qc uF uw zm):=sk qdn qh qa (alc qg6 (alc q7M aln)) aln (b1 Tryz.func206) Tryz.func206
def q4X:FIn:=⟨[(.ptr 0 0),(.ptr 1 0)],[.big [.bool,(.int .i64)] .i64 232,.big [.bool,(.int .i64)] .i64 232]⟩
def q5b:List FOut:=[⟨(.ptr 2 0),[.big [.bool,(.int .i64)] .i64 232,.big [.bool,(.int .i64)] .i64 232,.big [.bool,(.int .i64)] .i64 232],none⟩]
def q34:Tmpl:={ t:=((.ptr 0 0)::(.ptr 1 0)::.any::.any::.any::(.ptr 2 0)::zd 15 ((.int .i64)::(.int .i64)::zd 14 [])),h:=[.big [.bool,(.int .i64)] .i64 232,.big [.bool,(.int .i64)] .i64 232,.big [.bool,(.int .i64)] .i64 232] }
def q38:List Out:=[⟨(.exit 0),{ t:=(zd 5 ((.ptr 2 0)::zd 31 [])),h:=[.big [.bool,(.int .i64)] .i64 232,.big [.bool,(.int .i64)] .i64 232,.big [.bool,(.int .i64)] .i64 232] }⟩]
noncomputable def q03:=qj [(199,qc vb va qN)] [(259,Tryz.f259)] [] 2
noncomputable def zg:=vA q03 259 Tryz.f259 4 q34 q38
theorem qcD:qA Tryz.prog qe q03.nimp (qW Tryz.prog q03.iter 259) (zU Tryz.f259 4) (qv q34 q38 (qf zg)):=
 gk q03 qh qa (alc vU aln) aln (b1 Tryz.func259) Tryz.func259
noncomputable def qa8:=qj [(199,qc vb va qN)] [(259,Tryz.f259)] [((259,4),qv q34 q38 (qf zg))] 2
noncomputable def uM:=qT qa8 259 Tryz.f259 false q4X q5b
theorem qeG:wg Tryz.prog qe 259 (qc q4X q5b uM):=qmm (E:=qa8) qh ⟨q9s qa,(alc vU aln),(alc (lk Tryz.func259 qcD) aln),(b1 Tryz.func259)⟩ Tryz.func259 (by kernel_rfl) (by kernel_rfl) (fun _=>rfl)
def q9A:FIn:=⟨[.str,.str],[]⟩
def q9q:List FOut:=[⟨(.tuple [.str,(.int .i64)]),[],none⟩]
noncomputable def qld:=qj [(155,qc kw kL zo),(158,qc kg uQ qk),(257,qc q5j q4H wo),(258,qc q6f q6h jE),(259,qc q4X q5b uM),(260,qc yC yw zI)] [(234,Tryz.f234)] [] 0
noncomputable def ue:=qT qld 234 Tryz.f234 true q9A q9q
theorem qaV:wg Tryz.prog qe 234 (qc q9A q9q ue):=sk qld qh qa (alc yQ (alc uj (alc q7f (alc qbH (alc qeG (alc q13 aln)))))) aln (b1 Tryz.func234) Tryz.func234
def jJ:FIn:=⟨[(.ptr 0 0),(.fn 234 [] []),.str,.str],[.cells [(.int .i64)]]⟩
def jN:List FOut:=[⟨.str,[.cells [(.int .i64)]],none⟩]
noncomputable def q3o:=qj [(234,qc q9A q9q ue)] [(232,Tryz.f232)] [] 1
noncomputable def zw:=qT q3o 232 Tryz.f232 true jJ jN
theorem q1Y:wg Tryz.prog qe 232 (qc jJ jN zw):=sk q3o qh qa (alc qaV aln) aln (b1 Tryz.func232) Tryz.func232
def jo:FIn:=⟨[(.ptr 0 0),(.imm [.str])],[.cells [(.int .i64)]]⟩
def jp:List FOut:=[⟨.str,[.cells [(.int .i64)]],none⟩]
def q57:Tmpl:={ t:=(zd 5 (.str::(.fn 232 [(.ptr 0 0)] [])::zd 4 ((.imm [.str])::(.int .i64)::(.int .i64)::zd 9 []))),h:=[.cells [(.int .i64)]] }
def q55:List Out:=[⟨(.exit 0),{ t:=(zd 5 (.str::zd 17 [])),h:=[.cells [(.int .i64)]] }⟩]
noncomputable def q1T:=qj [(234,qc q9A q9q ue),(232,qc jJ jN zw)] [(207,Tryz.f207)] [] 1
noncomputable def vd:=vA q1T 207 Tryz.f207 4 q57 q55
theorem qe4:qA Tryz.prog qe q1T.nimp (qW Tryz.prog q1T.iter 207) (zU Tryz.f207 4) (qv q57 q55 (qf vd)):=
 gk q1T qh qa (alc qaV (alc q1Y aln)) aln (b1 Tryz.func207) Tryz.func207
noncomputable def qdd:=qj [(234,qc q9A q9q ue),(232,qc jJ jN zw)] [(207,Tryz.f207)] [((207,4),qv q57 q55 (qf vd))] 1
noncomputable def q9:=qT qdd 207 Tryz.f207 true jo jp
theorem jA:wg Tryz.prog qe 207 (qc jo jp q9):=sk qdd qh qa (alc qaV (alc q1Y aln)) (alc (lk Tryz.func207 qe4) aln) (b1 Tryz.func207) Tryz.func207
def q7P:FIn:=⟨[(.ptr 0 0),.str,.str,.str,.str],[.cells [(.int .i64)]]⟩
def q7Q:List FOut:=[⟨(.tuple [.str,.str]),[.cells [(.int .i64)]],none⟩]
noncomputable def qhC:=qj [(206,qc uF uw zm),(207,qc jo jp q9)] [(205,Tryz.f205)] [] 1
noncomputable def zE:=qT qhC 205 Tryz.f205 true q7P q7Q
theorem qdo:wg Tryz.prog qe 205 (qc q7P q7Q zE):=sk qhC qh qa (alc q19 (alc jA aln)) aln (b1 Tryz.func205) Tryz.func205
def yT:FIn:=⟨[(.imm [.str])],[]⟩
def yP:List FOut:=[⟨(.int .i64),[],none⟩]
def q79:Tmpl:={ t:=(zd 6 ((.imm [.str])::(.int .i64)::(.int .i64)::zd 9 [])),h:=[] }
def q6X:List Out:=[⟨(.exit 0),{ t:=(zd 18 []),h:=[] }⟩,⟨.ret,{ t:=(.any::.any::(.int .i64)::zd 15 []),h:=[] }⟩]
noncomputable def q3W:=qj [(75,qc ki kp zj)] [(208,Tryz.f208)] [] 0
noncomputable def yu:=vA q3W 208 Tryz.f208 3 q79 q6X
theorem qh1:qA Tryz.prog qe q3W.nimp (qW Tryz.prog q3W.iter 208) (zU Tryz.f208 3) (qv q79 q6X (qf yu)):=
 gk q3W qh qa (alc uB aln) aln (b1 Tryz.func208) Tryz.func208
noncomputable def qge:=qj [(75,qc ki kp zj)] [(208,Tryz.f208)] [((208,3),qv q79 q6X (qf yu))] 0
noncomputable def qR:=qT qge 208 Tryz.f208 true yT yP
theorem yX:wg Tryz.prog qe 208 (qc yT yP qR):=sk qge qh qa (alc uB aln) (alc (lk Tryz.func208 qh1) aln) (b1 Tryz.func208) Tryz.func208
def q47:FIn:=⟨[.str,.str],[]⟩
def q42:List FOut:=[⟨.bool,[],none⟩]
noncomputable def q9f:=qj [(218,qc wW wV qV)] [(253,Tryz.f253)] [] 0
noncomputable def uc:=qT q9f 253 Tryz.f253 true q47 q42
theorem qdz:wg Tryz.prog qe 253 (qc q47 q42 uc):=sk q9f qh qa (alc um aln) aln (b1 Tryz.func253) Tryz.func253
def qaC:FIn:=⟨[.str,.str],[]⟩
def qaD:List FOut:=[⟨.str,[],none⟩]
noncomputable def qfs:=qj [] [(254,Tryz.f254)] [] 0
noncomputable def q1C:=qT qfs 254 Tryz.f254 true qaC qaD
theorem qj5:wg Tryz.prog qe 254 (qc qaC qaD q1C):=sk qfs qh qa aln aln (b1 Tryz.func254) Tryz.func254
def qaB:FIn:=⟨[.str,.str],[]⟩
def qan:List FOut:=[⟨(.tuple [.str,.str,(.int .i64)]),[],none⟩]
noncomputable def qfH:=qj [(155,qc kw kL zo),(158,qc kg uQ qk),(159,qc q5G q5F vm),(160,qc q0r q0N qX),(161,qc yZ yY qB),(257,qc q5j q4H wo),(274,qc q09 q0O zN)] [(273,Tryz.f273)] [] 0
noncomputable def vD:=qT qfH 273 Tryz.f273 true qaB qan
theorem qjA:wg Tryz.prog qe 273 (qc qaB qan vD):=sk qfH qh qa (alc yQ (alc uj (alc q4N (alc q26 (alc yB (alc q7f (alc q3a aln))))))) aln (b1 Tryz.func273) Tryz.func273
def qcu:FIn:=⟨[.str,.str],[]⟩
def qcH:List FOut:=[⟨(.tuple [.str,(.int .i64)]),[],none⟩]
noncomputable def qmi:=qj [(113,qc uT uZ qJ),(273,qc qaB qan vD)] [(255,Tryz.f255)] [] 0
noncomputable def kt:=qT qmi 255 Tryz.f255 true qcu qcH
theorem qg0:wg Tryz.prog qe 255 (qc qcu qcH kt):=sk qmi qh qa (alc uD (alc qjA aln)) aln (b1 Tryz.func255) Tryz.func255
def jP:FIn:=⟨[(.ptr 0 0),(.fn 115 [] []),.str,.str],[.cells [(.int .i64)]]⟩
def kz:List FOut:=[⟨.str,[.cells [(.int .i64)]],none⟩]
noncomputable def q3u:=qj [(115,qc q8M q9t jd)] [(232,Tryz.f232)] [] 1
noncomputable def vr:=qT q3u 232 Tryz.f232 true jP kz
theorem q7I:wg Tryz.prog qe 232 (qc jP kz vr):=sk q3u qh qa (alc qaR aln) aln (b1 Tryz.func232) Tryz.func232
def jI:FIn:=⟨[(.ptr 0 0),(.fn 255 [] []),.str,.str],[.cells [(.int .i64)]]⟩
def kO:List FOut:=[⟨.str,[.cells [(.int .i64)]],none⟩]
noncomputable def q3g:=qj [(255,qc qcu qcH kt)] [(232,Tryz.f232)] [] 1
noncomputable def zy:=qT q3g 232 Tryz.f232 true jI kO
theorem q8c:wg Tryz.prog qe 232 (qc jI kO zy):=sk q3g qh qa (alc qg0 aln) aln (b1 Tryz.func232) Tryz.func232
def jw:FIn:=⟨[(.ptr 0 0),.str,.str],[.cells [(.int .i64)]]⟩
def jy:List FOut:=[⟨.str,[.cells [(.int .i64)]],none⟩]
noncomputable def q8D:=qj [(115,qc q8M q9t jd),(206,qc uF uw zm),(253,qc q47 q42 uc),(254,qc qaC qaD q1C),(255,qc qcu qcH kt),(232,qAN [(jP,qc jP kz vr),(jI,qc jI kO zy)])] [(231,Tryz.f231)] [] 1
noncomputable def qM:=qT q8D 231 Tryz.f231 true jw jy
theorem uq:wg Tryz.prog qe 231 (qc jw jy qM):=sk q8D qh qa (alc qaR (alc q19 (alc qdz (alc qj5 (alc qg0 (alc (qy4 (q2b Tryz.func232 (by kernel_rfl) (by kernel_rfl)) (qtI q7I (qtI q8c qyI))) aln)))))) aln (b1 Tryz.func231) Tryz.func231
def q0D:FIn:=⟨[.str,.str,(.fn 205 [] [])],[]⟩
def q0a:List FOut:=[⟨(.tuple [.str,(.int .i64)]),[],none⟩]
noncomputable def q4f:=qj [(112,qc q2h q2o q8),(205,qc q7P q7Q zE),(208,qc yT yP qR),(231,qc jw jy qM)] [(204,Tryz.f204)] [] 0
noncomputable def wB:=qT q4f 204 Tryz.f204 true q0D q0a
theorem q8p:wg Tryz.prog qe 204 (qc q0D q0a wB):=sk q4f qh qa (alc q1A (alc qdo (alc yX (alc uq aln)))) aln (b1 Tryz.func204) Tryz.func204
def qct:FIn:=⟨[.str,.str],[]⟩
def qci:List FOut:=[⟨(.tuple [.str,(.int .i64)]),[],none⟩]
noncomputable def qlq:=qj [(205,qc q7P q7Q zE),(204,qc q0D q0a wB)] [(164,Tryz.f164)] [] 0
noncomputable def kV:=qT qlq 164 Tryz.f164 true qct qci
theorem qfN:wg Tryz.prog qe 164 (qc qct qci kV):=sk qlq qh qa (alc qdo (alc q8p aln)) aln (b1 Tryz.func164) Tryz.func164
def kI:FIn:=⟨[(.ptr 0 0),(.fn 164 [] []),.str,.str],[.cells [(.int .i64)]]⟩
def kT:List FOut:=[⟨.str,[.cells [(.int .i64)]],none⟩]
noncomputable def q3j:=qj [(164,qc qct qci kV)] [(163,Tryz.f163)] [] 1
noncomputable def w9:=qT q3j 163 Tryz.f163 true kI kT
theorem q7D:wg Tryz.prog qe 163 (qc kI kT w9):=sk q3j qh qa (alc qfN aln) aln (b1 Tryz.func163) Tryz.func163
def yn:FIn:=⟨[(.ptr 0 0),.str,.str],[.cells [(.int .i64)]]⟩
def yt:List FOut:=[⟨.str,[.cells [(.int .i64)]],none⟩]
noncomputable def qdt:=qj [(164,qc qct qci kV),(163,qc kI kT w9)] [(117,Tryz.f117)] [] 1
noncomputable def qz:=qT qdt 117 Tryz.f117 true yn yt
theorem u6:wg Tryz.prog qe 117 (qc yn yt qz):=sk qdt qh qa (alc qfN (alc q7D aln)) aln (b1 Tryz.func117) Tryz.func117
def q0J:FIn:=⟨[(.ptr 0 0),(.agg [.str,.str]),(.agg [.str,.str])],[.cells [(.int .i64)]]⟩
def q0f:List FOut:=[⟨(.agg [.str,.str]),[.cells [(.int .i64)]],none⟩]
noncomputable def qbg:=qj [(117,qc yn yt qz)] [(118,Tryz.f118)] [] 1
noncomputable def qH:=qT qbg 118 Tryz.f118 true q0J q0f
theorem q37:wg Tryz.prog qe 118 (qc q0J q0f qH):=sk qbg qh qa (alc u6 aln) aln (b1 Tryz.func118) Tryz.func118
def kH:FIn:=⟨[(.ptr 0 0),(.fn 236 [] []),.str,.str],[.cells [(.int .i64)]]⟩
def kS:List FOut:=[⟨.str,[.cells [(.int .i64)]],none⟩]
noncomputable def q3C:=qj [(236,qc q9e q9C jc)] [(232,Tryz.f232)] [] 1
noncomputable def zY:=qT q3C 232 Tryz.f232 true kH kS
theorem q7T:wg Tryz.prog qe 232 (qc kH kS zY):=sk q3C qh qa (alc qaq aln) aln (b1 Tryz.func232) Tryz.func232
def q3H:FIn:=⟨[(.ptr 0 0),.str,.str],[.cells [(.int .i64)]]⟩
def q3Q:List FOut:=[⟨.str,[.cells [(.int .i64)]],none⟩]
noncomputable def qd6:=qj [(236,qc q9e q9C jc),(232,qc kH kS zY)] [(215,Tryz.f215)] [] 1
noncomputable def wH:=qT qd6 215 Tryz.f215 true q3H q3Q
theorem q8z:wg Tryz.prog qe 215 (qc q3H q3Q wH):=sk qd6 qh qa (alc qaq (alc q7T aln)) aln (b1 Tryz.func215) Tryz.func215
def q7K:FIn:=⟨[(.ptr 0 0),.str,.str,.str,.str],[.cells [(.int .i64)]]⟩
def q7Y:List FOut:=[⟨(.tuple [.str,.str]),[.cells [(.int .i64)]],none⟩]
noncomputable def qi2:=qj [(207,qc jo jp q9),(215,qc q3H q3Q wH)] [(214,Tryz.f214)] [] 1
noncomputable def zB:=qT qi2 214 Tryz.f214 true q7K q7Y
theorem qdl:wg Tryz.prog qe 214 (qc q7K q7Y zB):=sk qi2 qh qa (alc jA (alc q8z aln)) aln (b1 Tryz.func214) Tryz.func214
def q08:FIn:=⟨[.str,.str,(.fn 214 [] [])],[]⟩
def q0L:List FOut:=[⟨(.tuple [.str,(.int .i64)]),[],none⟩]
noncomputable def q4i:=qj [(112,qc q2h q2o q8),(208,qc yT yP qR),(214,qc q7K q7Y zB),(231,qc jw jy qM)] [(204,Tryz.f204)] [] 0
noncomputable def ww:=qT q4i 204 Tryz.f204 true q08 q0L
theorem q94:wg Tryz.prog qe 204 (qc q08 q0L ww):=sk q4i qh qa (alc q1A (alc yX (alc qdl (alc uq aln)))) aln (b1 Tryz.func204) Tryz.func204
def qcR:FIn:=⟨[.str,.str],[]⟩
def qc9:List FOut:=[⟨(.tuple [.str,(.int .i64)]),[],none⟩]
noncomputable def qlC:=qj [(214,qc q7K q7Y zB),(204,qc q08 q0L ww)] [(181,Tryz.f181)] [] 0
noncomputable def ky:=qT qlC 181 Tryz.f181 true qcR qc9
theorem qfU:wg Tryz.prog qe 181 (qc qcR qc9 ky):=sk qlC qh qa (alc qdl (alc q94 aln)) aln (b1 Tryz.func181) Tryz.func181
def kQ:FIn:=⟨[(.ptr 0 0),(.fn 181 [] []),.str,.str],[.cells [(.int .i64)]]⟩
def kW:List FOut:=[⟨.str,[.cells [(.int .i64)]],none⟩]
noncomputable def q3q:=qj [(181,qc qcR qc9 ky)] [(163,Tryz.f163)] [] 1
noncomputable def we:=qT q3q 163 Tryz.f163 true kQ kW
theorem q7X:wg Tryz.prog qe 163 (qc kQ kW we):=sk q3q qh qa (alc qfU aln) aln (b1 Tryz.func163) Tryz.func163
def uC:FIn:=⟨[(.ptr 0 0),.str,.str],[.cells [(.int .i64)]]⟩
def uy:List FOut:=[⟨.str,[.cells [(.int .i64)]],none⟩]
noncomputable def qcU:=qj [(181,qc qcR qc9 ky),(163,qc kQ kW we)] [(141,Tryz.f141)] [] 1
noncomputable def zu:=qT qcU 141 Tryz.f141 true uC uy
theorem q0V:wg Tryz.prog qe 141 (qc uC uy zu):=sk qcU qh qa (alc qfU (alc q7X aln)) aln (b1 Tryz.func141) Tryz.func141
def q84:FIn:=⟨[(.ptr 0 0),.str,.str,.str,.str],[.cells [(.int .i64)]]⟩
def q7E:List FOut:=[⟨(.tuple [.str,.str]),[.cells [(.int .i64)]],none⟩]
noncomputable def qhK:=qj [(207,qc jo jp q9)] [(216,Tryz.f216)] [] 1
noncomputable def zC:=qT qhK 216 Tryz.f216 true q84 q7E
theorem qdj:wg Tryz.prog qe 216 (qc q84 q7E zC):=sk qhK qh qa (alc jA aln) aln (b1 Tryz.func216) Tryz.func216
def q0y:FIn:=⟨[.str,.str,(.fn 216 [] [])],[]⟩
def q0i:List FOut:=[⟨(.tuple [.str,(.int .i64)]),[],none⟩]
noncomputable def q4l:=qj [(112,qc q2h q2o q8),(208,qc yT yP qR),(216,qc q84 q7E zC),(231,qc jw jy qM)] [(204,Tryz.f204)] [] 0
noncomputable def wx:=qT q4l 204 Tryz.f204 true q0y q0i
theorem q8G:wg Tryz.prog qe 204 (qc q0y q0i wx):=sk q4l qh qa (alc q1A (alc yX (alc qdj (alc uq aln)))) aln (b1 Tryz.func204) Tryz.func204
def qcI:FIn:=⟨[.str,.str],[]⟩
def qcf:List FOut:=[⟨(.tuple [.str,(.int .i64)]),[],none⟩]
noncomputable def qm7:=qj [(216,qc q84 q7E zC),(204,qc q0y q0i wx)] [(182,Tryz.f182)] [] 0
noncomputable def kZ:=qT qm7 182 Tryz.f182 true qcI qcf
theorem qg7:wg Tryz.prog qe 182 (qc qcI qcf kZ):=sk qm7 qh qa (alc qdj (alc q8G aln)) aln (b1 Tryz.func182) Tryz.func182
def kv:FIn:=⟨[(.ptr 0 0),(.fn 182 [] []),.str,.str],[.cells [(.int .i64)]]⟩
def kP:List FOut:=[⟨.str,[.cells [(.int .i64)]],none⟩]
noncomputable def q3n:=qj [(182,qc qcI qcf kZ)] [(163,Tryz.f163)] [] 1
noncomputable def zZ:=qT q3n 163 Tryz.f163 true kv kP
theorem q7Z:wg Tryz.prog qe 163 (qc kv kP zZ):=sk q3n qh qa (alc qg7 aln) aln (b1 Tryz.func163) Tryz.func163
def uv:FIn:=⟨[(.ptr 0 0),.str,.str],[.cells [(.int .i64)]]⟩
def uG:List FOut:=[⟨.str,[.cells [(.int .i64)]],none⟩]
noncomputable def qdq:=qj [(182,qc qcI qcf kZ),(163,qc kv kP zZ)] [(142,Tryz.f142)] [] 1
noncomputable def qu:=qT qdq 142 Tryz.f142 true uv uG
theorem q0Y:wg Tryz.prog qe 142 (qc uv uG qu):=sk qdq qh qa (alc qg7 (alc q7Z aln)) aln (b1 Tryz.func142) Tryz.func142
def q1l:FIn:=⟨[(.ptr 0 0),(.agg [.str,.str]),(.agg [.str,.str])],[.cells [(.int .i64)]]⟩
def q1q:List FOut:=[⟨.str,[.cells [(.int .i64)]],none⟩]
noncomputable def qdu:=qj [(141,qc uC uy zu),(142,qc uv uG qu)] [(119,Tryz.f119)] [] 1
noncomputable def zM:=qT qdu 119 Tryz.f119 true q1l q1q
theorem q3Y:wg Tryz.prog qe 119 (qc q1l q1q zM):=sk qdu qh qa (alc q0V (alc q0Y aln)) aln (b1 Tryz.func119) Tryz.func119
def q8f:FIn:=⟨[(.ptr 0 0),.str,.str,.str,.str],[.cells [(.int .i64)]]⟩
def q7W:List FOut:=[⟨(.tuple [.str,.str]),[.cells [(.int .i64)]],none⟩]
noncomputable def qiw:=qj [(207,qc jo jp q9)] [(209,Tryz.f209)] [] 1
noncomputable def zF:=qT qiw 209 Tryz.f209 true q8f q7W
theorem qda:wg Tryz.prog qe 209 (qc q8f q7W zF):=sk qiw qh qa (alc jA aln) aln (b1 Tryz.func209) Tryz.func209
def q0G:FIn:=⟨[.str,.str,(.fn 209 [] [])],[]⟩
def q0x:List FOut:=[⟨(.tuple [.str,(.int .i64)]),[],none⟩]
noncomputable def q4k:=qj [(112,qc q2h q2o q8),(208,qc yT yP qR),(209,qc q8f q7W zF),(231,qc jw jy qM)] [(204,Tryz.f204)] [] 0
noncomputable def wz:=qT q4k 204 Tryz.f204 true q0G q0x
theorem q8n:wg Tryz.prog qe 204 (qc q0G q0x wz):=sk q4k qh qa (alc q1A (alc yX (alc qda (alc uq aln)))) aln (b1 Tryz.func204) Tryz.func204
def qc0:FIn:=⟨[.str,.str],[]⟩
def qcb:List FOut:=[⟨(.tuple [.str,(.int .i64)]),[],none⟩]
noncomputable def qlk:=qj [(208,qc yT yP qR),(209,qc q8f q7W zF),(204,qc q0G q0x wz)] [(165,Tryz.f165)] [] 0
noncomputable def kx:=qT qlk 165 Tryz.f165 true qc0 qcb
theorem qg5:wg Tryz.prog qe 165 (qc qc0 qcb kx):=sk qlk qh qa (alc yX (alc qda (alc q8n aln))) aln (b1 Tryz.func165) Tryz.func165
def kX:FIn:=⟨[(.ptr 0 0),(.fn 165 [] []),.str,.str],[.cells [(.int .i64)]]⟩
def kD:List FOut:=[⟨.str,[.cells [(.int .i64)]],none⟩]
noncomputable def q3y:=qj [(165,qc qc0 qcb kx)] [(163,Tryz.f163)] [] 1
noncomputable def wO:=qT q3y 163 Tryz.f163 true kX kD
theorem q7V:wg Tryz.prog qe 163 (qc kX kD wO):=sk q3y qh qa (alc qg5 aln) aln (b1 Tryz.func163) Tryz.func163
def q24:FIn:=⟨[(.ptr 0 0),(.imm [.str,.str,.str]),(.agg [(.int .i64),(.int .i64),(.int .i64)])],[.cells [(.int .i64)]]⟩
def q20:List FOut:=[⟨(.tuple [(.agg [.str,.str,.str,.str,.str]),.bool]),[.cells [(.int .i64)]],none⟩]
noncomputable def qaj:=qj [(117,qc yn yt qz),(118,qc q0J q0f qH),(119,qc q1l q1q zM),(141,qc uC uy zu),(142,qc uv uG qu),(165,qc qc0 qcb kx),(163,qc kX kD wO)] [(120,Tryz.f120)] [] 1
noncomputable def j5:=qT qaj 120 Tryz.f120 true q24 q20
theorem q6z:wg Tryz.prog qe 120 (qc q24 q20 j5):=sk qaj qh qa (alc u6 (alc q37 (alc q3Y (alc q0V (alc q0Y (alc qg5 (alc q7V aln))))))) aln (b1 Tryz.func120) Tryz.func120
def qed:FIn:=⟨[.str],[]⟩
def qdG:List FOut:=[⟨(.tuple [(.int .i64),(.int .i64)]),[],none⟩]
noncomputable def qkd:=qj [(113,qc uT uZ qJ),(156,qc q6x q6s zS)] [(252,Tryz.f252)] [] 0
noncomputable def q2s:=qT qkd 252 Tryz.f252 true qed qdG
theorem qle:wg Tryz.prog qe 252 (qc qed qdG q2s):=sk qkd qh qa (alc uD (alc q9c aln)) aln (b1 Tryz.func252) Tryz.func252
def q2L:FIn:=⟨[(.ptr 0 0),.str],[.cells [(.int .i64)]]⟩
def q2M:List FOut:=[⟨(.int .i64),[.cells [(.int .i64)]],none⟩]
noncomputable def qbt:=qj [(252,qc qed qdG q2s)] [(230,Tryz.f230)] [] 1
noncomputable def wy:=qT qbt 230 Tryz.f230 true q2L q2M
theorem q7p:wg Tryz.prog qe 230 (qc q2L q2M wy):=sk qbt qh qa (alc qle aln) aln (b1 Tryz.func230) Tryz.func230
def q5Q:FIn:=⟨[(.ptr 0 0),.str,.str,.str],[.cells [(.int .i64)]]⟩
def q5S:List FOut:=[⟨(.int .i64),[.cells [(.int .i64)]],none⟩]
noncomputable def qba:=qj [(206,qc uF uw zm),(207,qc jo jp q9),(230,qc q2L q2M wy)] [(229,Tryz.f229)] [] 1
noncomputable def yU:=qT qba 229 Tryz.f229 true q5Q q5S
theorem qfq:wg Tryz.prog qe 229 (qc q5Q q5S yU):=sk qba qh qa (alc q19 (alc jA (alc q7p aln))) aln (b1 Tryz.func229) Tryz.func229
def q5x:FIn:=⟨[.str,.str,.str,.str,.str],[]⟩
def q5w:List FOut:=[⟨(.tuple [(.int .i64),(.int .i64)]),[],none⟩]
noncomputable def qbd:=qj [(112,qc q2h q2o q8),(206,qc uF uw zm),(207,qc jo jp q9),(208,qc yT yP qR),(215,qc q3H q3Q wH),(229,qc q5Q q5S yU),(230,qc q2L q2M wy)] [(203,Tryz.f203)] [] 0
noncomputable def jz:=qT qbd 203 Tryz.f203 true q5x q5w
theorem qff:wg Tryz.prog qe 203 (qc q5x q5w jz):=sk qbd qh qa (alc q1A (alc q19 (alc jA (alc yX (alc q8z (alc qfq (alc q7p aln))))))) aln (b1 Tryz.func203) Tryz.func203
def q78:FIn:=⟨[.str,.str,.str],[]⟩
def q6G:List FOut:=[⟨(.tuple [(.int .i64),(.int .i64)]),[],none⟩]
noncomputable def qd9:=qj [(203,qc q5x q5w jz)] [(162,Tryz.f162)] [] 0
noncomputable def yv:=qT qd9 162 Tryz.f162 true q78 q6G
theorem qgQ:wg Tryz.prog qe 162 (qc q78 q6G yv):=sk qd9 qh qa (alc qff aln) aln (b1 Tryz.func162) Tryz.func162
def q0j:FIn:=⟨[(.ptr 0 0),.str,.str,.str],[.cells [(.int .i64)]]⟩
def q0b:List FOut:=[⟨(.int .i64),[.cells [(.int .i64)]],none⟩]
noncomputable def qbE:=qj [(162,qc q78 q6G yv)] [(116,Tryz.f116)] [] 1
noncomputable def wA:=qT qbE 116 Tryz.f116 true q0j q0b
theorem q33:wg Tryz.prog qe 116 (qc q0j q0b wA):=sk qbE qh qa (alc qgQ aln) aln (b1 Tryz.func116) Tryz.func116
def q1X:FIn:=⟨[(.ptr 0 0),(.agg [.str,.str,.str]),(.agg [.str,.str,.str,.str,.str])],[.cells [(.int .i64)]]⟩
def q1R:List FOut:=[⟨.bool,[.cells [(.int .i64)]],none⟩]
noncomputable def q9R:=qj [(116,qc q0j q0b wA),(117,qc yn yt qz),(118,qc q0J q0f qH),(119,qc q1l q1q zM),(141,qc uC uy zu),(142,qc uv uG qu)] [(122,Tryz.f122)] [] 1
noncomputable def wP:=qT q9R 122 Tryz.f122 true q1X q1R
theorem q6r:wg Tryz.prog qe 122 (qc q1X q1R wP):=sk q9R qh qa (alc q33 (alc u6 (alc q37 (alc q3Y (alc q0V (alc q0Y aln)))))) aln (b1 Tryz.func122) Tryz.func122
def vO:FIn:=⟨[(.ptr 0 0),(.imm [.str,.str,.str]),(.agg [(.int .i64),(.int .i64),(.int .i64)])],[.cells [(.int .i64)]]⟩
def vP:List FOut:=[⟨.bool,[.cells [(.int .i64)]],none⟩]
def kF:Tmpl:={ t:=((.imm [.str,.str,.str])::(.fn 124 [] [(.ptr 4 0)])::zd 5 ((.int .i64)::(.int .i64)::zd 10 [])),h:=[.cells [(.int .i64)],.cells [(.ptr 0 0)],.cells [(.int .i64),(.int .i64),(.int .i64)],.cells [.str,.str,.str,.str,.str],.cells [(.fn 121 [] [(.ptr 1 0),(.ptr 3 0)])]],fs:=[[(.imm [.str,.str,.str]),(.fn 124 [] [(.ptr 4 0)]),.any,.any,(.blit false),(.imm [.str,.str,.str]),(.fn 124 [] [(.ptr 4 0)]),.any,.any],[(.ptr 0 0),(.imm [.str,.str,.str]),(.agg [(.int .i64),(.int .i64),(.int .i64)]),(.ptr 1 0),.any,(.ptr 2 0),(.blit false),(.ptr 3 0),.bool,(.ptr 4 0),(.tuple [(.agg [.str,.str,.str,.str,.str]),.bool]),(.ptr 0 0),(.imm [.str,.str,.str]),(.agg [(.int .i64),(.int .i64),(.int .i64)]),(.tuple [(.agg [.str,.str,.str,.str,.str]),.bool]),(.agg [.str,.str,.str,.str,.str]),.bool,(.fn 121 [] [(.ptr 1 0),(.ptr 3 0)]),.bool,(.blit true),(.imm [.str,.str,.str]),(.fn 124 [] [(.ptr 4 0)]),.any,.any,.any,.any,.any,.any,.any,.any,.any,.any],[]] }
def kR:List Out:=[⟨(.exit 0),{ t:=(zd 19 []),h:=[.cells [(.int .i64)],.cells [(.ptr 0 0)],.cells [(.int .i64),(.int .i64),(.int .i64)],.cells [.str,.str,.str,.str,.str],.cells [(.fn 121 [] [(.ptr 1 0),(.ptr 3 0)])]],fs:=[[(.imm [.str,.str,.str]),(.fn 124 [] [(.ptr 4 0)]),.any,.any,(.blit false),(.imm [.str,.str,.str]),(.fn 124 [] [(.ptr 4 0)]),.any,.any],[(.ptr 0 0),(.imm [.str,.str,.str]),(.agg [(.int .i64),(.int .i64),(.int .i64)]),(.ptr 1 0),.any,(.ptr 2 0),(.blit false),(.ptr 3 0),.bool,(.ptr 4 0),(.tuple [(.agg [.str,.str,.str,.str,.str]),.bool]),(.ptr 0 0),(.imm [.str,.str,.str]),(.agg [(.int .i64),(.int .i64),(.int .i64)]),(.tuple [(.agg [.str,.str,.str,.str,.str]),.bool]),(.agg [.str,.str,.str,.str,.str]),.bool,(.fn 121 [] [(.ptr 1 0),(.ptr 3 0)]),.bool,(.blit true),(.imm [.str,.str,.str]),(.fn 124 [] [(.ptr 4 0)]),.any,.any,.any,.any,.any,.any,.any,.any,.any,.any],[]] }⟩,⟨.ret,{ t:=(zd 4 ((.int .i64)::zd 14 [])),h:=[.cells [(.int .i64)],.cells [(.ptr 0 0)],.cells [(.int .i64),(.int .i64),(.int .i64)],.cells [.str,.str,.str,.str,.str],.cells [(.fn 121 [] [(.ptr 1 0),(.ptr 3 0)])]],fs:=[[(.imm [.str,.str,.str]),(.fn 124 [] [(.ptr 4 0)]),.any,.any,(.blit false),(.imm [.str,.str,.str]),(.fn 124 [] [(.ptr 4 0)]),.any,.any],[(.ptr 0 0),(.imm [.str,.str,.str]),(.agg [(.int .i64),(.int .i64),(.int .i64)]),(.ptr 1 0),.any,(.ptr 2 0),(.blit false),(.ptr 3 0),.bool,(.ptr 4 0),(.tuple [(.agg [.str,.str,.str,.str,.str]),.bool]),(.ptr 0 0),(.imm [.str,.str,.str]),(.agg [(.int .i64),(.int .i64),(.int .i64)]),(.tuple [(.agg [.str,.str,.str,.str,.str]),.bool]),(.agg [.str,.str,.str,.str,.str]),.bool,(.fn 121 [] [(.ptr 1 0),(.ptr 3 0)]),.bool,(.blit true),(.imm [.str,.str,.str]),(.fn 124 [] [(.ptr 4 0)]),.any,.any,.any,.any,.any,.any,.any,.any,.any,.any],[]] }⟩]
noncomputable def jT:=qj [(120,qc q24 q20 j5),(122,qc q1X q1R wP)] [(78,Tryz.f78),(121,Tryz.f121),(123,Tryz.f123),(124,Tryz.f124),(166,Tryz.f166)] [] 1
noncomputable def vC:=vA jT 166 Tryz.f166 3 kF kR
theorem q87:qA Tryz.prog qe jT.nimp (qW Tryz.prog jT.iter 166) (zU Tryz.f166 3) (qv kF kR (qf vC)):=
 gk jT qh qa (alc q6z (alc q6r aln)) aln (alc (bk Tryz.func78) (alc (bk Tryz.func121) (alc (bk Tryz.func123) (alc (bk Tryz.func124) (alc (bk Tryz.func166) aln))))) Tryz.func166
noncomputable def q9h:=qj [(120,qc q24 q20 j5),(122,qc q1X q1R wP)] [(78,Tryz.f78),(121,Tryz.f121),(123,Tryz.f123),(124,Tryz.f124),(166,Tryz.f166)] [((166,3),qv kF kR (qf vC))] 1
noncomputable def z7:=qT q9h 78 Tryz.f78 true vO vP
theorem jr:wg Tryz.prog qe 78 (qc vO vP z7):=sk q9h qh qa (alc q6z (alc q6r aln)) (alc (lk Tryz.func166 q87) aln) (alc (bk Tryz.func78) (alc (bk Tryz.func121) (alc (bk Tryz.func123) (alc (bk Tryz.func124) (alc (bk Tryz.func166) aln))))) Tryz.func78
def zR:FIn:=⟨[(.ptr 0 0),(.imm [.str,.str,.str])],[.cells [(.int .i64)]]⟩
def zV:List FOut:=[⟨(.tuple [(.agg [(.int .i64),(.int .i64),(.int .i64)]),.bool]),[.cells [(.int .i64)]],none⟩]
def q0A:Tmpl:={ t:=(.yld::(.ptr 5 0)::zd 6 ((.int .i64)::(.int .i64)::zd 35 [])),h:=[.cells [(.int .i64)],.cells [(.ptr 0 0)],.cells [(.imm [.str,.str,.str])],.cells [(.int .i64),(.int .i64),(.int .i64)],.cells [.bool],.cells [(.int .i64)]],fs:=[[.any,.any,(.ptr 1 0),(.ptr 2 0),(.ptr 3 0),(.ptr 4 0),.any,.any,.any,(.fn 143 [] [(.ptr 5 0)]),.any,.any,.any,.any,.any,.any,.any],[]] }
def q0q:List Out:=[⟨(.exit 0),{ t:=(.yld::(.ptr 5 0)::zd 43 []),h:=[.cells [(.int .i64)],.cells [(.ptr 0 0)],.cells [(.imm [.str,.str,.str])],.cells [(.int .i64),(.int .i64),(.int .i64)],.cells [.bool],.cells [(.int .i64)]],fs:=[[.any,.any,(.ptr 1 0),(.ptr 2 0),(.ptr 3 0),(.ptr 4 0),.any,.any,.any,(.fn 143 [] [(.ptr 5 0)]),.any,.any,.any,.any,.any,.any,.any],[]] }⟩,⟨.ret,{ t:=(zd 45 []),h:=[.cells [(.int .i64)],.cells [(.ptr 0 0)],.cells [(.imm [.str,.str,.str])],.cells [(.int .i64),(.int .i64),(.int .i64)],.cells [.bool],.cells [(.int .i64)]],fs:=[[.any,.any,(.ptr 1 0),(.ptr 2 0),(.ptr 3 0),(.ptr 4 0),.any,.any,.any,(.fn 143 [] [(.ptr 5 0)]),.any,.any,.any,.any,.any,.any,.any],[]],pend:=(.some .ret) }⟩]
noncomputable def yd:Env:={ tt:=qat,glob:=qe,spec:=[(78,qc vO vP z7)],body:=[(64,Tryz.f64),(100,Tryz.f100),(143,Tryz.f143)],loops:=[],nimp:=1,iter:=[(143,64,3)] }
noncomputable def vX:=qqA yd (some (64,Tryz.f64,3)) 143 Tryz.f143 2 q0A q0q
theorem q8H:qA Tryz.prog qe yd.nimp (qW Tryz.prog yd.iter 143) (zU Tryz.f143 2) (qv q0A q0q (qf vX)):=
 q6t (E:=yd) qh ⟨q9s qa,(alc jr aln),aln,(alc (bk Tryz.func64) (alc (bk Tryz.func100) (alc (bk Tryz.func143) aln)))⟩ Tryz.func143 (by kernel_rfl) (y:=some (64,Tryz.f64,3)) ⟨Tryz.func64,by kernel_rfl⟩ (by kernel_rfl) (by kernel_rfl) (fun _=>rfl)
def kE:Tmpl:={ t:=(.yld::(.ptr 5 0)::.any::.any::(.int .i64)::(.int .i64)::zd 13 ((.int .i64)::(.int .i64)::zd 9 ((.vec 6)::(.int .i64)::(.int .i64)::zd 12 []))),h:=[.cells [(.int .i64)],.cells [(.ptr 0 0)],.cells [(.imm [.str,.str,.str])],.cells [(.int .i64),(.int .i64),(.int .i64)],.cells [.bool],.cells [(.int .i64)],.vec 3 [(.int .i64)]],fs:=[[.any,.any,(.ptr 1 0),(.ptr 2 0),(.ptr 3 0),(.ptr 4 0),.any,.any,.any,(.fn 143 [] [(.ptr 5 0)]),.any,.any,.any,.any,.any,.any,.any],[]] }
def ku:List Out:=[⟨(.exit 6),{ t:=(.yld::(.ptr 5 0)::.any::.any::(.int .i64)::(.int .i64)::zd 13 ((.int .i64)::(.int .i64)::zd 24 [])),h:=[.cells [(.int .i64)],.cells [(.ptr 0 0)],.cells [(.imm [.str,.str,.str])],.cells [(.int .i64),(.int .i64),(.int .i64)],.cells [.bool],.cells [(.int .i64)]],fs:=[[.any,.any,(.ptr 1 0),(.ptr 2 0),(.ptr 3 0),(.ptr 4 0),.any,.any,.any,(.fn 143 [] [(.ptr 5 0)]),.any,.any,.any,.any,.any,.any,.any],[]] }⟩,⟨.ret,{ t:=(zd 45 []),h:=[.cells [(.int .i64)],.cells [(.ptr 0 0)],.cells [(.imm [.str,.str,.str])],.cells [(.int .i64),(.int .i64),(.int .i64)],.cells [.bool],.cells [(.int .i64)]],fs:=[[.any,.any,(.ptr 1 0),(.ptr 2 0),(.ptr 3 0),(.ptr 4 0),.any,.any,.any,(.fn 143 [] [(.ptr 5 0)]),.any,.any,.any,.any,.any,.any,.any],[]],pend:=(.some .ret) }⟩]
noncomputable def jO:Env:={ tt:=qat,glob:=qe,spec:=[(78,qc vO vP z7)],body:=[(64,Tryz.f64),(100,Tryz.f100),(143,Tryz.f143)],loops:=[],nimp:=1,iter:=[(143,64,3)] }
noncomputable def vq:=qqA jO (some (64,Tryz.f64,3)) 143 Tryz.f143 20 kE ku
theorem q8h:qA Tryz.prog qe jO.nimp (qW Tryz.prog jO.iter 143) (zU Tryz.f143 20) (qv kE ku (qf vq)):=
 q6t (E:=jO) qh ⟨q9s qa,(alc jr aln),aln,(alc (bk Tryz.func64) (alc (bk Tryz.func100) (alc (bk Tryz.func143) aln)))⟩ Tryz.func143 (by kernel_rfl) (y:=some (64,Tryz.f64,3)) ⟨Tryz.func64,by kernel_rfl⟩ (by kernel_rfl) (by kernel_rfl) (fun _=>rfl)
def kK:Tmpl:={ t:=(.yld::(.ptr 5 0)::.any::.any::(.int .i64)::(.int .i64)::zd 13 ((.int .i64)::(.int .i64)::zd 24 [])),h:=[.cells [(.int .i64)],.cells [(.ptr 0 0)],.cells [(.imm [.str,.str,.str])],.cells [(.int .i64),(.int .i64),(.int .i64)],.cells [.bool],.cells [(.int .i64)]],fs:=[[.any,.any,(.ptr 1 0),(.ptr 2 0),(.ptr 3 0),(.ptr 4 0),.any,.any,.any,(.fn 143 [] [(.ptr 5 0)]),.any,.any,.any,.any,.any,.any,.any],[]] }
def kN:List Out:=[⟨(.exit 4),{ t:=(.yld::(.ptr 5 0)::zd 17 ((.int .i64)::(.int .i64)::zd 24 [])),h:=[.cells [(.int .i64)],.cells [(.ptr 0 0)],.cells [(.imm [.str,.str,.str])],.cells [(.int .i64),(.int .i64),(.int .i64)],.cells [.bool],.cells [(.int .i64)]],fs:=[[.any,.any,(.ptr 1 0),(.ptr 2 0),(.ptr 3 0),(.ptr 4 0),.any,.any,.any,(.fn 143 [] [(.ptr 5 0)]),.any,.any,.any,.any,.any,.any,.any],[]] }⟩,⟨.ret,{ t:=(zd 45 []),h:=[.cells [(.int .i64)],.cells [(.ptr 0 0)],.cells [(.imm [.str,.str,.str])],.cells [(.int .i64),(.int .i64),(.int .i64)],.cells [.bool],.cells [(.int .i64)]],fs:=[[.any,.any,(.ptr 1 0),(.ptr 2 0),(.ptr 3 0),(.ptr 4 0),.any,.any,.any,(.fn 143 [] [(.ptr 5 0)]),.any,.any,.any,.any,.any,.any,.any],[]],pend:=(.some .ret) }⟩]
noncomputable def jQ:Env:={ tt:=qat,glob:=qe,spec:=[(78,qc vO vP z7)],body:=[(64,Tryz.f64),(100,Tryz.f100),(143,Tryz.f143)],loops:=[((143,20),qv kE ku (qf vq))],nimp:=1,iter:=[(143,64,3)] }
noncomputable def vB:=qqA jQ (some (64,Tryz.f64,3)) 143 Tryz.f143 15 kK kN
theorem q83:qA Tryz.prog qe jQ.nimp (qW Tryz.prog jQ.iter 143) (zU Tryz.f143 15) (qv kK kN (qf vB)):=
 q6t (E:=jQ) qh ⟨q9s qa,(alc jr aln),(alc (lk Tryz.func143 q8h) aln),(alc (bk Tryz.func64) (alc (bk Tryz.func100) (alc (bk Tryz.func143) aln)))⟩ Tryz.func143 (by kernel_rfl) (y:=some (64,Tryz.f64,3)) ⟨Tryz.func64,by kernel_rfl⟩ (by kernel_rfl) (by kernel_rfl) (fun _=>rfl)
def q0H:Tmpl:={ t:=(.yld::(.ptr 5 0)::zd 17 ((.int .i64)::(.int .i64)::zd 24 [])),h:=[.cells [(.int .i64)],.cells [(.ptr 0 0)],.cells [(.imm [.str,.str,.str])],.cells [(.int .i64),(.int .i64),(.int .i64)],.cells [.bool],.cells [(.int .i64)]],fs:=[[.any,.any,(.ptr 1 0),(.ptr 2 0),(.ptr 3 0),(.ptr 4 0),.any,.any,.any,(.fn 143 [] [(.ptr 5 0)]),.any,.any,.any,.any,.any,.any,.any],[]] }
def q0K:List Out:=[⟨(.exit 2),{ t:=(zd 45 []),h:=[.cells [(.int .i64)],.cells [(.ptr 0 0)],.cells [(.imm [.str,.str,.str])],.cells [(.int .i64),(.int .i64),(.int .i64)],.cells [.bool],.cells [(.int .i64)]],fs:=[[.any,.any,(.ptr 1 0),(.ptr 2 0),(.ptr 3 0),(.ptr 4 0),.any,.any,.any,(.fn 143 [] [(.ptr 5 0)]),.any,.any,.any,.any,.any,.any,.any],[]] }⟩,⟨.ret,{ t:=(zd 45 []),h:=[.cells [(.int .i64)],.cells [(.ptr 0 0)],.cells [(.imm [.str,.str,.str])],.cells [(.int .i64),(.int .i64),(.int .i64)],.cells [.bool],.cells [(.int .i64)]],fs:=[[.any,.any,(.ptr 1 0),(.ptr 2 0),(.ptr 3 0),(.ptr 4 0),.any,.any,.any,(.fn 143 [] [(.ptr 5 0)]),.any,.any,.any,.any,.any,.any,.any],[]],pend:=(.some .ret) }⟩]
noncomputable def ye:Env:={ tt:=qat,glob:=qe,spec:=[(78,qc vO vP z7)],body:=[(64,Tryz.f64),(100,Tryz.f100),(143,Tryz.f143)],loops:=[((143,15),qv kK kN (qf vB))],nimp:=1,iter:=[(143,64,3)] }
noncomputable def vV:=qqA ye (some (64,Tryz.f64,3)) 143 Tryz.f143 9 q0H q0K
theorem q9p:qA Tryz.prog qe ye.nimp (qW Tryz.prog ye.iter 143) (zU Tryz.f143 9) (qv q0H q0K (qf vV)):=
 q6t (E:=ye) qh ⟨q9s qa,(alc jr aln),(alc (lk Tryz.func143 q83) aln),(alc (bk Tryz.func64) (alc (bk Tryz.func100) (alc (bk Tryz.func143) aln)))⟩ Tryz.func143 (by kernel_rfl) (y:=some (64,Tryz.f64,3)) ⟨Tryz.func64,by kernel_rfl⟩ (by kernel_rfl) (by kernel_rfl) (fun _=>rfl)
noncomputable def qae:Env:={ tt:=qat,glob:=qe,spec:=[(78,qc vO vP z7)],body:=[(64,Tryz.f64),(100,Tryz.f100),(143,Tryz.f143)],loops:=[((143,2),qv q0A q0q (qf vX)),((143,9),qv q0H q0K (qf vV))],nimp:=1,iter:=[(143,64,3)] }
noncomputable def qK:=qT qae 64 Tryz.f64 true zR zV
theorem zQ:wg Tryz.prog qe 64 (qc zR zV qK):=sk qae qh qa (alc jr aln) (alc (lk Tryz.func143 q8H) (alc (lk Tryz.func143 q9p) aln)) (alc (bk Tryz.func64) (alc (bk Tryz.func100) (alc (bk Tryz.func143) aln))) Tryz.func64
def uO:FIn:=⟨[(.imm [.str,.str,.str])],[]⟩
def kj:List FOut:=[⟨(.tuple [(.imm [(.int .i64)]),(.int .i64)]),[],none⟩]
def yl:Tmpl:={ t:=(.any::(.ptr 0 0)::(.ptr 2 0)::.any::.any::(.vec 4)::zd 4 ((.vec 3)::(.int .i64)::(.int .i64)::zd 26 [])),h:=[.cells [(.imm [.str,.str,.str])],.cells [(.int .i64)],.cells [(.ptr 1 0)],.vec 3 [(.int .i64)],.vec 40 [.str,.str,.str]],pro:=[(5,40,[.str,.str,.str])],fs:=[[.any,(.ptr 0 0),.any,.any,.any,(.ptr 2 0),(.fn 63 [] [(.ptr 0 0),(.ptr 2 0)]),(.int .i64),(.int .i64),.any,.any,.any,.any,.any,.any,.any,.any,.any,.any,.any,.any,(.int .i64),(.int .i64),.any,.any,.any,.any,(.int .i64),(.imm [.str,.str,.str]),(.int .i64),(.blit true),.any,.any,(.fn 63 [] [(.ptr 0 0),(.ptr 2 0)]),(.int .i64),(.int .i64),(.vec 3),.any,.any,.any,.any,.any,.any,.any,.any,.any,.any,.any,.any,.any,.any,.any,.any,.any,.any,.any,.any,.any,.any,.any,.any,.any,.any,.any,.any,.any,.any,.any,.any,.any,.any,.any,.any,.any,.any,.any,.any,.any],[]] }
def ym:List Out:=[⟨(.exit 0),{ t:=(.any::.any::(.ptr 2 0)::.any::.any::(.vec 4)::zd 33 []),h:=[.cells [(.imm [.str,.str,.str])],.cells [(.int .i64)],.cells [(.ptr 1 0)],.vec 3 [(.int .i64)],.vec 40 [.str,.str,.str]],fs:=[[.any,(.ptr 0 0),.any,.any,.any,(.ptr 2 0),(.fn 63 [] [(.ptr 0 0),(.ptr 2 0)]),(.int .i64),(.int .i64),.any,.any,.any,.any,.any,.any,.any,.any,.any,.any,.any,.any,(.int .i64),(.int .i64),.any,.any,.any,.any,(.int .i64),(.imm [.str,.str,.str]),(.int .i64),(.blit true),.any,.any,(.fn 63 [] [(.ptr 0 0),(.ptr 2 0)]),(.int .i64),(.int .i64),(.vec 3),.any,.any,.any,.any,.any,.any,.any,.any,.any,.any,.any,.any,.any,.any,.any,.any,.any,.any,.any,.any,.any,.any,.any,.any,.any,.any,.any,.any,.any,.any,.any,.any,.any,.any,.any,.any,.any,.any,.any,.any,.any],[]] }⟩]
noncomputable def vN:=qj [(62,qc vj vg zi),(64,qc zR zV qK)] [(17,Tryz.f17),(63,Tryz.f63)] [] 0
noncomputable def zL:=vA vN 63 Tryz.f63 4 yl ym
theorem q5m:qA Tryz.prog qe vN.nimp (qW Tryz.prog vN.iter 63) (zU Tryz.f63 4) (qv yl ym (qf zL)):=
 gk vN qh qa (alc wL (alc zQ aln)) aln (alc (bk Tryz.func17) (alc (bk Tryz.func63) aln)) Tryz.func63
def q0h:Tmpl:={ t:=(.any::(.ptr 0 0)::.any::.any::.any::(.ptr 2 0)::(.fn 63 [] [(.ptr 0 0),(.ptr 2 0)])::(.int .i64)::(.int .i64)::zd 12 ((.int .i64)::(.int .i64)::zd 55 [])),h:=[.cells [(.imm [.str,.str,.str])],.cells [(.int .i64)],.cells [(.ptr 1 0)]] }
def q0l:List Out:=[⟨(.exit 2),{ t:=(.any::(.ptr 0 0)::.any::.any::.any::(.ptr 2 0)::(.fn 63 [] [(.ptr 0 0),(.ptr 2 0)])::zd 14 ((.int .i64)::(.int .i64)::zd 55 [])),h:=[.cells [(.imm [.str,.str,.str])],.cells [(.int .i64)],.cells [(.ptr 1 0)]] }⟩,⟨.ret,{ t:=(.any::.any::(.vec 6)::(.int .i64)::zd 74 []),h:=[.dead,.dead,.dead,.dead,.dead,.dead,.vec 3 [(.int .i64)]] }⟩]
noncomputable def yg:=qj [(62,qc vj vg zi),(64,qc zR zV qK)] [(17,Tryz.f17),(63,Tryz.f63)] [((63,4),qv yl ym (qf zL))] 0
noncomputable def z6:=vA yg 17 Tryz.f17 15 q0h q0l
theorem q9v:qA Tryz.prog qe yg.nimp (qW Tryz.prog yg.iter 17) (zU Tryz.f17 15) (qv q0h q0l (qf z6)):=
 gk yg qh qa (alc wL (alc zQ aln)) (alc (lk Tryz.func63 q5m) aln) (alc (bk Tryz.func17) (alc (bk Tryz.func63) aln)) Tryz.func17
def q1h:Tmpl:={ t:=(.any::(.ptr 0 0)::.any::.any::.any::(.ptr 2 0)::(.fn 63 [] [(.ptr 0 0),(.ptr 2 0)])::zd 14 ((.int .i64)::(.int .i64)::zd 55 [])),h:=[.cells [(.imm [.str,.str,.str])],.cells [(.int .i64)],.cells [(.ptr 1 0)]] }
def q11:List Out:=[⟨(.exit 0),{ t:=(.any::(.ptr 0 0)::.any::.any::.any::(.ptr 2 0)::(.fn 63 [] [(.ptr 0 0),(.ptr 2 0)])::zd 71 []),h:=[.cells [(.imm [.str,.str,.str])],.cells [(.int .i64)],.cells [(.ptr 1 0)]] }⟩,⟨.ret,{ t:=(.any::.any::(.vec 6)::(.int .i64)::zd 74 []),h:=[.dead,.dead,.dead,.dead,.dead,.dead,.vec 3 [(.int .i64)]] }⟩]
noncomputable def yE:=qj [(62,qc vj vg zi),(64,qc zR zV qK)] [(17,Tryz.f17),(63,Tryz.f63)] [((17,15),qv q0h q0l (qf z6))] 0
noncomputable def qo:=vA yE 17 Tryz.f17 9 q1h q11
theorem q9Q:qA Tryz.prog qe yE.nimp (qW Tryz.prog yE.iter 17) (zU Tryz.f17 9) (qv q1h q11 (qf qo)):=
 gk yE qh qa (alc wL (alc zQ aln)) (alc (lk Tryz.func17 q9v) aln) (alc (bk Tryz.func17) (alc (bk Tryz.func63) aln)) Tryz.func17
def yq:Tmpl:={ t:=(.any::(.ptr 0 0)::(.ptr 2 0)::.any::.any::(.vec 4)::zd 4 ((.vec 3)::(.int .i64)::(.int .i64)::zd 26 [])),h:=[.cells [(.imm [.str,.str,.str])],.cells [(.int .i64)],.cells [(.ptr 1 0)],.vec 3 [(.int .i64)],.vec 40 [.str,.str,.str]],pro:=[(5,40,[.str,.str,.str])],fs:=[[.any,(.ptr 0 0),.any,.any,.any,(.ptr 2 0),(.fn 63 [] [(.ptr 0 0),(.ptr 2 0)]),.any,.any,(.int .i64),(.int .i64),(.int .i64),.any,.any,.any,.any,.any,.any,.any,.any,.any,.any,.any,.any,.any,.any,.any,.any,.any,.any,.any,.any,.any,.any,.any,.any,.any,.any,.any,.any,.any,.any,.any,(.int .i64),(.int .i64),.any,.any,.any,.any,.any,.any,.any,.any,.any,.any,.any,.any,(.int .i64),(.imm [.str,.str,.str]),(.int .i64),(.blit true),.any,.any,(.fn 63 [] [(.ptr 0 0),(.ptr 2 0)]),(.int .i64),(.int .i64),(.int .i64),(.vec 3),.any,.any,.any,.any,.any,.any,.any,.any,.any,.any],[]] }
def yo:List Out:=[⟨(.exit 0),{ t:=(.any::.any::(.ptr 2 0)::.any::.any::(.vec 4)::zd 33 []),h:=[.cells [(.imm [.str,.str,.str])],.cells [(.int .i64)],.cells [(.ptr 1 0)],.vec 3 [(.int .i64)],.vec 40 [.str,.str,.str]],fs:=[[.any,(.ptr 0 0),.any,.any,.any,(.ptr 2 0),(.fn 63 [] [(.ptr 0 0),(.ptr 2 0)]),.any,.any,(.int .i64),(.int .i64),(.int .i64),.any,.any,.any,.any,.any,.any,.any,.any,.any,.any,.any,.any,.any,.any,.any,.any,.any,.any,.any,.any,.any,.any,.any,.any,.any,.any,.any,.any,.any,.any,.any,(.int .i64),(.int .i64),.any,.any,.any,.any,.any,.any,.any,.any,.any,.any,.any,.any,(.int .i64),(.imm [.str,.str,.str]),(.int .i64),(.blit true),.any,.any,(.fn 63 [] [(.ptr 0 0),(.ptr 2 0)]),(.int .i64),(.int .i64),(.int .i64),(.vec 3),.any,.any,.any,.any,.any,.any,.any,.any,.any,.any],[]] }⟩]
noncomputable def vK:=qj [(62,qc vj vg zi),(64,qc zR zV qK)] [(17,Tryz.f17),(63,Tryz.f63)] [] 0
noncomputable def zO:=vA vK 63 Tryz.f63 4 yq yo
theorem q5n:qA Tryz.prog qe vK.nimp (qW Tryz.prog vK.iter 63) (zU Tryz.f63 4) (qv yq yo (qf zO)):=
 gk vK qh qa (alc wL (alc zQ aln)) aln (alc (bk Tryz.func17) (alc (bk Tryz.func63) aln)) Tryz.func63
def q0C:Tmpl:={ t:=(.any::(.ptr 0 0)::.any::.any::.any::(.ptr 2 0)::(.fn 63 [] [(.ptr 0 0),(.ptr 2 0)])::.any::.any::(.int .i64)::(.int .i64)::(.int .i64)::zd 31 ((.int .i64)::(.int .i64)::zd 33 [])),h:=[.cells [(.imm [.str,.str,.str])],.cells [(.int .i64)],.cells [(.ptr 1 0)]] }
def q0v:List Out:=[⟨(.exit 8),{ t:=(.any::(.ptr 0 0)::.any::.any::.any::(.ptr 2 0)::(.fn 63 [] [(.ptr 0 0),(.ptr 2 0)])::.any::.any::(.int .i64)::(.int .i64)::zd 32 ((.int .i64)::(.int .i64)::zd 33 [])),h:=[.cells [(.imm [.str,.str,.str])],.cells [(.int .i64)],.cells [(.ptr 1 0)]] }⟩,⟨.ret,{ t:=(.any::.any::(.vec 6)::(.int .i64)::zd 74 []),h:=[.dead,.dead,.dead,.dead,.dead,.dead,.vec 3 [(.int .i64)]] }⟩]
noncomputable def yj:=qj [(62,qc vj vg zi),(64,qc zR zV qK)] [(17,Tryz.f17),(63,Tryz.f63)] [((63,4),qv yq yo (qf zO))] 0
noncomputable def qO:=vA yj 17 Tryz.f17 34 q0C q0v
theorem q91:qA Tryz.prog qe yj.nimp (qW Tryz.prog yj.iter 17) (zU Tryz.f17 34) (qv q0C q0v (qf qO)):=
 gk yj qh qa (alc wL (alc zQ aln)) (alc (lk Tryz.func63 q5n) aln) (alc (bk Tryz.func17) (alc (bk Tryz.func63) aln)) Tryz.func17
def q0n:Tmpl:={ t:=(.any::(.ptr 0 0)::.any::.any::.any::(.ptr 2 0)::(.fn 63 [] [(.ptr 0 0),(.ptr 2 0)])::.any::.any::(.int .i64)::(.int .i64)::zd 32 ((.int .i64)::(.int .i64)::zd 33 [])),h:=[.cells [(.imm [.str,.str,.str])],.cells [(.int .i64)],.cells [(.ptr 1 0)]] }
def q0P:List Out:=[⟨(.exit 6),{ t:=(.any::(.ptr 0 0)::.any::.any::.any::(.ptr 2 0)::(.fn 63 [] [(.ptr 0 0),(.ptr 2 0)])::zd 36 ((.int .i64)::(.int .i64)::zd 33 [])),h:=[.cells [(.imm [.str,.str,.str])],.cells [(.int .i64)],.cells [(.ptr 1 0)]] }⟩,⟨.ret,{ t:=(.any::.any::(.vec 6)::(.int .i64)::zd 74 []),h:=[.dead,.dead,.dead,.dead,.dead,.dead,.vec 3 [(.int .i64)]] }⟩]
noncomputable def yh:=qj [(62,qc vj vg zi),(64,qc zR zV qK)] [(17,Tryz.f17),(63,Tryz.f63)] [((17,34),qv q0C q0v (qf qO))] 0
noncomputable def qZ:=vA yh 17 Tryz.f17 29 q0n q0P
theorem q9y:qA Tryz.prog qe yh.nimp (qW Tryz.prog yh.iter 17) (zU Tryz.f17 29) (qv q0n q0P (qf qZ)):=
 gk yh qh qa (alc wL (alc zQ aln)) (alc (lk Tryz.func17 q91) aln) (alc (bk Tryz.func17) (alc (bk Tryz.func63) aln)) Tryz.func17
def q0I:Tmpl:={ t:=(.any::(.ptr 0 0)::.any::.any::.any::(.ptr 2 0)::(.fn 63 [] [(.ptr 0 0),(.ptr 2 0)])::zd 36 ((.int .i64)::(.int .i64)::zd 33 [])),h:=[.cells [(.imm [.str,.str,.str])],.cells [(.int .i64)],.cells [(.ptr 1 0)]] }
def q0g:List Out:=[⟨(.exit 4),{ t:=(zd 5 ((.ptr 2 0)::zd 72 [])),h:=[.dead,.cells [(.int .i64)],.cells [(.ptr 1 0)]] }⟩,⟨.ret,{ t:=(.any::.any::(.vec 6)::(.int .i64)::zd 74 []),h:=[.dead,.dead,.dead,.dead,.dead,.dead,.vec 3 [(.int .i64)]] }⟩]
noncomputable def yi:=qj [(62,qc vj vg zi),(64,qc zR zV qK)] [(17,Tryz.f17),(63,Tryz.f63)] [((17,29),qv q0n q0P (qf qZ))] 0
noncomputable def zr:=vA yi 17 Tryz.f17 23 q0I q0g
theorem q8V:qA Tryz.prog qe yi.nimp (qW Tryz.prog yi.iter 17) (zU Tryz.f17 23) (qv q0I q0g (qf zr)):=
 gk yi qh qa (alc wL (alc zQ aln)) (alc (lk Tryz.func17 q9y) aln) (alc (bk Tryz.func17) (alc (bk Tryz.func63) aln)) Tryz.func17
noncomputable def q6y:=qj [(62,qc vj vg zi),(64,qc zR zV qK)] [(17,Tryz.f17),(63,Tryz.f63)] [((17,9),qv q1h q11 (qf qo)),((17,23),qv q0I q0g (qf zr))] 0
noncomputable def wY:=qT q6y 17 Tryz.f17 true uO kj
theorem q4h:wg Tryz.prog qe 17 (qc uO kj wY):=sk q6y qh qa (alc wL (alc zQ aln)) (alc (lk Tryz.func17 q9Q) (alc (lk Tryz.func17 q8V) aln)) (alc (bk Tryz.func17) (alc (bk Tryz.func63) aln)) Tryz.func17
def q1w:FIn:=⟨[(.imm [.str,.str,.str])],[]⟩
def q1G:List FOut:=[⟨(.tuple [.bool,(.agg [(.int .i64),(.int .i64),(.int .i64)]),(.int .i64)]),[],none⟩]
noncomputable def qgc:=qj [(62,qc vj vg zi),(64,qc zR zV qK)] [(23,Tryz.f23)] [] 0
noncomputable def v6:=qT qgc 23 Tryz.f23 true q1w q1G
theorem q2B:wg Tryz.prog qe 23 (qc q1w q1G v6):=sk qgc qh qa (alc wL (alc zQ aln)) aln (b1 Tryz.func23) Tryz.func23
def q4j:FIn:=⟨[.str,.str,.str],[]⟩
def q4d:List FOut:=[⟨(.agg [.str,.str,.str]),[],none⟩]
noncomputable def qk8:=qj [] [(25,Tryz.f25)] [] 0
noncomputable def zT:=qT qk8 25 Tryz.f25 true q4j q4d
theorem q4J:wg Tryz.prog qe 25 (qc q4j q4d zT):=sk qk8 qh qa aln aln (b1 Tryz.func25) Tryz.func25
def q1L:FIn:=⟨[(.imm [(.int .i64)]),(.imm [(.int .i64)])],[]⟩
def q1K:List FOut:=[⟨.bool,[],none⟩]
def q0p:Tmpl:={ t:=((.imm [(.int .i64)])::(.imm [(.int .i64)])::zd 10 ((.int .i64)::(.int .i64)::zd 12 [])),h:=[] }
def q0z:List Out:=[⟨(.exit 0),{ t:=(zd 26 []),h:=[] }⟩,⟨.ret,{ t:=(zd 4 (.bool::zd 21 [])),h:=[] }⟩]
noncomputable def yf:=qj [] [(50,Tryz.f50)] [] 0
noncomputable def wC:=vA yf 50 Tryz.f50 6 q0p q0z
theorem q9k:qA Tryz.prog qe yf.nimp (qW Tryz.prog yf.iter 50) (zU Tryz.f50 6) (qv q0p q0z (qf wC)):=
 gk yf qh qa aln aln (b1 Tryz.func50) Tryz.func50
noncomputable def q5o:=qj [] [(50,Tryz.f50)] [((50,6),qv q0p q0z (qf wC))] 0
noncomputable def vl:=qT q5o 50 Tryz.f50 true q1L q1K
theorem qaH:wg Tryz.prog qe 50 (qc q1L q1K vl):=sk q5o qh qa aln (alc (lk Tryz.func50 q9k) aln) (b1 Tryz.func50) Tryz.func50
def kq:FIn:=⟨[(.ptr 0 0),.str,.str],[.cells [(.int .i64)]]⟩
def kh:List FOut:=[⟨(.int .i64),[.cells [(.int .i64)]],none⟩]
noncomputable def qa3:=qj [(116,qc q0j q0b wA),(117,qc yn yt qz)] [(76,Tryz.f76)] [] 1
noncomputable def zq:=qT qa3 76 Tryz.f76 true kq kh
theorem q2k:wg Tryz.prog qe 76 (qc kq kh zq):=sk qa3 qh qa (alc q33 (alc u6 aln)) aln (b1 Tryz.func76) Tryz.func76
def q1o:FIn:=⟨[(.ptr 0 0),(.agg [.str,.str]),(.agg [.str,.str])],[.cells [(.int .i64)]]⟩
def q1j:List FOut:=[⟨.str,[.cells [(.int .i64)]],none⟩]
noncomputable def qdm:=qj [(118,qc q0J q0f qH),(119,qc q1l q1q zM)] [(77,Tryz.f77)] [] 1
noncomputable def jm:=qT qdm 77 Tryz.f77 true q1o q1j
theorem q44:wg Tryz.prog qe 77 (qc q1o q1j jm):=sk qdm qh qa (alc q37 (alc q3Y aln)) aln (b1 Tryz.func77) Tryz.func77
def q0o:FIn:=⟨[(.ptr 0 0),(.agg [.str,.str,.str]),(.agg [.str,.str,.str]),.str],[.cells [(.int .i64)]]⟩
def q0k:List FOut:=[⟨(.int .i64),[.cells [(.int .i64)]],none⟩]
noncomputable def qbv:=qj [(77,qc q1o q1j jm),(116,qc q0j q0b wA),(117,qc yn yt qz),(141,qc uC uy zu),(142,qc uv uG qu)] [(99,Tryz.f99)] [] 1
noncomputable def wM:=qT qbv 99 Tryz.f99 true q0o q0k
theorem q32:wg Tryz.prog qe 99 (qc q0o q0k wM):=sk qbv qh qa (alc q44 (alc q33 (alc u6 (alc q0V (alc q0Y aln))))) aln (b1 Tryz.func99) Tryz.func99
def vQ:FIn:=⟨[(.ptr 0 0),(.agg [.str,.str,.str]),(.agg [.str,.str,.str])],[.cells [(.int .i64)]]⟩
def vR:List FOut:=[⟨.bool,[.cells [(.int .i64)]],none⟩]
noncomputable def q8N:=qj [(76,qc kq kh zq),(99,qc q0o q0k wM)] [(67,Tryz.f67)] [] 1
noncomputable def qE:=qT q8N 67 Tryz.f67 true vQ vR
theorem js:wg Tryz.prog qe 67 (qc vQ vR qE):=sk q8N qh qa (alc q2k (alc q32 aln)) aln (b1 Tryz.func67) Tryz.func67
def qaN:FIn:=⟨[(.agg [.str,.str,.str]),(.agg [.str,.str,.str])],[]⟩
def qap:List FOut:=[⟨(.tuple [(.int .i64),(.int .i64)]),[],none⟩]
def q6L:Tmpl:={ t:=(.any::.any::(.ptr 0 0)::(.ptr 1 0)::zd 9 ((.vec 2)::(.int .i64)::(.int .i64)::zd 36 [])),h:=[.cells [.str,.str,.str],.cells [.str,.str,.str],.vec 40 [.str,.str,.str]] }
def q70:List Out:=[⟨(.exit 0),{ t:=(.any::.any::(.ptr 0 0)::(.ptr 1 0)::zd 48 []),h:=[.cells [.str,.str,.str],.cells [.str,.str,.str]] }⟩,⟨.ret,{ t:=(zd 4 ((.int .i64)::(.int .i64)::zd 46 [])),h:=[] }⟩]
noncomputable def q3S:=qj [(67,qc vQ vR qE),(74,qc uK uL wt),(99,qc q0o q0k wM)] [(61,Tryz.f61)] [] 0
noncomputable def q1p:=vA q3S 61 Tryz.f61 3 q6L q70
theorem qgw:qA Tryz.prog qe q3S.nimp (qW Tryz.prog q3S.iter 61) (zU Tryz.f61 3) (qv q6L q70 (qf q1p)):=
 gk q3S qh qa (alc js (alc uz (alc q32 aln))) aln (b1 Tryz.func61) Tryz.func61
noncomputable def qfB:=qj [(67,qc vQ vR qE),(74,qc uK uL wt),(99,qc q0o q0k wM)] [(61,Tryz.f61)] [((61,3),qv q6L q70 (qf q1p))] 0
noncomputable def q3B:=qT qfB 61 Tryz.f61 true qaN qap
theorem qjf:wg Tryz.prog qe 61 (qc qaN qap q3B):=sk qfB qh qa (alc js (alc uz (alc q32 aln))) (alc (lk Tryz.func61 qgw) aln) (b1 Tryz.func61) Tryz.func61
def q2E:FIn:=⟨[],[]⟩
def q2P:List FOut:=[⟨.bool,[],none⟩]
noncomputable def qhy:=qj [(17,qc uO kj wY),(23,qc q1w q1G v6),(25,qc q4j q4d zT),(50,qc q1L q1K vl),(61,qc qaN qap q3B)] [(16,Tryz.f16)] [] 0
noncomputable def zA:=qT qhy 16 Tryz.f16 true q2E q2P
theorem q3J:wg Tryz.prog qe 16 (qc q2E q2P zA):=sk qhy qh qa (alc q4h (alc q2B (alc q4J (alc qaH (alc qjf aln))))) aln (b1 Tryz.func16) Tryz.func16
def q7t:FIn:=⟨[.str],[]⟩
def q8a:List FOut:=[⟨(.int .i64),[],none⟩]
def q8A:Tmpl:={ t:=(.str::.any::.any::(.int .i64)::zd 11 []),h:=[] }
def q8P:List Out:=[⟨(.exit 0),{ t:=(zd 15 []),h:=[] }⟩,⟨.ret,{ t:=(.any::.any::(.int .i64)::zd 12 []),h:=[] }⟩]
noncomputable def q5i:=qj [] [(93,Tryz.f93)] [] 0
noncomputable def ud:=vA q5i 93 Tryz.f93 3 q8A q8P
theorem qid:qA Tryz.prog qe q5i.nimp (qW Tryz.prog q5i.iter 93) (zU Tryz.f93 3) (qv q8A q8P (qf ud)):=
 gk q5i qh qa aln aln (b1 Tryz.func93) Tryz.func93
noncomputable def qim:=qj [] [(93,Tryz.f93)] [((93,3),qv q8A q8P (qf ud))] 0
noncomputable def wT:=qT qim 93 Tryz.f93 true q7t q8a
theorem qdy:wg Tryz.prog qe 93 (qc q7t q8a wT):=sk qim qh qa aln (alc (lk Tryz.func93 qid) aln) (b1 Tryz.func93) Tryz.func93
def q4z:FIn:=⟨[.str],[]⟩
def q4S:List FOut:=[⟨(.tuple [.str,.str]),[],none⟩]
noncomputable def qiz:=qj [(93,qc q7t q8a wT)] [(86,Tryz.f86)] [] 0
noncomputable def qp:=qT qiz 86 Tryz.f86 true q4z q4S
theorem q6U:wg Tryz.prog qe 86 (qc q4z q4S qp):=sk qiz qh qa (alc qdy aln) aln (b1 Tryz.func86) Tryz.func86
def vk:FIn:=⟨[.str],[]⟩
def v8:List FOut:=[⟨.str,[],none⟩]
noncomputable def qk6:=qj [] [(108,Tryz.f108)] [] 0
noncomputable def qg:=qT qk6 108 Tryz.f108 true vk v8
theorem wI:wg Tryz.prog qe 108 (qc vk v8 qg):=sk qk6 qh qa aln aln (b1 Tryz.func108) Tryz.func108
def qbR:FIn:=⟨[.str],[]⟩
def qcG:List FOut:=[⟨(.int .i64),[],none⟩]
def q8t:Tmpl:={ t:=(.any::.any::.any::.str::(.int .i64)::zd 38 []),h:=[] }
def q99:List Out:=[⟨(.exit 0),{ t:=(.any::.any::.any::.str::zd 39 []),h:=[] }⟩,⟨.ret,{ t:=(.any::.any::(.int .i64)::zd 40 []),h:=[] }⟩]
noncomputable def q4t:=qj [(108,qc vk v8 qg)] [(92,Tryz.f92)] [] 0
noncomputable def wJ:=vA q4t 92 Tryz.f92 7 q8t q99
theorem qif:qA Tryz.prog qe q4t.nimp (qW Tryz.prog q4t.iter 92) (zU Tryz.f92 7) (qv q8t q99 (qf wJ)):=
 gk q4t qh qa (alc wI aln) aln (b1 Tryz.func92) Tryz.func92
noncomputable def qiC:=qj [(108,qc vk v8 qg)] [(92,Tryz.f92)] [((92,7),qv q8t q99 (qf wJ))] 0
noncomputable def vJ:=qT qiC 92 Tryz.f92 true qbR qcG
theorem qks:wg Tryz.prog qe 92 (qc qbR qcG vJ):=sk qiC qh qa (alc wI aln) (alc (lk Tryz.func92 qif) aln) (b1 Tryz.func92) Tryz.func92
def jL:FIn:=⟨[.str],[]⟩
def jH:List FOut:=[⟨.bool,[],none⟩]
noncomputable def qhH:=qj [] [(104,Tryz.f104)] [] 0
noncomputable def qm:=qT qhH 104 Tryz.f104 true jL jH
theorem jn:wg Tryz.prog qe 104 (qc jL jH qm):=sk qhH qh qa aln aln (b1 Tryz.func104) Tryz.func104
def jF:FIn:=⟨[.str,.bool],[]⟩
def jS:List FOut:=[⟨.str,[],none⟩]
noncomputable def qfF:=qj [] [(109,Tryz.f109)] [] 0
noncomputable def qD:=qT qfF 109 Tryz.f109 true jF jS
theorem jB:wg Tryz.prog qe 109 (qc jF jS qD):=sk qfF qh qa aln aln (b1 Tryz.func109) Tryz.func109
def yR:FIn:=⟨[.str],[]⟩
def yK:List FOut:=[⟨.str,[],none⟩]
noncomputable def qfL:=qj [(104,qc jL jH qm),(108,qc vk v8 qg),(109,qc jF jS qD)] [(105,Tryz.f105)] [] 0
noncomputable def qU:=qT qfL 105 Tryz.f105 true yR yK
theorem yW:wg Tryz.prog qe 105 (qc yR yK qU):=sk qfL qh qa (alc jn (alc wI (alc jB aln))) aln (b1 Tryz.func105) Tryz.func105
def qcn:FIn:=⟨[(.int .i64)],[]⟩
def qc6:List FOut:=[⟨.str,[],none⟩]
def qbW:Tmpl:={ t:=((.int .i64)::.any::.any::.str::zd 33 []),h:=[] }
def qca:List Out:=[⟨(.exit 0),{ t:=((.int .i64)::.any::.any::.str::zd 33 []),h:=[] }⟩]
noncomputable def q8d:=qj [(105,qc yR yK qU)] [] [] 0
noncomputable def v7:=vA q8d 73 Tryz.f73 9 qbW qca
theorem qkD:qA Tryz.prog qe q8d.nimp (qW Tryz.prog q8d.iter 73) (zU Tryz.f73 9) (qv qbW qca (qf v7)):=
 gk q8d qh qa (alc yW aln) aln aln Tryz.func73
noncomputable def qlp:=qj [(105,qc yR yK qU)] [] [((73,9),qv qbW qca (qf v7))] 0
noncomputable def ul:=qT qlp 73 Tryz.f73 true qcn qc6
theorem qfP:wg Tryz.prog qe 73 (qc qcn qc6 ul):=sk qlp qh qa (alc yW aln) (alc (lk Tryz.func73 qkD) aln) aln Tryz.func73
def q2W:FIn:=⟨[(.int .i64)],[]⟩
def q2J:List FOut:=[⟨.str,[],none⟩]
def qeo:Tmpl:={ t:=((.int .i64)::.any::.any::.str::zd 33 []),h:=[] }
def qeC:List Out:=[⟨(.exit 0),{ t:=((.int .i64)::.any::.any::.str::zd 33 []),h:=[] }⟩]
noncomputable def qai:=qj [(73,qc qcn qc6 ul),(105,qc yR yK qU)] [] [] 0
noncomputable def vS:=vA qai 73 Tryz.f73 9 qeo qeC
theorem qlT:qA Tryz.prog qe qai.nimp (qW Tryz.prog qai.iter 73) (zU Tryz.f73 9) (qv qeo qeC (qf vS)):=
 gk qai qh qa (alc qfP (alc yW aln)) aln aln Tryz.func73
noncomputable def qoe:=qj [(73,qc qcn qc6 ul),(105,qc yR yK qU)] [] [((73,9),qv qeo qeC (qf vS))] 0
noncomputable def zP:=qT qoe 73 Tryz.f73 true q2W q2J
theorem q1b:wg Tryz.prog qe 73 (qc q2W q2J zP):=sk qoe qh qa (alc qfP (alc yW aln)) (alc (lk Tryz.func73 qlT) aln) aln Tryz.func73
def qao:FIn:=⟨[.str],[]⟩
def qb2:List FOut:=[⟨(.int .i64),[],none⟩]
def q7i:Tmpl:={ t:=(.str::.any::.any::(.int .i64)::.str::(.int .i64)::zd 21 []),h:=[] }
def q7k:List Out:=[⟨(.exit 0),{ t:=(.str::.any::.any::(.int .i64)::zd 23 []),h:=[] }⟩]
noncomputable def q3L:=qj [(104,qc jL jH qm),(108,qc vk v8 qg)] [(148,Tryz.f148)] [] 0
noncomputable def wZ:=vA q3L 148 Tryz.f148 4 q7i q7k
theorem qgY:qA Tryz.prog qe q3L.nimp (qW Tryz.prog q3L.iter 148) (zU Tryz.f148 4) (qv q7i q7k (qf wZ)):=
 gk q3L qh qa (alc jn (alc wI aln)) aln (b1 Tryz.func148) Tryz.func148
noncomputable def qfv:=qj [(104,qc jL jH qm),(108,qc vk v8 qg)] [(148,Tryz.f148)] [((148,4),qv q7i q7k (qf wZ))] 0
noncomputable def yN:=qT qfv 148 Tryz.f148 true qao qb2
theorem qjl:wg Tryz.prog qe 148 (qc qao qb2 yN):=sk qfv qh qa (alc jn (alc wI aln)) (alc (lk Tryz.func148 qgY) aln) (b1 Tryz.func148) Tryz.func148
def uP:FIn:=⟨[.str,.str],[]⟩
def kr:List FOut:=[⟨(.tuple [(.int .i64),(.int .i64),.bool]),[],none⟩]
noncomputable def qiN:=qj [(108,qc vk v8 qg),(148,qc qao qb2 yN)] [(107,Tryz.f107)] [] 0
noncomputable def qP:=qT qiN 107 Tryz.f107 true uP kr
theorem uE:wg Tryz.prog qe 107 (qc uP kr qP):=sk qiN qh qa (alc wI (alc qjl aln)) aln (b1 Tryz.func107) Tryz.func107
def q9W:FIn:=⟨[.str,(.int .i64)],[]⟩
def qaf:List FOut:=[⟨.str,[],none⟩]
def qav:Tmpl:={ t:=(.str::(.int .i64)::.any::.any::.any::(.vec 0)::(.int .i64)::zd 20 []),h:=[.vec 5 [(.int .u8)]] }
def qaL:List Out:=[⟨(.exit 0),{ t:=(.str::(.int .i64)::.any::.any::.any::(.vec 0)::zd 21 []),h:=[.vec 5 [(.int .u8)]] }⟩]
noncomputable def q60:=qj [] [(149,Tryz.f149)] [] 0
noncomputable def zt:=vA q60 149 Tryz.f149 4 qav qaL
theorem qjJ:qA Tryz.prog qe q60.nimp (qW Tryz.prog q60.iter 149) (zU Tryz.f149 4) (qv qav qaL (qf zt)):=
 gk q60 qh qa aln aln (b1 Tryz.func149) Tryz.func149
noncomputable def qkj:=qj [] [(149,Tryz.f149)] [((149,4),qv qav qaL (qf zt))] 0
noncomputable def j0:=qT qkj 149 Tryz.f149 true q9W qaf
theorem qe8:wg Tryz.prog qe 149 (qc q9W qaf j0):=sk qkj qh qa aln (alc (lk Tryz.func149 qjJ) aln) (b1 Tryz.func149) Tryz.func149
def q6c:FIn:=⟨[(.int .u8),(.int .u8),(.int .i64),.bool],[]⟩
def q6b:List FOut:=[⟨(.tuple [(.int .u8),(.int .i64)]),[],none⟩]
noncomputable def qfA:=qj [] [(150,Tryz.f150)] [] 0
noncomputable def yO:=qT qfA 150 Tryz.f150 true q6c q6b
theorem qbh:wg Tryz.prog qe 150 (qc q6c q6b yO):=sk qfA qh qa aln aln (b1 Tryz.func150) Tryz.func150
def jY:FIn:=⟨[.str],[]⟩
def jX:List FOut:=[⟨.str,[],none⟩]
def qaG:Tmpl:={ t:=(.str::zd 13 []),h:=[] }
def qay:List Out:=[⟨(.exit 0),{ t:=(.str::zd 13 []),h:=[] }⟩]
noncomputable def q69:=qj [] [(151,Tryz.f151)] [] 0
noncomputable def q1y:=vA q69 151 Tryz.f151 2 qaG qay
theorem qjw:qA Tryz.prog qe q69.nimp (qW Tryz.prog q69.iter 151) (zU Tryz.f151 2) (qv qaG qay (qf q1y)):=
 gk q69 qh qa aln aln (b1 Tryz.func151) Tryz.func151
noncomputable def qk3:=qj [] [(151,Tryz.f151)] [((151,2),qv qaG qay (qf q1y))] 0
noncomputable def ze:=qT qk3 151 Tryz.f151 true jY jX
theorem j6:wg Tryz.prog qe 151 (qc jY jX ze):=sk qk3 qh qa aln (alc (lk Tryz.func151 qjw) aln) (b1 Tryz.func151) Tryz.func151
def q2C:FIn:=⟨[.str,.str,.bool],[]⟩
def q2T:List FOut:=[⟨.str,[],none⟩]
def q9D:Tmpl:={ t:=(.str::.str::.bool::zd 5 ((.vec 0)::(.int .i64)::(.int .i64)::zd 38 [])),h:=[.vec 5 [(.int .u8)]] }
def q8T:List Out:=[⟨(.exit 0),{ t:=(zd 8 ((.vec 0)::zd 40 [])),h:=[.vec 5 [(.int .u8)]] }⟩]
noncomputable def q4r:=qj [(149,qc q9W qaf j0),(150,qc q6c q6b yO),(151,qc jY jX ze)] [(110,Tryz.f110)] [] 0
noncomputable def jZ:=vA q4r 110 Tryz.f110 7 q9D q8T
theorem qhM:qA Tryz.prog qe q4r.nimp (qW Tryz.prog q4r.iter 110) (zU Tryz.f110 7) (qv q9D q8T (qf jZ)):=
 gk q4r qh qa (alc qe8 (alc qbh (alc j6 aln))) aln (b1 Tryz.func110) Tryz.func110
noncomputable def qiG:=qj [(149,qc q9W qaf j0),(150,qc q6c q6b yO),(151,qc jY jX ze)] [(110,Tryz.f110)] [((110,7),qv q9D q8T (qf jZ))] 0
noncomputable def zD:=qT qiG 110 Tryz.f110 true q2C q2T
theorem q3I:wg Tryz.prog qe 110 (qc q2C q2T zD):=sk qiG qh qa (alc qe8 (alc qbh (alc j6 aln))) (alc (lk Tryz.func110 qhM) aln) (b1 Tryz.func110) Tryz.func110
def q4e:FIn:=⟨[.str,.str],[]⟩
def q4g:List FOut:=[⟨.bool,[],none⟩]
noncomputable def qkm:=qj [] [(111,Tryz.f111)] [] 0
noncomputable def ya:=qT qkm 111 Tryz.f111 true q4e q4g
theorem q5k:wg Tryz.prog qe 111 (qc q4e q4g ya):=sk qkm qh qa aln aln (b1 Tryz.func111) Tryz.func111
def q9X:FIn:=⟨[.str,.str],[]⟩
def qak:List FOut:=[⟨.str,[],none⟩]
noncomputable def qkp:=qj [(73,qc q2W q2J zP),(104,qc jL jH qm),(107,qc uP kr qP),(108,qc vk v8 qg),(109,qc jF jS qD),(110,qc q2C q2T zD),(111,qc q4e q4g ya)] [(72,Tryz.f72)] [] 0
noncomputable def yL:=qT qkp 72 Tryz.f72 true q9X qak
theorem qeq:wg Tryz.prog qe 72 (qc q9X qak yL):=sk qkp qh qa (alc q1b (alc jn (alc uE (alc wI (alc jB (alc q3I (alc q5k aln))))))) aln (b1 Tryz.func72) Tryz.func72
def q4U:FIn:=⟨[.str,.str],[]⟩
def q54:List FOut:=[⟨.str,[],none⟩]
noncomputable def qiF:=qj [(72,qc q9X qak yL),(105,qc yR yK qU)] [(96,Tryz.f96)] [] 0
noncomputable def wU:=qT qiF 96 Tryz.f96 true q4U q54
theorem q7c:wg Tryz.prog qe 96 (qc q4U q54 wU):=sk qiF qh qa (alc qeq (alc yW aln)) aln (b1 Tryz.func96) Tryz.func96
def q4C:FIn:=⟨[.str,.str],[]⟩
def q4x:List FOut:=[⟨(.int .i64),[],none⟩]
noncomputable def qhw:=qj [(96,qc q4U q54 wU),(104,qc jL jH qm)] [(94,Tryz.f94)] [] 0
noncomputable def jM:=qT qhw 94 Tryz.f94 true q4C q4x
theorem q7d:wg Tryz.prog qe 94 (qc q4C q4x jM):=sk qhw qh qa (alc q7c (alc jn aln)) aln (b1 Tryz.func94) Tryz.func94
def q90:FIn:=⟨[.str,.str],[]⟩
def q8Q:List FOut:=[⟨.str,[],none⟩]
def q5H:Tmpl:={ t:=(.str::.str::.any::.any::.any::(.vec 0)::(.int .i64)::(.int .i64)::zd 69 []),h:=[.vec 3 [(.int .i64)]] }
def q5J:List Out:=[⟨(.exit 2),{ t:=(.str::.str::.any::.any::.any::(.vec 0)::(.int .i64)::zd 70 []),h:=[.vec 3 [(.int .i64)]] }⟩]
noncomputable def q2D:=qj [(151,qc jY jX ze)] [(146,Tryz.f146)] [] 0
noncomputable def wN:=vA q2D 146 Tryz.f146 9 q5H q5J
theorem qfp:qA Tryz.prog qe q2D.nimp (qW Tryz.prog q2D.iter 146) (zU Tryz.f146 9) (qv q5H q5J (qf wN)):=
 gk q2D qh qa (alc j6 aln) aln (b1 Tryz.func146) Tryz.func146
def q5B:Tmpl:={ t:=(.str::.str::.any::.any::.any::(.vec 0)::(.int .i64)::zd 70 []),h:=[.vec 3 [(.int .i64)]] }
def q5R:List Out:=[⟨(.exit 0),{ t:=(zd 5 ((.vec 0)::zd 71 [])),h:=[.vec 3 [(.int .i64)]] }⟩]
noncomputable def q2Q:=qj [(151,qc jY jX ze)] [(146,Tryz.f146)] [((146,9),qv q5H q5J (qf wN))] 0
noncomputable def zb:=vA q2Q 146 Tryz.f146 4 q5B q5R
theorem qfo:qA Tryz.prog qe q2Q.nimp (qW Tryz.prog q2Q.iter 146) (zU Tryz.f146 4) (qv q5B q5R (qf zb)):=
 gk q2Q qh qa (alc j6 aln) (alc (lk Tryz.func146 qfp) aln) (b1 Tryz.func146) Tryz.func146
def q5c:Tmpl:={ t:=(zd 5 ((.vec 0)::.any::.any::(.vec 1)::(.int .i64)::(.int .i64)::zd 66 [])),h:=[.vec 3 [(.int .i64)],.vec 5 [(.int .u8)]] }
def q53:List Out:=[⟨(.exit 4),{ t:=(zd 8 ((.vec 1)::zd 68 [])),h:=[.dead,.vec 5 [(.int .u8)]] }⟩]
noncomputable def q1Q:=qj [(151,qc jY jX ze)] [(146,Tryz.f146)] [] 0
noncomputable def ve:=vA q1Q 146 Tryz.f146 17 q5c q53
theorem qeu:qA Tryz.prog qe q1Q.nimp (qW Tryz.prog q1Q.iter 146) (zU Tryz.f146 17) (qv q5c q53 (qf ve)):=
 gk q1Q qh qa (alc j6 aln) aln (b1 Tryz.func146) Tryz.func146
noncomputable def qei:=qj [(151,qc jY jX ze)] [(146,Tryz.f146)] [((146,4),qv q5B q5R (qf zb)),((146,17),qv q5c q53 (qf ve))] 0
noncomputable def vE:=qT qei 146 Tryz.f146 true q90 q8Q
theorem qhc:wg Tryz.prog qe 146 (qc q90 q8Q vE):=sk qei qh qa (alc j6 aln) (alc (lk Tryz.func146 qfo) (alc (lk Tryz.func146 qeu) aln)) (b1 Tryz.func146) Tryz.func146
def q7F:FIn:=⟨[.str,.str],[]⟩
def q7A:List FOut:=[⟨.str,[],none⟩]
noncomputable def qil:=qj [(73,qc q2W q2J zP),(104,qc jL jH qm),(107,qc uP kr qP),(108,qc vk v8 qg),(109,qc jF jS qD),(146,qc q90 q8Q vE)] [(103,Tryz.f103)] [] 0
noncomputable def zz:=qT qil 103 Tryz.f103 true q7F q7A
theorem qd2:wg Tryz.prog qe 103 (qc q7F q7A zz):=sk qil qh qa (alc q1b (alc jn (alc uE (alc wI (alc jB (alc qhc aln)))))) aln (b1 Tryz.func103) Tryz.func103
def q8O:FIn:=⟨[.str,.str],[]⟩
def q9w:List FOut:=[⟨(.tuple [.str,.str]),[],none⟩]
def q5d:Tmpl:={ t:=(.str::.str::zd 4 (.str::.str::(.int .i64)::(.int .u8)::zd 31 [])),h:=[] }
def q5e:List Out:=[⟨(.exit 2),{ t:=(.str::.str::zd 4 (.str::.str::(.int .i64)::(.int .u8)::zd 31 [])),h:=[] }⟩]
noncomputable def q23:=qj [(110,qc q2C q2T zD),(111,qc q4e q4g ya),(151,qc jY jX ze)] [(147,Tryz.f147)] [] 0
noncomputable def zk:=vA q23 147 Tryz.f147 11 q5d q5e
theorem qe6:qA Tryz.prog qe q23.nimp (qW Tryz.prog q23.iter 147) (zU Tryz.f147 11) (qv q5d q5e (qf zk)):=
 gk q23 qh qa (alc q3I (alc q5k (alc j6 aln))) aln (b1 Tryz.func147) Tryz.func147
def q5U:Tmpl:={ t:=(.str::.str::zd 4 (.str::.str::(.int .i64)::zd 32 [])),h:=[] }
def q5O:List Out:=[⟨(.exit 0),{ t:=(zd 6 (.str::.str::zd 33 [])),h:=[] }⟩]
noncomputable def q2F:=qj [(110,qc q2C q2T zD),(111,qc q4e q4g ya),(151,qc jY jX ze)] [(147,Tryz.f147)] [((147,11),qv q5d q5e (qf zk))] 0
noncomputable def vZ:=vA q2F 147 Tryz.f147 4 q5U q5O
theorem qfh:qA Tryz.prog qe q2F.nimp (qW Tryz.prog q2F.iter 147) (zU Tryz.f147 4) (qv q5U q5O (qf vZ)):=
 gk q2F qh qa (alc q3I (alc q5k (alc j6 aln))) (alc (lk Tryz.func147 qe6) aln) (b1 Tryz.func147) Tryz.func147
noncomputable def qej:=qj [(110,qc q2C q2T zD),(111,qc q4e q4g ya),(151,qc jY jX ze)] [(147,Tryz.f147)] [((147,4),qv q5U q5O (qf vZ))] 0
noncomputable def q2v:=qT qej 147 Tryz.f147 true q8O q9w
theorem qh9:wg Tryz.prog qe 147 (qc q8O q9w q2v):=sk qej qh qa (alc q3I (alc q5k (alc j6 aln))) (alc (lk Tryz.func147 qfh) aln) (b1 Tryz.func147) Tryz.func147
def q1B:FIn:=⟨[.str,.str],[]⟩
def q1v:List FOut:=[⟨(.tuple [.str,.str]),[],none⟩]
noncomputable def qfy:=qj [(73,qc q2W q2J zP),(96,qc q4U q54 wU),(103,qc q7F q7A zz),(104,qc jL jH qm),(107,qc uP kr qP),(108,qc vk v8 qg),(109,qc jF jS qD),(147,qc q8O q9w q2v)] [(106,Tryz.f106)] [] 0
noncomputable def qQ:=qT qfy 106 Tryz.f106 true q1B q1v
theorem q2U:wg Tryz.prog qe 106 (qc q1B q1v qQ):=sk qfy qh qa (alc q1b (alc q7c (alc qd2 (alc jn (alc uE (alc wI (alc jB (alc qh9 aln)))))))) aln (b1 Tryz.func106) Tryz.func106
def q68:FIn:=⟨[.str,.str],[]⟩
def q5X:List FOut:=[⟨.str,[],none⟩]
def q5P:Tmpl:={ t:=(zd 5 ((.int .i64)::(.int .i64)::zd 36 [])),h:=[] }
def q5A:List Out:=[⟨(.exit 2),{ t:=(zd 5 ((.int .i64)::zd 37 [])),h:=[] }⟩]
noncomputable def q2I:=qj [(73,qc q2W q2J zP),(106,qc q1B q1v qQ),(107,qc uP kr qP),(108,qc vk v8 qg),(109,qc jF jS qD)] [(95,Tryz.f95)] [] 0
noncomputable def vW:=vA q2I 95 Tryz.f95 10 q5P q5A
theorem qfm:qA Tryz.prog qe q2I.nimp (qW Tryz.prog q2I.iter 95) (zU Tryz.f95 10) (qv q5P q5A (qf vW)):=
 gk q2I qh qa (alc q1b (alc q2U (alc uE (alc wI (alc jB aln))))) aln (b1 Tryz.func95) Tryz.func95
def q6Z:Tmpl:={ t:=(.str::.str::zd 41 []),h:=[] }
def q6I:List Out:=[⟨(.exit 0),{ t:=(.str::zd 42 []),h:=[] }⟩,⟨.ret,{ t:=(zd 4 (.str::zd 38 [])),h:=[] }⟩]
noncomputable def q3V:=qj [(73,qc q2W q2J zP),(106,qc q1B q1v qQ),(107,qc uP kr qP),(108,qc vk v8 qg),(109,qc jF jS qD)] [(95,Tryz.f95)] [((95,10),qv q5P q5A (qf vW))] 0
noncomputable def jk:=vA q3V 95 Tryz.f95 3 q6Z q6I
theorem qgF:qA Tryz.prog qe q3V.nimp (qW Tryz.prog q3V.iter 95) (zU Tryz.f95 3) (qv q6Z q6I (qf jk)):=
 gk q3V qh qa (alc q1b (alc q2U (alc uE (alc wI (alc jB aln))))) (alc (lk Tryz.func95 qfm) aln) (b1 Tryz.func95) Tryz.func95
noncomputable def qfu:=qj [(73,qc q2W q2J zP),(106,qc q1B q1v qQ),(107,qc uP kr qP),(108,qc vk v8 qg),(109,qc jF jS qD)] [(95,Tryz.f95)] [((95,3),qv q6Z q6I (qf jk))] 0
noncomputable def qS:=qT qfu 95 Tryz.f95 true q68 q5X
theorem qbs:wg Tryz.prog qe 95 (qc q68 q5X qS):=sk qfu qh qa (alc q1b (alc q2U (alc uE (alc wI (alc jB aln))))) (alc (lk Tryz.func95 qgF) aln) (b1 Tryz.func95) Tryz.func95
def q7G:FIn:=⟨[.str],[]⟩
def q7y:List FOut:=[⟨(.int .i64),[],none⟩]
noncomputable def qiL:=qj [(86,qc q4z q4S qp),(92,qc qbR qcG vJ),(93,qc q7t q8a wT),(94,qc q4C q4x jM),(95,qc q68 q5X qS)] [(54,Tryz.f54)] [] 0
noncomputable def ka:=qT qiL 54 Tryz.f54 true q7G q7y
theorem qdw:wg Tryz.prog qe 54 (qc q7G q7y ka):=sk qiL qh qa (alc q6U (alc qks (alc qdy (alc q7d (alc qbs aln))))) aln (b1 Tryz.func54) Tryz.func54
def q1E:FIn:=⟨[.str],[]⟩
def q1D:List FOut:=[⟨(.int .i64),[],none⟩]
noncomputable def qfZ:=qj [(86,qc q4z q4S qp),(94,qc q4C q4x jM)] [(144,Tryz.f144)] [] 0
noncomputable def jC:=qT qfZ 144 Tryz.f144 true q1E q1D
theorem q2R:wg Tryz.prog qe 144 (qc q1E q1D jC):=sk qfZ qh qa (alc q6U (alc q7d aln)) aln (b1 Tryz.func144) Tryz.func144
def q7u:FIn:=⟨[(.agg [.str,.str,.str])],[]⟩
def q7H:List FOut:=[⟨(.int .i64),[],none⟩]
def q8R:Tmpl:={ t:=(.any::(.ptr 0 0)::zd 12 ((.vec 1)::(.int .i64)::(.int .i64)::zd 13 [])),h:=[.cells [.str,.str,.str],.vec 36 [.str]] }
def q8y:List Out:=[⟨(.exit 0),{ t:=(.any::(.ptr 0 0)::zd 28 []),h:=[.cells [.str,.str,.str]] }⟩,⟨.ret,{ t:=(.any::.any::(.int .i64)::zd 27 []),h:=[] }⟩]
noncomputable def q4F:=qj [(54,qc q7G q7y ka),(144,qc q1E q1D jC)] [(101,Tryz.f101)] [] 0
noncomputable def jb:=vA q4F 101 Tryz.f101 3 q8R q8y
theorem qhe:qA Tryz.prog qe q4F.nimp (qW Tryz.prog q4F.iter 101) (zU Tryz.f101 3) (qv q8R q8y (qf jb)):=
 gk q4F qh qa (alc qdw (alc q2R aln)) aln (b1 Tryz.func101) Tryz.func101
noncomputable def qhg:=qj [(54,qc q7G q7y ka),(144,qc q1E q1D jC)] [(101,Tryz.f101)] [((101,3),qv q8R q8y (qf jb))] 0
noncomputable def uH:=qT qhg 101 Tryz.f101 true q7u q7H
theorem qds:wg Tryz.prog qe 101 (qc q7u q7H uH):=sk qhg qh qa (alc qdw (alc q2R aln)) (alc (lk Tryz.func101 qhe) aln) (b1 Tryz.func101) Tryz.func101
def q6p:FIn:=⟨[(.imm [.str,.str,.str])],[]⟩
def q6l:List FOut:=[⟨(.int .i64),[],none⟩]
def qaM:Tmpl:={ t:=((.imm [.str,.str,.str])::.any::.any::(.int .i64)::zd 21 []),h:=[] }
def qaJ:List Out:=[⟨(.exit 0),{ t:=((.imm [.str,.str,.str])::zd 24 []),h:=[] }⟩,⟨.ret,{ t:=(.any::.any::(.int .i64)::zd 22 []),h:=[] }⟩]
noncomputable def q64:=qj [(101,qc q7u q7H uH)] [(65,Tryz.f65)] [] 0
noncomputable def jG:=vA q64 65 Tryz.f65 6 qaM qaJ
theorem qjt:qA Tryz.prog qe q64.nimp (qW Tryz.prog q64.iter 65) (zU Tryz.f65 6) (qv qaM qaJ (qf jG)):=
 gk q64 qh qa (alc qds aln) aln (b1 Tryz.func65) Tryz.func65
noncomputable def qko:=qj [(101,qc q7u q7H uH)] [(65,Tryz.f65)] [((65,6),qv qaM qaJ (qf jG))] 0
noncomputable def uW:=qT qko 65 Tryz.f65 true q6p q6l
theorem q8w:wg Tryz.prog qe 65 (qc q6p q6l uW):=sk qko qh qa (alc qds aln) (alc (lk Tryz.func65 qjt) aln) (b1 Tryz.func65) Tryz.func65
def uh:FIn:=⟨[.str,.str],[]⟩
def uk:List FOut:=[⟨(.imm [.str]),[],none⟩]
noncomputable def qeD:=qj [(86,qc q4z q4S qp),(103,qc q7F q7A zz)] [(70,Tryz.f70)] [] 0
noncomputable def zh:=qT qeD 70 Tryz.f70 true uh uk
theorem uU:wg Tryz.prog qe 70 (qc uh uk zh):=sk qeD qh qa (alc q6U (alc qd2 aln)) aln (b1 Tryz.func70) Tryz.func70
def q1x:FIn:=⟨[.str,.str],[]⟩
def q1z:List FOut:=[⟨.str,[],none⟩]
noncomputable def qfE:=qj [(95,qc q68 q5X qS),(104,qc jL jH qm),(105,qc yR yK qU),(106,qc q1B q1v qQ)] [(71,Tryz.f71)] [] 0
noncomputable def jU:=qT qfE 71 Tryz.f71 true q1x q1z
theorem q2N:wg Tryz.prog qe 71 (qc q1x q1z jU):=sk qfE qh qa (alc qbs (alc jn (alc yW (alc q2U aln)))) aln (b1 Tryz.func71) Tryz.func71
def ke:FIn:=⟨[.str,.str],[]⟩
def uV:List FOut:=[⟨.str,[],none⟩]
noncomputable def qk4:=qj [(70,qc uh uk zh),(71,qc q1x q1z jU),(72,qc q9X qak yL)] [(26,Tryz.f26)] [] 0
noncomputable def jq:=qT qk4 26 Tryz.f26 true ke uV
theorem u9:wg Tryz.prog qe 26 (qc ke uV jq):=sk qk4 qh qa (alc uU (alc q2N (alc qeq aln))) aln (b1 Tryz.func26) Tryz.func26
def q12:FIn:=⟨[.str,.str],[]⟩
def q16:List FOut:=[⟨.str,[],none⟩]
noncomputable def qhq:=qj [(70,qc uh uk zh),(71,qc q1x q1z jU),(96,qc q4U q54 wU)] [(55,Tryz.f55)] [] 0
noncomputable def q2K:=qT qhq 55 Tryz.f55 true q12 q16
theorem q1k:wg Tryz.prog qe 55 (qc q12 q16 q2K):=sk qhq qh qa (alc uU (alc q2N (alc q7c aln))) aln (b1 Tryz.func55) Tryz.func55
def q18:FIn:=⟨[.str,.str],[]⟩
def q1d:List FOut:=[⟨.str,[],none⟩]
noncomputable def qi5:=qj [(70,qc uh uk zh),(71,qc q1x q1z jU)] [(171,Tryz.f171)] [] 0
noncomputable def q2X:=qT qi5 171 Tryz.f171 true q18 q1d
theorem q1t:wg Tryz.prog qe 171 (qc q18 q1d q2X):=sk qi5 qh qa (alc uU (alc q2N aln)) aln (b1 Tryz.func171) Tryz.func171
def q9n:FIn:=⟨[(.agg [.str,.str]),(.agg [.str,.str])],[]⟩
def q9g:List FOut:=[⟨.str,[],none⟩]
noncomputable def qlU:=qj [(26,qc ke uV jq),(171,qc q18 q1d q2X)] [(176,Tryz.f176)] [] 0
noncomputable def qbS:=qT qlU 176 Tryz.f176 true q9n q9g
theorem qaE:wg Tryz.prog qe 176 (qc q9n q9g qbS):=sk qlU qh qa (alc u9 (alc q1t aln)) aln (b1 Tryz.func176) Tryz.func176
def q4w:FIn:=⟨[(.agg [.str,.str]),(.agg [.str,.str])],[]⟩
def q50:List FOut:=[⟨(.agg [.str,.str]),[],none⟩]
noncomputable def qhF:=qj [(55,qc q12 q16 q2K)] [(177,Tryz.f177)] [] 0
noncomputable def q86:=qT qhF 177 Tryz.f177 true q4w q50
theorem q6S:wg Tryz.prog qe 177 (qc q4w q50 q86):=sk qhF qh qa (alc q1k aln) aln (b1 Tryz.func177) Tryz.func177
def q62:FIn:=⟨[.str],[]⟩
def q6d:List FOut:=[⟨.str,[],none⟩]
noncomputable def qft:=qj [(55,qc q12 q16 q2K)] [(213,Tryz.f213)] [] 0
noncomputable def qaK:=qT qft 213 Tryz.f213 true q62 q6d
theorem qbl:wg Tryz.prog qe 213 (qc q62 q6d qaK):=sk qft qh qa (alc q1k aln) aln (b1 Tryz.func213) Tryz.func213
def qjM:FIn:=⟨[.str,.str],[]⟩
def qjj:List FOut:=[⟨.str,[],none⟩]
noncomputable def qo1:=qj [(70,qc uh uk zh),(71,qc q1x q1z jU)] [(235,Tryz.f235)] [] 0
noncomputable def qoa:=qT qo1 235 Tryz.f235 true qjM qjj
theorem qoW:wg Tryz.prog qe 235 (qc qjM qjj qoa):=sk qo1 qh qa (alc uU (alc q2N aln)) aln (b1 Tryz.func235) Tryz.func235
def q6R:FIn:=⟨[(.agg [.str,.str,.str]),(.agg [.str,.str,.str])],[]⟩
def q7b:List FOut:=[⟨(.tuple [(.agg [.str,.str,.str,.str,.str]),.bool]),[],none⟩]
noncomputable def qdp:=qj [(26,qc ke uV jq),(55,qc q12 q16 q2K),(144,qc q1E q1D jC),(171,qc q18 q1d q2X),(176,qc q9n q9g qbS),(177,qc q4w q50 q86),(213,qc q62 q6d qaK),(235,qc qjM qjj qoa)] [(212,Tryz.f212)] [] 0
noncomputable def qcT:=qT qdp 212 Tryz.f212 true q6R q7b
theorem qgG:wg Tryz.prog qe 212 (qc q6R q7b qcT):=sk qdp qh qa (alc u9 (alc q1k (alc q2R (alc q1t (alc qaE (alc q6S (alc qbl (alc qoW aln)))))))) aln (b1 Tryz.func212) Tryz.func212
def q4Y:FIn:=⟨[(.imm [.str,.str,.str]),(.agg [(.int .i64),(.int .i64),(.int .i64)])],[]⟩
def q4Z:List FOut:=[⟨(.tuple [(.agg [.str,.str,.str,.str,.str]),.bool]),[],none⟩]
noncomputable def qeF:=qj [(212,qc q6R q7b qcT),(213,qc q62 q6d qaK)] [(178,Tryz.f178)] [] 0
noncomputable def q9z:=qT qeF 178 Tryz.f178 true q4Y q4Z
theorem qa2:wg Tryz.prog qe 178 (qc q4Y q4Z q9z):=sk qeF qh qa (alc qgG (alc qbl aln)) aln (b1 Tryz.func178) Tryz.func178
def q8b:FIn:=⟨[.str,.str],[]⟩
def q81:List FOut:=[⟨(.int .i64),[],none⟩]
noncomputable def qhz:=qj [(70,qc uh uk zh),(94,qc q4C q4x jM)] [(133,Tryz.f133)] [] 0
noncomputable def qco:=qT qhz 133 Tryz.f133 true q8b q81
theorem qdv:wg Tryz.prog qe 133 (qc q8b q81 qco):=sk qhz qh qa (alc uU (alc q7d aln)) aln (b1 Tryz.func133) Tryz.func133
def q9T:FIn:=⟨[.str,.str,.str],[]⟩
def qah:List FOut:=[⟨(.int .i64),[],none⟩]
noncomputable def qjV:=qj [(133,qc q8b q81 qco),(144,qc q1E q1D jC),(171,qc q18 q1d q2X)] [(183,Tryz.f183)] [] 0
noncomputable def qew:=qT qjV 183 Tryz.f183 true q9T qah
theorem qee:wg Tryz.prog qe 183 (qc q9T qah qew):=sk qjV qh qa (alc qdv (alc q2R (alc q1t aln))) aln (b1 Tryz.func183) Tryz.func183
def q7z:FIn:=⟨[(.agg [.str,.str,.str]),(.agg [.str,.str,.str,.str,.str])],[]⟩
def q88:List FOut:=[⟨.bool,[],none⟩]
noncomputable def qio:=qj [(26,qc ke uV jq),(55,qc q12 q16 q2K),(171,qc q18 q1d q2X),(176,qc q9n q9g qbS),(177,qc q4w q50 q86),(183,qc q9T qah qew)] [(179,Tryz.f179)] [] 0
noncomputable def qcw:=qT qio 179 Tryz.f179 true q7z q88
theorem qdx:wg Tryz.prog qe 179 (qc q7z q88 qcw):=sk qio qh qa (alc u9 (alc q1k (alc q1t (alc qaE (alc q6S (alc qee aln)))))) aln (b1 Tryz.func179) Tryz.func179
def kY:FIn:=⟨[(.imm [.str,.str,.str]),(.agg [(.int .i64),(.int .i64),(.int .i64)])],[]⟩
def kC:List FOut:=[⟨.bool,[],none⟩]
def q74:Tmpl:={ t:=((.imm [.str,.str,.str])::zd 4 ((.ptr 1 0)::.any::(.int .i64)::zd 21 [])),h:=[.dead,.cells [.str,.str,.str,.str,.str]] }
def q77:List Out:=[⟨(.exit 0),{ t:=(zd 29 []),h:=[] }⟩,⟨.ret,{ t:=(zd 4 (.bool::zd 24 [])),h:=[] }⟩]
noncomputable def q3M:=qj [(178,qc q4Y q4Z q9z),(179,qc q7z q88 qcw)] [(135,Tryz.f135)] [] 0
noncomputable def qdk:=vA q3M 135 Tryz.f135 7 q74 q77
theorem qgU:qA Tryz.prog qe q3M.nimp (qW Tryz.prog q3M.iter 135) (zU Tryz.f135 7) (qv q74 q77 (qf qdk)):=
 gk q3M qh qa (alc qa2 (alc qdx aln)) aln (b1 Tryz.func135) Tryz.func135
noncomputable def qfw:=qj [(178,qc q4Y q4Z q9z),(179,qc q7z q88 qcw)] [(135,Tryz.f135)] [((135,7),qv q74 q77 (qf qdk))] 0
noncomputable def q1u:=qT qfw 135 Tryz.f135 true kY kC
theorem q0e:wg Tryz.prog qe 135 (qc kY kC q1u):=sk qfw qh qa (alc qa2 (alc qdx aln)) (alc (lk Tryz.func135 qgU) aln) (b1 Tryz.func135) Tryz.func135
def uN:FIn:=⟨[(.imm [.str,.str,.str])],[]⟩
def uI:List FOut:=[⟨(.tuple [(.agg [(.int .i64),(.int .i64),(.int .i64)]),.bool]),[],none⟩]
def q8S:Tmpl:={ t:=((.imm [.str,.str,.str])::.any::(.ptr 0 0)::.any::(.int .i64)::zd 49 []),h:=[.cells [(.int .i64),(.int .i64),(.int .i64)]] }
def q8Y:List Out:=[⟨(.exit 0),{ t:=((.imm [.str,.str,.str])::.any::(.ptr 0 0)::zd 51 []),h:=[.cells [(.int .i64),(.int .i64),(.int .i64)]] }⟩,⟨.ret,{ t:=(.any::.any::(.ptr 0 0)::.bool::zd 50 []),h:=[.cells [(.int .i64),(.int .i64),(.int .i64)]] }⟩]
noncomputable def q5a:=qj [(135,qc kY kC q1u)] [(88,Tryz.f88)] [] 0
noncomputable def qdE:=vA q5a 88 Tryz.f88 3 q8S q8Y
theorem qhf:qA Tryz.prog qe q5a.nimp (qW Tryz.prog q5a.iter 88) (zU Tryz.f88 3) (qv q8S q8Y (qf qdE)):=
 gk q5a qh qa (alc q0e aln) aln (b1 Tryz.func88) Tryz.func88
def q6V:Tmpl:={ t:=((.imm [.str,.str,.str])::.any::(.ptr 0 0)::.any::.any::.any::(.int .i64)::(.int .i64)::zd 30 ((.vec 1)::(.int .i64)::(.int .i64)::zd 13 [])),h:=[.cells [(.int .i64),(.int .i64),(.int .i64)],.vec 3 [(.int .i64)]] }
def q6Q:List Out:=[⟨(.exit 6),{ t:=((.imm [.str,.str,.str])::.any::(.ptr 0 0)::.any::.any::.any::(.int .i64)::(.int .i64)::zd 46 []),h:=[.cells [(.int .i64),(.int .i64),(.int .i64)]] }⟩,⟨.ret,{ t:=(.any::.any::(.ptr 0 0)::.bool::zd 50 []),h:=[.cells [(.int .i64),(.int .i64),(.int .i64)]] }⟩]
noncomputable def q3G:=qj [(135,qc kY kC q1u)] [(88,Tryz.f88)] [] 0
noncomputable def qcX:=vA q3G 88 Tryz.f88 22 q6V q6Q
theorem qgz:qA Tryz.prog qe q3G.nimp (qW Tryz.prog q3G.iter 88) (zU Tryz.f88 22) (qv q6V q6Q (qf qcX)):=
 gk q3G qh qa (alc q0e aln) aln (b1 Tryz.func88) Tryz.func88
def q7g:Tmpl:={ t:=((.imm [.str,.str,.str])::.any::(.ptr 0 0)::.any::.any::.any::(.int .i64)::(.int .i64)::zd 46 []),h:=[.cells [(.int .i64),(.int .i64),(.int .i64)]] }
def q7j:List Out:=[⟨(.exit 4),{ t:=((.imm [.str,.str,.str])::.any::(.ptr 0 0)::.any::.any::.any::(.int .i64)::zd 47 []),h:=[.cells [(.int .i64),(.int .i64),(.int .i64)]] }⟩,⟨.ret,{ t:=(.any::.any::(.ptr 0 0)::.bool::zd 50 []),h:=[.cells [(.int .i64),(.int .i64),(.int .i64)]] }⟩]
noncomputable def q3N:=qj [(135,qc kY kC q1u)] [(88,Tryz.f88)] [((88,22),qv q6V q6Q (qf qcX))] 0
noncomputable def qcS:=vA q3N 88 Tryz.f88 17 q7g q7j
theorem qh4:qA Tryz.prog qe q3N.nimp (qW Tryz.prog q3N.iter 88) (zU Tryz.f88 17) (qv q7g q7j (qf qcS)):=
 gk q3N qh qa (alc q0e aln) (alc (lk Tryz.func88 qgz) aln) (b1 Tryz.func88) Tryz.func88
def q6T:Tmpl:={ t:=((.imm [.str,.str,.str])::.any::(.ptr 0 0)::.any::.any::.any::(.int .i64)::zd 47 []),h:=[.cells [(.int .i64),(.int .i64),(.int .i64)]] }
def q76:List Out:=[⟨(.exit 2),{ t:=(.any::.any::(.ptr 0 0)::zd 51 []),h:=[.cells [(.int .i64),(.int .i64),(.int .i64)]] }⟩,⟨.ret,{ t:=(.any::.any::(.ptr 0 0)::.bool::zd 50 []),h:=[.cells [(.int .i64),(.int .i64),(.int .i64)]] }⟩]
noncomputable def q3K:=qj [(135,qc kY kC q1u)] [(88,Tryz.f88)] [((88,17),qv q7g q7j (qf qcS))] 0
noncomputable def qd4:=vA q3K 88 Tryz.f88 12 q6T q76
theorem qh0:qA Tryz.prog qe q3K.nimp (qW Tryz.prog q3K.iter 88) (zU Tryz.f88 12) (qv q6T q76 (qf qd4)):=
 gk q3K qh qa (alc q0e aln) (alc (lk Tryz.func88 qh4) aln) (b1 Tryz.func88) Tryz.func88
noncomputable def qi4:=qj [(135,qc kY kC q1u)] [(88,Tryz.f88)] [((88,3),qv q8S q8Y (qf qdE)),((88,12),qv q6T q76 (qf qd4))] 0
noncomputable def q17:=qT qi4 88 Tryz.f88 true uN uI
theorem uA:wg Tryz.prog qe 88 (qc uN uI q17):=sk qi4 qh qa (alc q0e aln) (alc (lk Tryz.func88 qhf) (alc (lk Tryz.func88 qh0) aln)) (b1 Tryz.func88) Tryz.func88
def qc5:FIn:=⟨[(.imm [.str,.str,.str])],[]⟩
def qcQ:List FOut:=[⟨(.imm [(.int .i64)]),[],none⟩]
def q96:Tmpl:={ t:=((.imm [.str,.str,.str])::.any::.any::(.int .i64)::(.int .i64)::zd 84 []),h:=[] }
def q9b:List Out:=[⟨(.exit 2),{ t:=((.imm [.str,.str,.str])::.any::.any::(.int .i64)::zd 85 []),h:=[] }⟩,⟨.ret,{ t:=(.any::.any::(.vec 2)::zd 86 []),h:=[.dead,.dead,.vec 3 [(.int .i64)]] }⟩]
noncomputable def q4u:=qj [(88,qc uN uI q17)] [(66,Tryz.f66)] [] 0
noncomputable def qdZ:=vA q4u 66 Tryz.f66 8 q96 q9b
theorem qiB:qA Tryz.prog qe q4u.nimp (qW Tryz.prog q4u.iter 66) (zU Tryz.f66 8) (qv q96 q9b (qf qdZ)):=
 gk q4u qh qa (alc uA aln) aln (b1 Tryz.func66) Tryz.func66
def q8x:Tmpl:={ t:=((.imm [.str,.str,.str])::.any::.any::(.int .i64)::zd 85 []),h:=[] }
def q8s:List Out:=[⟨(.exit 0),{ t:=((.imm [.str,.str,.str])::zd 88 []),h:=[] }⟩,⟨.ret,{ t:=(.any::.any::(.vec 2)::zd 86 []),h:=[.dead,.dead,.vec 3 [(.int .i64)]] }⟩]
noncomputable def q4M:=qj [(88,qc uN uI q17)] [(66,Tryz.f66)] [((66,8),qv q96 q9b (qf qdZ))] 0
noncomputable def qdH:=vA q4M 66 Tryz.f66 3 q8x q8s
theorem qhQ:qA Tryz.prog qe q4M.nimp (qW Tryz.prog q4M.iter 66) (zU Tryz.f66 3) (qv q8x q8s (qf qdH)):=
 gk q4M qh qa (alc uA aln) (alc (lk Tryz.func66 qiB) aln) (b1 Tryz.func66) Tryz.func66
def q6H:Tmpl:={ t:=((.imm [.str,.str,.str])::zd 6 ((.int .i64)::(.int .i64)::(.int .i64)::zd 79 [])),h:=[] }
def q6W:List Out:=[⟨(.exit 8),{ t:=((.imm [.str,.str,.str])::zd 6 ((.int .i64)::(.int .i64)::zd 80 [])),h:=[] }⟩,⟨.ret,{ t:=(.any::.any::(.vec 2)::zd 86 []),h:=[.dead,.dead,.vec 3 [(.int .i64)]] }⟩]
noncomputable def q3P:=qj [(88,qc uN uI q17)] [(66,Tryz.f66)] [] 0
noncomputable def qdh:=vA q3P 66 Tryz.f66 27 q6H q6W
theorem qh5:qA Tryz.prog qe q3P.nimp (qW Tryz.prog q3P.iter 66) (zU Tryz.f66 27) (qv q6H q6W (qf qdh)):=
 gk q3P qh qa (alc uA aln) aln (b1 Tryz.func66) Tryz.func66
def q7h:Tmpl:={ t:=((.imm [.str,.str,.str])::zd 6 ((.int .i64)::(.int .i64)::zd 80 [])),h:=[] }
def q7a:List Out:=[⟨(.exit 6),{ t:=((.imm [.str,.str,.str])::zd 6 ((.int .i64)::zd 81 [])),h:=[] }⟩,⟨.ret,{ t:=(.any::.any::(.vec 2)::zd 86 []),h:=[.dead,.dead,.vec 3 [(.int .i64)]] }⟩]
noncomputable def q3T:=qj [(88,qc uN uI q17)] [(66,Tryz.f66)] [((66,27),qv q6H q6W (qf qdh))] 0
noncomputable def qcV:=vA q3T 66 Tryz.f66 22 q7h q7a
theorem qgM:qA Tryz.prog qe q3T.nimp (qW Tryz.prog q3T.iter 66) (zU Tryz.f66 22) (qv q7h q7a (qf qcV)):=
 gk q3T qh qa (alc uA aln) (alc (lk Tryz.func66 qh5) aln) (b1 Tryz.func66) Tryz.func66
def q7l:Tmpl:={ t:=((.imm [.str,.str,.str])::zd 6 ((.int .i64)::zd 81 [])),h:=[] }
def q6Y:List Out:=[⟨(.exit 4),{ t:=(zd 89 []),h:=[] }⟩,⟨.ret,{ t:=(.any::.any::(.vec 2)::zd 86 []),h:=[.dead,.dead,.vec 3 [(.int .i64)]] }⟩]
noncomputable def q3R:=qj [(88,qc uN uI q17)] [(66,Tryz.f66)] [((66,22),qv q7h q7a (qf qcV))] 0
noncomputable def qd3:=vA q3R 66 Tryz.f66 17 q7l q6Y
theorem qgP:qA Tryz.prog qe q3R.nimp (qW Tryz.prog q3R.iter 66) (zU Tryz.f66 17) (qv q7l q6Y (qf qd3)):=
 gk q3R qh qa (alc uA aln) (alc (lk Tryz.func66 qgM) aln) (b1 Tryz.func66) Tryz.func66
noncomputable def qir:=qj [(88,qc uN uI q17)] [(66,Tryz.f66)] [((66,3),qv q8x q8s (qf qdH)),((66,17),qv q7l q6Y (qf qd3))] 0
noncomputable def qiS:=qT qir 66 Tryz.f66 true qc5 qcQ
theorem qkE:wg Tryz.prog qe 66 (qc qc5 qcQ qiS):=sk qir qh qa (alc uA aln) (alc (lk Tryz.func66 qhQ) (alc (lk Tryz.func66 qgP) aln)) (b1 Tryz.func66) Tryz.func66
def q2e:FIn:=⟨[(.imm [.str,.str,.str])],[]⟩
def q2i:List FOut:=[⟨(.tuple [(.imm [(.int .i64)]),(.int .i64)]),[],none⟩]
noncomputable def q6B:=qj [(65,qc q6p q6l uW),(66,qc qc5 qcQ qiS)] [(18,Tryz.f18)] [] 0
noncomputable def q6k:=qT q6B 18 Tryz.f18 true q2e q2i
theorem qbm:wg Tryz.prog qe 18 (qc q2e q2i q6k):=sk q6B qh qa (alc q8w (alc qkE aln)) aln (b1 Tryz.func18) Tryz.func18
def yV:FIn:=⟨[(.imm [.str,.str,.str])],[]⟩
def u4:List FOut:=[⟨(.tuple [(.imm [(.int .i64)]),(.int .i64)]),[],none⟩]
def q3b:Tmpl:={ t:=((.imm [.str,.str,.str])::zd 4 ((.ptr 0 0)::(.vec 1)::(.int .i64)::(.ptr 2 0)::zd 9 ((.imm [.str,.str,.str])::(.int .i64)::(.int .i64)::zd 4 ((.imm [.str,.str,.str])::(.int .i64)::(.int .i64)::zd 41 [])))),h:=[.cells [(.int .i64)],.vec 3 [(.int .i64)],.cells [.str,.str,.str]] }
def q3d:List Out:=[⟨(.exit 2),{ t:=((.imm [.str,.str,.str])::zd 4 ((.ptr 0 0)::(.vec 1)::zd 11 ((.imm [.str,.str,.str])::(.int .i64)::(.int .i64)::zd 48 []))),h:=[.cells [(.int .i64)],.vec 3 [(.int .i64)]] }⟩]
noncomputable def q05:=qj [(62,qc vj vg zi),(67,qc vQ vR qE)] [(19,Tryz.f19)] [] 0
noncomputable def zl:=vA q05 19 Tryz.f19 15 q3b q3d
theorem qcM:qA Tryz.prog qe q05.nimp (qW Tryz.prog q05.iter 19) (zU Tryz.f19 15) (qv q3b q3d (qf zl)):=
 gk q05 qh qa (alc wL (alc js aln)) aln (b1 Tryz.func19) Tryz.func19
def q3Z:Tmpl:={ t:=((.imm [.str,.str,.str])::zd 4 ((.ptr 0 0)::(.vec 1)::zd 11 ((.imm [.str,.str,.str])::(.int .i64)::(.int .i64)::zd 48 []))),h:=[.cells [(.int .i64)],.vec 3 [(.int .i64)]],pro:=[(6,3,[(.int .i64)])] }
def q43:List Out:=[⟨(.exit 0),{ t:=(zd 5 ((.ptr 0 0)::(.vec 1)::zd 62 [])),h:=[.cells [(.int .i64)],.vec 3 [(.int .i64)]] }⟩]
noncomputable def q1a:=qj [(62,qc vj vg zi),(67,qc vQ vR qE)] [(19,Tryz.f19)] [((19,15),qv q3b q3d (qf zl))] 0
noncomputable def wE:=vA q1a 19 Tryz.f19 9 q3Z q43
theorem qdB:qA Tryz.prog qe q1a.nimp (qW Tryz.prog q1a.iter 19) (zU Tryz.f19 9) (qv q3Z q43 (qf wE)):=
 gk q1a qh qa (alc wL (alc js aln)) (alc (lk Tryz.func19 qcM) aln) (b1 Tryz.func19) Tryz.func19
noncomputable def qb6:=qj [(62,qc vj vg zi),(67,qc vQ vR qE)] [(19,Tryz.f19)] [((19,9),qv q3Z q43 (qf wE))] 0
noncomputable def vT:=qT qb6 19 Tryz.f19 true yV u4
theorem q04:wg Tryz.prog qe 19 (qc yV u4 vT):=sk qb6 qh qa (alc wL (alc js aln)) (alc (lk Tryz.func19 qdB) aln) (b1 Tryz.func19) Tryz.func19
def qgt:FIn:=⟨[(.agg [.str,.str]),(.agg [.str,.str])],[]⟩
def qgs:List FOut:=[⟨.str,[],none⟩]
noncomputable def ql8:=qj [(176,qc q9n q9g qbS),(177,qc q4w q50 q86)] [(134,Tryz.f134)] [] 0
noncomputable def qlg:=qT ql8 134 Tryz.f134 true qgt qgs
theorem qn8:wg Tryz.prog qe 134 (qc qgt qgs qlg):=sk ql8 qh qa (alc qaE (alc q6S aln)) aln (b1 Tryz.func134) Tryz.func134
def qc3:FIn:=⟨[(.agg [.str,.str,.str]),(.agg [.str,.str,.str])],[]⟩
def qcd:List FOut:=[⟨(.int .i64),[],none⟩]
noncomputable def qhV:=qj [(26,qc ke uV jq),(55,qc q12 q16 q2K),(134,qc qgt qgs qlg),(171,qc q18 q1d q2X),(183,qc q9T qah qew)] [(145,Tryz.f145)] [] 0
noncomputable def qiU:=qT qhV 145 Tryz.f145 true qc3 qcd
theorem qkB:wg Tryz.prog qe 145 (qc qc3 qcd qiU):=sk qhV qh qa (alc u9 (alc q1k (alc qn8 (alc q1t (alc qee aln))))) aln (b1 Tryz.func145) Tryz.func145
def q3v:FIn:=⟨[(.agg [.str,.str,.str]),(.agg [.str,.str,.str])],[]⟩
def q3f:List FOut:=[⟨.bool,[],none⟩]
noncomputable def qg9:=qj [(133,qc q8b q81 qco),(145,qc qc3 qcd qiU)] [(102,Tryz.f102)] [] 0
noncomputable def q6g:=qT qg9 102 Tryz.f102 true q3v q3f
theorem q5y:wg Tryz.prog qe 102 (qc q3v q3f q6g):=sk qg9 qh qa (alc qdv (alc qkB aln)) aln (b1 Tryz.func102) Tryz.func102
def qcC:FIn:=⟨[(.imm [.str,.str,.str])],[]⟩
def qcN:List FOut:=[⟨(.imm [(.int .i64)]),[],none⟩]
def q6J:Tmpl:={ t:=((.imm [.str,.str,.str])::.any::.any::(.vec 0)::(.int .i64)::.bool::(.int .i64)::zd 52 []),h:=[.vec 3 [(.int .i64)]] }
def q73:List Out:=[⟨(.exit 2),{ t:=((.imm [.str,.str,.str])::.any::.any::(.vec 0)::(.int .i64)::.bool::zd 53 []),h:=[.vec 3 [(.int .i64)]] }⟩]
noncomputable def q3U:=qj [(102,qc q3v q3f q6g)] [(68,Tryz.f68)] [] 0
noncomputable def qdf:=vA q3U 68 Tryz.f68 11 q6J q73
theorem qgu:qA Tryz.prog qe q3U.nimp (qW Tryz.prog q3U.iter 68) (zU Tryz.f68 11) (qv q6J q73 (qf qdf)):=
 gk q3U qh qa (alc q5y aln) aln (b1 Tryz.func68) Tryz.func68
def q8B:Tmpl:={ t:=((.imm [.str,.str,.str])::.any::.any::(.vec 0)::(.int .i64)::zd 54 []),h:=[.vec 3 [(.int .i64)]],pro:=[(3,3,[(.int .i64)])] }
def q8I:List Out:=[⟨(.exit 0),{ t:=(.any::.any::.any::(.vec 0)::zd 55 []),h:=[.vec 3 [(.int .i64)]] }⟩]
noncomputable def q4W:=qj [(102,qc q3v q3f q6g)] [(68,Tryz.f68)] [((68,11),qv q6J q73 (qf qdf))] 0
noncomputable def qdY:=vA q4W 68 Tryz.f68 4 q8B q8I
theorem qii:qA Tryz.prog qe q4W.nimp (qW Tryz.prog q4W.iter 68) (zU Tryz.f68 4) (qv q8B q8I (qf qdY)):=
 gk q4W qh qa (alc q5y aln) (alc (lk Tryz.func68 qgu) aln) (b1 Tryz.func68) Tryz.func68
noncomputable def qhk:=qj [(102,qc q3v q3f q6g)] [(68,Tryz.f68)] [((68,4),qv q8B q8I (qf qdY))] 0
noncomputable def qiq:=qT qhk 68 Tryz.f68 true qcC qcN
theorem qkJ:wg Tryz.prog qe 68 (qc qcC qcN qiq):=sk qhk qh qa (alc q5y aln) (alc (lk Tryz.func68 qii) aln) (b1 Tryz.func68) Tryz.func68
def q5z:FIn:=⟨[(.imm [.str,.str,.str])],[]⟩
def q5C:List FOut:=[⟨(.tuple [(.imm [(.int .i64)]),(.int .i64)]),[],none⟩]
noncomputable def qbD:=qj [(65,qc q6p q6l uW),(68,qc qcC qcN qiq)] [(20,Tryz.f20)] [] 0
noncomputable def qbk:=qT qbD 20 Tryz.f20 true q5z q5C
theorem qfj:wg Tryz.prog qe 20 (qc q5z q5C qbk):=sk qbD qh qa (alc q8w (alc qkJ aln)) aln (b1 Tryz.func20) Tryz.func20
def q6F:FIn:=⟨[(.imm [(.int .i64)]),(.imm [(.int .i64)])],[]⟩
def q71:List FOut:=[⟨.bool,[],none⟩]
def q4v:Tmpl:={ t:=((.imm [(.int .i64)])::(.imm [(.int .i64)])::.any::.any::.any::(.int .i64)::zd 20 []),h:=[] }
def q4V:List Out:=[⟨(.exit 0),{ t:=(zd 26 []),h:=[] }⟩,⟨.ret,{ t:=(zd 4 (.bool::zd 21 [])),h:=[] }⟩]
noncomputable def q1Z:=qj [] [(21,Tryz.f21)] [] 0
noncomputable def qa1:=vA q1Z 21 Tryz.f21 6 q4v q4V
theorem qe0:qA Tryz.prog qe q1Z.nimp (qW Tryz.prog q1Z.iter 21) (zU Tryz.f21 6) (qv q4v q4V (qf qa1)):=
 gk q1Z qh qa aln aln (b1 Tryz.func21) Tryz.func21
noncomputable def qdi:=qj [] [(21,Tryz.f21)] [((21,6),qv q4v q4V (qf qa1))] 0
noncomputable def qde:=qT qdi 21 Tryz.f21 true q6F q71
theorem qgS:wg Tryz.prog qe 21 (qc q6F q71 qde):=sk qdi qh qa aln (alc (lk Tryz.func21 qe0) aln) (b1 Tryz.func21) Tryz.func21
def q0X:FIn:=⟨[(.imm [.str,.str,.str])],[]⟩
def q15:List FOut:=[⟨.bool,[],none⟩]
noncomputable def jg:=qj [(15,qc qbY qcr q4a),(16,qc q2E q2P zA),(17,qc uO kj wY),(18,qc q2e q2i q6k),(19,qc yV u4 vT),(20,qc q5z q5C qbk),(21,qc q6F q71 qde)] [(3,Tryz.f3)] [] 0
noncomputable def q14:=qT jg 3 Tryz.f3 true q0X q15
theorem q9F:wg Tryz.prog qe 3 (qc q0X q15 q14):=sk jg qh qa (alc qgd (alc q3J (alc q4h (alc qbm (alc q04 (alc qfj (alc qgS aln))))))) aln (b1 Tryz.func3) Tryz.func3
def q4T:FIn:=⟨[(.imm [.str,.str,.str])],[]⟩
def q5f:List FOut:=[⟨.bool,[],none⟩]
noncomputable def qhj:=qj [(15,qc qbY qcr q4a),(65,qc q6p q6l uW)] [(22,Tryz.f22)] [] 0
noncomputable def q1g:=qT qhj 22 Tryz.f22 true q4T q5f
theorem q6M:wg Tryz.prog qe 22 (qc q4T q5f q1g):=sk qhj qh qa (alc qgd (alc q8w aln)) aln (b1 Tryz.func22) Tryz.func22
def q1P:FIn:=⟨[(.imm [(.int .i64)]),(.int .i64)],[]⟩
def q1N:List FOut:=[⟨(.int .i64),[],none⟩]
def q0F:Tmpl:={ t:=((.imm [(.int .i64)])::(.int .i64)::zd 5 ((.int .i64)::(.int .i64)::zd 10 [])),h:=[] }
def q0B:List Out:=[⟨(.exit 0),{ t:=(zd 19 []),h:=[] }⟩,⟨.ret,{ t:=(zd 4 ((.int .i64)::zd 14 [])),h:=[] }⟩]
noncomputable def yk:=qj [] [(69,Tryz.f69)] [] 0
noncomputable def wu:=vA yk 69 Tryz.f69 3 q0F q0B
theorem q9a:qA Tryz.prog qe yk.nimp (qW Tryz.prog yk.iter 69) (zU Tryz.f69 3) (qv q0F q0B (qf wu)):=
 gk yk qh qa aln aln (b1 Tryz.func69) Tryz.func69
noncomputable def q5r:=qj [] [(69,Tryz.f69)] [((69,3),qv q0F q0B (qf wu))] 0
noncomputable def vn:=qT q5r 69 Tryz.f69 true q1P q1N
theorem qb0:wg Tryz.prog qe 69 (qc q1P q1N vn):=sk q5r qh qa aln (alc (lk Tryz.func69 q9a) aln) (b1 Tryz.func69) Tryz.func69
def vo:FIn:=⟨[(.imm [(.int .i64)]),(.int .i64)],[]⟩
def vt:List FOut:=[⟨.bool,[],none⟩]
noncomputable def q3l:=qj [(69,qc q1P q1N vn)] [(24,Tryz.f24)] [] 0
noncomputable def wd:=qT q3l 24 Tryz.f24 true vo vt
theorem yJ:wg Tryz.prog qe 24 (qc vo vt wd):=sk q3l qh qa (alc qb0 aln) aln (b1 Tryz.func24) Tryz.func24
def q58:FIn:=⟨[(.int .i64)],[]⟩
def q4A:List FOut:=[⟨.str,[],none⟩]
noncomputable def qho:=qj [(73,qc q2W q2J zP)] [(27,Tryz.f27)] [] 0
noncomputable def km:=qT qho 27 Tryz.f27 true q58 q4A
theorem q72:wg Tryz.prog qe 27 (qc q58 q4A km):=sk qho qh qa (alc q1b aln) aln (b1 Tryz.func27) Tryz.func27
def q1r:FIn:=⟨[(.agg [.str,.str,.str]),(.agg [.str,.str])],[]⟩
def q1m:List FOut:=[⟨(.tuple [.bool,(.int .i64)]),[],none⟩]
def q4q:Tmpl:={ t:=(.any::.any::(.ptr 0 0)::(.ptr 1 0)::zd 17 ((.vec 2)::(.int .i64)::(.int .i64)::zd 33 [])),h:=[.cells [.str,.str,.str],.cells [.str,.str],.vec 36 [.str]] }
def q4O:List Out:=[⟨(.exit 0),{ t:=(.any::.any::(.ptr 0 0)::(.ptr 1 0)::zd 53 []),h:=[.cells [.str,.str,.str],.cells [.str,.str]] }⟩,⟨.ret,{ t:=(zd 4 (.bool::(.int .i64)::zd 51 [])),h:=[] }⟩]
noncomputable def q1W:=qj [(74,qc uK uL wt),(75,qc ki kp zj),(76,qc kq kh zq),(77,qc q1o q1j jm)] [(28,Tryz.f28)] [] 0
noncomputable def kn:=vA q1W 28 Tryz.f28 7 q4q q4O
theorem qdO:qA Tryz.prog qe q1W.nimp (qW Tryz.prog q1W.iter 28) (zU Tryz.f28 7) (qv q4q q4O (qf kn)):=
 gk q1W qh qa (alc uz (alc uB (alc q2k (alc q44 aln)))) aln (b1 Tryz.func28) Tryz.func28
noncomputable def qd7:=qj [(74,qc uK uL wt),(75,qc ki kp zj),(76,qc kq kh zq),(77,qc q1o q1j jm)] [(28,Tryz.f28)] [((28,7),qv q4q q4O (qf kn))] 0
noncomputable def vH:=qT qd7 28 Tryz.f28 true q1r q1m
theorem q40:wg Tryz.prog qe 28 (qc q1r q1m vH):=sk qd7 qh qa (alc uz (alc uB (alc q2k (alc q44 aln)))) (alc (lk Tryz.func28 qdO) aln) (b1 Tryz.func28) Tryz.func28
def q4I:FIn:=⟨[(.imm [.str,.str,.str]),(.int .u8)],[]⟩
def q4G:List FOut:=[⟨.bool,[],none⟩]
def q2q:Tmpl:={ t:=((.imm [.str,.str,.str])::(.int .u8)::.any::.any::.any::.bool::(.ptr 0 0)::.any::(.imm [(.int .i64)])::.any::(.vec 1)::(.vec 2)::zd 31 ((.imm [.str,.str,.str])::(.int .i64)::(.int .i64)::zd 104 [])),h:=[.cells [(.int .i64),(.int .i64),(.int .i64)],.vec 40 [.str,.str,.str],.vec 40 [.str,.str,.str]],pro:=[(10,40,[.str,.str,.str]),(11,40,[.str,.str,.str])] }
def q2f:List Out:=[⟨(.exit 0),{ t:=((.imm [.str,.str,.str])::zd 4 (.bool::(.ptr 0 0)::.any::.any::.any::(.vec 1)::(.vec 2)::zd 138 [])),h:=[.cells [(.int .i64),(.int .i64),(.int .i64)],.vec 40 [.str,.str,.str],.vec 40 [.str,.str,.str]] }⟩]
noncomputable def kl:=qj [(16,qc q2E q2P zA),(19,qc yV u4 vT),(22,qc q4T q5f q1g),(23,qc q1w q1G v6),(24,qc vo vt wd),(25,qc q4j q4d zT),(26,qc ke uV jq),(27,qc q58 q4A km),(28,qc q1r q1m vH)] [(4,Tryz.f4)] [] 0
noncomputable def j1:=vA kl 4 Tryz.f4 12 q2q q2f
theorem qbo:qA Tryz.prog qe kl.nimp (qW Tryz.prog kl.iter 4) (zU Tryz.f4 12) (qv q2q q2f (qf j1)):=
 gk kl qh qa (alc q3J (alc q04 (alc q6M (alc q2B (alc yJ (alc q4J (alc u9 (alc q72 (alc q40 aln))))))))) aln (b1 Tryz.func4) Tryz.func4
def q2a:Tmpl:={ t:=((.imm [.str,.str,.str])::zd 5 ((.ptr 0 0)::zd 118 ((.imm [.str,.str,.str])::(.int .i64)::(.int .i64)::zd 22 []))),h:=[.cells [(.int .i64),(.int .i64),(.int .i64)]] }
def q2w:List Out:=[⟨(.exit 2),{ t:=(zd 150 []),h:=[] }⟩,⟨.ret,{ t:=(zd 4 (.bool::zd 145 [])),h:=[] }⟩]
noncomputable def uS:=qj [(16,qc q2E q2P zA),(19,qc yV u4 vT),(22,qc q4T q5f q1g),(23,qc q1w q1G v6),(24,qc vo vt wd),(25,qc q4j q4d zT),(26,qc ke uV jq),(27,qc q58 q4A km),(28,qc q1r q1m vH)] [(4,Tryz.f4)] [] 0
noncomputable def vY:=vA uS 4 Tryz.f4 27 q2a q2w
theorem qbC:qA Tryz.prog qe uS.nimp (qW Tryz.prog uS.iter 4) (zU Tryz.f4 27) (qv q2a q2w (qf vY)):=
 gk uS qh qa (alc q3J (alc q04 (alc q6M (alc q2B (alc yJ (alc q4J (alc u9 (alc q72 (alc q40 aln))))))))) aln (b1 Tryz.func4) Tryz.func4
noncomputable def j8:=qj [(16,qc q2E q2P zA),(19,qc yV u4 vT),(22,qc q4T q5f q1g),(23,qc q1w q1G v6),(24,qc vo vt wd),(25,qc q4j q4d zT),(26,qc ke uV jq),(27,qc q58 q4A km),(28,qc q1r q1m vH)] [(4,Tryz.f4)] [((4,12),qv q2q q2f (qf j1)),((4,27),qv q2a q2w (qf vY))] 0
noncomputable def uJ:=qT j8 4 Tryz.f4 true q4I q4G
theorem qe2:wg Tryz.prog qe 4 (qc q4I q4G uJ):=sk j8 qh qa (alc q3J (alc q04 (alc q6M (alc q2B (alc yJ (alc q4J (alc u9 (alc q72 (alc q40 aln))))))))) (alc (lk Tryz.func4 qbo) (alc (lk Tryz.func4 qbC) aln)) (b1 Tryz.func4) Tryz.func4
end Go.Eng

