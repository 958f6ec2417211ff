/- Texts of the proof, merged: what the code computes, and plain laws. No statement stands here. -/
import Derived.Shelf.Strings.SlTrimAscii
import Derived.Shelf.Strings.Search2
import Derived.Shelf.Small.Strs
import Derived.Shelf.Strconv.Itoa3
import Derived.Shelf.Strconv.Atoi
import Derived.Shelf.Strings.BuilderK
import Derived.Shelf.LaysM
import Derived.Test.YtehgceikghodkaaGreatDoorProg
import Derived.WalkKit
import Derived.BigCall
import Derived.Deep.RegionWith
import Derived.Laws.Externs
import Derived.Lib.Builder
import Derived.Lib.AppendStr
import Derived.KernelRfl
import Derived.Test.YtehgceikghodkaaGreatDoorS2
namespace Go.Eng
open Go.Shelf Go.RowKit Go.Proofs Go.Sort
theorem qqe(w:World)(q:Nat)(os:Array Obj):Below w.heap.size w (grow (w.drewN q) os):=
 ⟨rfl,rfl,rfl,by simp[grow],fun i hi=>by
  show ((w.drewN q).heap++os)[i]?=_
  rw[Array.getElem?_append_left (by show i<w.heap.size;omega)]
  rfl⟩
theorem qyO(w:World)(e:TypeId)(s:ByteArray):Below w.heap.size w (Lib.bytesWorld w e s):=
 ⟨rfl,rfl,rfl,by rw[Lib.bytesWorld_size];omega,fun k hk=>Lib.bytesWorld_at_old w e s k (by omega)⟩
theorem HSim.grow{B:Base}{X:Ctx}(hs:HSim B X){w':World}(hb:Below X.w.heap.size X.w w'):HSim B { X with w:=w' }∧Ext X { X with w:=w' }:=by
 have hold:∀n (o:Obj),X.w.heap[n]?=some o→w'.heap[n]?=some o:=fun n o h=>(hb.block n (Array.getElem?_eq_some_iff.1 h).1).trans h
 have hx:Ext X { X with w:=w' }:=Move.of (fun _ h=>h) (fun a ha=>World.cell?_of_block (hb.block _ (hs.ltM _ ha))) (fun b b' hb' h=>by
  cases h
  exact⟨hb',rfl,fun _ _ h=>h,fun _ _ _ n _ c T fr h=>⟨c,T,fr,hold n _ h,rfl⟩⟩)
 refine⟨⟨fun b k hk=>?_,hs.inj,hs.notM,fun n hn=>Nat.lt_of_lt_of_le (hs.ltM n hn) hb.size,hs.M0,hs.newM,hb.os.trans hs.os,hb.tape.trans hs.tape,hb.output.trans hs.output,Nat.le_trans hs.size hb.size,
  fun n hn hni=>?_,hs.imps,hs.impc,hs.fresh,fun p hp=>?_⟩,hx⟩
 ·by_cases hd:k=.dead
  ·subst hd;trivial
  ·exact kg.ext hx rfl (fun n hn=>hb.block n (hs.lt hk hd hn)) (hs.blk b k hk)
 ·show w'.heap[n]?=_
  rw[hb.block n (Nat.lt_of_lt_of_le hn hs.size)]
  exact hs.frame n hn hni
 ·obtain⟨q1,q2,q3⟩:=hs.kept p hp
  exact⟨hold _ _ q1,q2,q3⟩
theorem qjO{P:Program}{gl:List (Nat×AV)}{f:FuncId}{i:FIn}{o:FOut}{T:List PV→TR}(he:qnG P f)(hi:i.h.all BP.isCells=true)
  (h:∀(B:Base) (X:Ctx) (ps:List PV) (j:Nat) (qs:List PV) (vargs:List Value),HSim B X→q7J gl X→X.h=(i.make ps).2→RepL X (i.make ps).1 vargs→ps.map PV.kind=i.kinds→(T ps).run=some (j,qs) →
   j=0∧qs.map PV.kind=o.kinds∧(o.make qs).2=(i.make ps).2∧Calls P f vargs.toArray X.w fun e w'=>∃v,e=.returned v∧Below X.w.heap.size X.w w'∧Rep X (o.make qs).1 v) :
  qM P gl f (q9 i [o] T):=by
 refine⟨he,fun B X args vargs r hs hen hgl ha hr=>?_⟩
 obtain⟨ps,j,qs,h1,h2,h3⟩:=qyW hr
 unfold FIn.take at h1
 obtain⟨x,y,g1,g2,rfl⟩:=q5y h1
 obtain⟨a1,a2,a3⟩:=AP.takeL_ok (X:=X) _ _ x y g1
 obtain⟨b1,b2,b3,b4,b5⟩:=BP.takeL_ok (X:=X) _ _ y [] g2
 rw[List.append_nil] at b3 b5
 have himp:B.imps.length=X.h.length:=by rw[hen.imps];simp
 obtain⟨d1,d2⟩:=qfS hs (h':=(BP.makeL i.h y).1) b3 (fun b k' hb=>by obtain⟨k0,e1,e2,_⟩:=b5 b k' hb;exact⟨k0,e1,e2⟩)
  (fun b hb k' hk'=>by
   obtain⟨k0,_,_,e3⟩:=b5 b k' hk'
   have hlt:b<i.h.length:=by omega
   exact e3 i.h[b] (List.getElem?_eq_getElem hlt) (List.all_eq_true.1 hi _ (List.getElem_mem hlt)))
 have hkd:(x++y).map PV.kind=i.kinds:=by simp[FIn.kinds,a2,b2]
 have hgl1:q7J gl ({ X with h:=(BP.makeL i.h y).1 }:Ctx):=fun z hz=>⟨(hgl z hz).1,(hgl z hz).2.move d2.M d2.w ((hgl z hz).2.1.ext d2)⟩
 have hmk:i.make (x++y)=((AP.makeL i.args (x++y)).1,(BP.makeL i.h y).1):=by simp only[FIn.make,a1]
 obtain⟨k1,k2,k3,k4⟩:=h B _ (x++y) j qs vargs d1 hgl1 (by rw[hmk]) (by rw[hmk];exact(a3 _ ha).ext d2) hkd h2
 subst k1
 refine k4.mono fun e w' ⟨v,e1,e2,e3⟩=>?_
 obtain⟨m1,m2⟩:=d1.grow e2
 have hre:=qw9 h2 [o] 0 o r (Nat.zero_le _) rfl k2 h3
 subst hre
 exact⟨v,_,e1,rfl,e3.ext m2,by rw[k3,hmk],m1,rfl⟩
theorem qB0{X:Ctx}{s:List UInt8}{vs:List Value}(h:RepL X [.str s] vs):vs=[.string ⟨s.toArray⟩]:=by
 cases h with
 | cons h t=>cases h;cases t;rfl
theorem qAY{X:Ctx}{k:IntKind}{n:Int}{vs:List Value}(h:RepL X [.int k n] vs):vs=[.int k n]:=by
 cases h with
 | cons h t=>cases h;cases t;rfl
theorem qtm{X:Ctx}{s t:List UInt8}{vs:List Value}(h:RepL X [.str s,.str t] vs):vs=[.string ⟨s.toArray⟩,.string ⟨t.toArray⟩]:=by
 cases h with
 | cons h t=>cases h;rw[qB0 t]
theorem qHq{ps:List PV}(h:ps.map PV.kind=[.s]):∃s,ps=[.s s]:=by
 match ps,h with
 | [.s s],_=>exact⟨s,rfl⟩
theorem qHu{ps:List PV}(h:ps.map PV.kind=[.i]):∃s,ps=[.i s]:=by
 match ps,h with
 | [.i s],_=>exact⟨s,rfl⟩
theorem qwd{ps:List PV}(h:ps.map PV.kind=[.s,.s]):∃s t,ps=[.s s,.s t]:=by
 match ps,h with
 | [.s s,.s t],_=>exact⟨s,t,rfl⟩
def qyu:List PV→TR
 | [.s s,.s [c]]=>.leaf (0,[.i (Lib.indexByte s c)])
 | _=>.fail
theorem qAQ{P:Program}{ρ:Ren}(L:Lays.n219 P ρ)(he:qnG P (ρ.f 219)){gl:List (Nat×AV)} :
  qM P gl (ρ.f 219) (q9 { args:=[.str,.str],h:=[] } [{ res:=.int .i64,h:=[] }] qyu):=
 qjO he rfl fun B X ps j qs vargs hs hg hh ha hk hT=>by
  obtain⟨s,t,rfl⟩:=qwd hk
  unfold qyu at hT
  split at hT
  ·rename_i s' c hps
   simp only[List.cons.injEq,PV.s.injEq,and_true] at hps
   obtain⟨rfl,rfl⟩:=hps
   cases hT
   have:=qtm ha
   subst this
   refine⟨rfl,rfl,rfl,(Any.stringslite_Index_one L ⟨s.toArray⟩ c X.w).mono fun e w' ⟨h1,h2⟩=>?_⟩
   subst h2
   exact⟨_,h1,Below.refl _ _,.int _ _⟩
  ·cases hT
def qrd:List PV→TR
 | [.s s,.s t]=>.leaf (0,[.i (Lib.compareBytes s t)])
 | _=>.fail
theorem qwq{P:Program}{ρ:Ren}(L:Lays.n106 P ρ)(he:qnG P (ρ.f 106)){gl:List (Nat×AV)} :
  qM P gl (ρ.f 106) (q9 { args:=[.str,.str],h:=[] } [{ res:=.int .i64,h:=[] }] qrd):=
 qjO he rfl fun B X ps j qs vargs hs hg hh ha hk hT=>by
  obtain⟨s,t,rfl⟩:=qwd hk
  cases hT
  have:=qtm ha
  subst this
  refine⟨rfl,rfl,rfl,(Any.strings_Compare L ⟨s.toArray⟩ ⟨t.toArray⟩ X.w).mono fun e w' ⟨h1,h2⟩=>?_⟩
  subst h2
  exact⟨_,h1,Below.refl _ _,.int _ _⟩
def qF2:List PV→TR
 | [.s s,.s t]=>if s.length≤9223372036854775807∧t.length<4294967281∧t.all (fun b=>decide (b.toNat<128))=true then .leaf (0,[.s (Lib.trimS s t)]) else .fail
 | _=>.fail
theorem qCW{P:Program}{ρ:Ren}(L:Lays.n160 P ρ)(he:qnG P (ρ.f 160))(h116:(P.info? (ρ.t 116)).map (fun i=>(i.zero,i.size))=some (some (.agg (Array.replicate 256 (.bool false))),256)){gl:List (Nat×AV)} :
  qM P gl (ρ.f 160) (q9 { args:=[.str,.str],h:=[] } [{ res:=.str,h:=[] }] qF2):=
 qjO he rfl fun B X ps j qs vargs hs hg hh ha hk hT=>by
  obtain⟨s,t,rfl⟩:=qwd hk
  simp only[qF2] at hT
  split at hT
  ·rename_i hc
   cases hT
   have:=qtm ha
   subst this
   refine⟨rfl,rfl,rfl,(Any.strings_Trim_laid L h116 ⟨s.toArray⟩ ⟨t.toArray⟩ X.w (by simpa[ByteArray.size] using hc.1) (by simpa[ByteArray.size] using hc.2.1) (fun j b hj=>?_)).mono fun e w' ⟨h1,h2⟩=>⟨_,h1,h2,.str _⟩⟩
   have h3:=hc.2.2
   rw[List.all_eq_true] at h3
   simpa using h3 b (List.mem_of_getElem? hj)
  ·cases hT
def qGO:R:=[Lib.pow10Tab.map U.i]
def qE9:List PV→TR
 | [.i n]=>if -9223372036854775808≤n∧n≤9223372036854775807 then .leaf (0,[.s (Lib.itoa n)]) else .fail
 | _=>.fail
theorem qtg{P:Program}{X:Ctx}{g:Nat}{k:IntKind}{zs:List Int}{name:String}(hn:P.globalNamed name=some g)(hz:zs≠[])
  (h:qFp X (g,.eptr (zs.map fun _=>.int k) [zs.map U.i] 0 0)):Lib.TabIs P X.w name k zs:=by
 obtain⟨h1,h2,h3⟩:=h
 simp only at h1 h2 h3
 have hcell:∀j (hj:j<zs.length),X.w.cell? ⟨g,j,none⟩=some (.int k zs[j]):=by
  intro j hj
  generalize hv:(Value.pointer (some ⟨g,0,none⟩))=vv at h1
  cases h1 with
  | eptr _ _ _ _ a hsp h0 hl hr=>
   simp only[Value.pointer.injEq,Option.some.injEq,Addr.mk.injEq] at hv
   obtain⟨v1,v2,_⟩:=hv
   obtain⟨hM,v,e1,e2⟩:=hr 0 j (by simpa using hj) (by simp)
   have ho:a.off=0:=by omega
   have e1':X.w.cell? ⟨g,j,none⟩=some v:=by
    rw[Nat.zero_mul,Nat.add_zero,ho,Nat.zero_add,←v1] at e1
    exact e1
   rw[e1']
   have e2':RepU X.w X.M (.int k) (U.i zs[j]) v:=by
    simpa[vk,List.getD_eq_getElem?_getD,hj] using e2
   cases e2'
   rfl
 unfold Lib.TabIs World.var?
 rw[hn]
 simp only[Option.bind_some]
 have h0:=hcell 0 (List.length_pos_iff.2 hz)
 unfold World.cell? at h0
 simp only at h0
 split at h0
 ·rename_i cs T fr hheap
  rw[hheap]
  simp only
  congr 1
  have hsz:cs.size≤zs.length:=by
   have h4:X.w.cell? ⟨g,zs.length,none⟩=none:=by
    simpa[AV.span] using h3
   unfold World.cell? at h4
   simp only[hheap] at h4
   simpa using h4
  apply Array.ext
  ·simp
   rcases Nat.lt_or_ge cs.size zs.length with hlt|hge
   ·have:=hcell cs.size hlt
    unfold World.cell? at this
    simp[hheap] at this
   ·omega
  ·intro j hj hj2
   have hjz:j<zs.length:=by omega
   have:=hcell j hjz
   unfold World.cell? at this
   simp only[hheap] at this
   simp[hj] at this
   simp[this]
 ·cases h0
theorem qCP {P:Program} {ρ:Ren} (L:LaysM.n171 P ρ) (he:qnG P (ρ.f 171)) {gl:List (Nat×AV)} {g:Nat} (hn:P.globalNamed "internal/strconv.uint64pow10" = some g)
  (hg:(g,AV.eptr (Lib.pow10Tab.map fun _=>.int .u64) qGO 0 0)∈gl) :
  qM P gl (ρ.f 171) (q9 { args:=[.int .i64],h:=[] } [{ res:=.str,h:=[] }] qE9):=
 qjO he rfl fun B X ps j qs vargs hs hgl hh ha hk hT=>by
  obtain⟨n,rfl⟩:=qHu hk
  simp only[qE9] at hT
  split at hT
  ·rename_i hc
   cases hT
   have:=qAY ha
   subst this
   refine⟨rfl,rfl,rfl,(Any.strconv_Itoa L n hc.1 hc.2 X.w (qtg hn (by decide) (hgl _ hg).2)).mono fun e w' ⟨h1,k,os,h2⟩=>⟨_,h1,?_,.str _⟩⟩
   subst h2
   exact qqe _ _ _
  ·cases hT
def qEO:List PV→TR
 | [.s s]=>if s.length≤18 then (match Lib.atoi s with|some n=>.leaf (0,[.i n])|none=>.fail) else .fail
 | _=>.fail
theorem qBX{P:Program}{ρ:Ren}(L:Lays.n172 P ρ)(he:qnG P (ρ.f 172)){gl:List (Nat×AV)} :
  qM P gl (ρ.f 172) (q9 { args:=[.str],h:=[] } [{ res:=.tuple [.int .i64,.any],h:=[] }] qEO):=
 qjO he rfl fun B X ps j qs vargs hs hg hh ha hk hT=>by
  obtain⟨s,rfl⟩:=qHq hk
  simp only[qEO] at hT
  split at hT
  ·rename_i hc
   split at hT
   ·rename_i n hn
    cases hT
    have:=qB0 ha
    subst this
    refine⟨rfl,rfl,rfl,(Any.strconv_Atoi L ⟨s.toArray⟩ n (by simpa[ByteArray.size] using hc) (by simpa using hn) X.w).mono fun e w' ⟨h1,t,h2⟩=>⟨_,h1,?_,.tuple _ _ (.cons (.int _ _) (.cons (.undef _) .nil))⟩⟩
    subst h2
    exact qyO _ _ _
   ·cases hT
  ·cases hT
def qDL(s:List UInt8):List UInt8:=qeY (qds [48,48,48,48,48,48,48,48,48] (qt s) 9) s
def qmU(w:R):Nat→List UInt8
 | 0=>[]
 | i+1=>qDL (Lib.itoa (cI w i 0))++qmU w i
def qD7(b:Bool)(n:Int)(w:R):List UInt8:=if n=0 then [48] else (if b then [45] else [])++Lib.itoa (cI w (n-1) 0)++qmU w (n-1).toNat
def qvZ(n:Int)(w:R):Bool:=decide (0≤n)&&decide (n≤232)&&(List.range n.toNat).all fun i=>decide (0≤cI w i 0∧cI w i 0<1000000000)
def qE7:List PV→TR
 | [.b b,.i n,.r w]=>if qvZ n w then .leaf (0,[.s (qD7 b n w),.b b,.i n,.r w]) else .fail
 | _=>.fail
end Go.Eng

namespace Go.Proofs
open Go.Shelf
def Tryz.lays219_ren:Go.Shelf.Ren:=⟨fun|219=>217|217=>237|225=>238|224=>239|267=>240|266=>262|314=>263|n=>n,fun|9=>9|3=>3|4=>4|5=>5|46=>272|146=>289|51=>288|n=>n,fun|1=>1|n=>n⟩
theorem Tryz.lays219:Go.Proofs.Lays.n219 Tryz.prog Tryz.lays219_ren:={
 mixed:=by kernel_rfl
 f217:=Tryz.func237.trans (congrArg some (by kernel_rfl))
 f219:=Tryz.func217.trans (congrArg some (by kernel_rfl))
 f224:=Tryz.func239.trans (congrArg some (by kernel_rfl))
 f225:=Tryz.func238.trans (congrArg some (by kernel_rfl))
 f266:=Tryz.func262.trans (congrArg some (by kernel_rfl))
 f267:=Tryz.func240.trans (congrArg some (by kernel_rfl))
 f314:=Tryz.func263.trans (congrArg some (by kernel_rfl))
 t3:=Tryz.underlying3
 a3:=Tryz.isAgg3
 z3:=Tryz.sizeOf3
 v3:=Tryz.zeroValue3
 t4:=Tryz.underlying4
 a4:=Tryz.isAgg4
 z4:=Tryz.sizeOf4
 v4:=Tryz.zeroValue4
 t5:=Tryz.underlying5
 a5:=Tryz.isAgg5
 z5:=Tryz.sizeOf5
 v5:=Tryz.zeroValue5
 t9:=Tryz.underlying9
 a9:=Tryz.isAgg9
 z9:=Tryz.sizeOf9
 v9:=Tryz.zeroValue9
 t46:=Tryz.underlying272
 a46:=Tryz.isAgg272
 z46:=Tryz.sizeOf272
 v46:=Tryz.zeroValue272
 t51:=Tryz.underlying288
 a51:=Tryz.isAgg288
 z51:=Tryz.sizeOf288
 v51:=Tryz.zeroValue288
 t146:=Tryz.underlying289
 a146:=Tryz.isAgg289
 z146:=Tryz.sizeOf289
 v146:=Tryz.zeroValue289
 g1:=by kernel_rfl }
def Tryz.lays106_ren:Go.Shelf.Ren:=⟨fun|106=>193|213=>223|265=>244|n=>n,fun|9=>9|3=>3|n=>n,fun|n=>n⟩
theorem Tryz.lays106:Go.Proofs.Lays.n106 Tryz.prog Tryz.lays106_ren:={
 mixed:=by kernel_rfl
 f106:=Tryz.func193.trans (congrArg some (by kernel_rfl))
 f213:=Tryz.func223.trans (congrArg some (by kernel_rfl))
 f265:=Tryz.func244.trans (congrArg some (by kernel_rfl))
 t3:=Tryz.underlying3
 a3:=Tryz.isAgg3
 z3:=Tryz.sizeOf3
 v3:=Tryz.zeroValue3
 t9:=Tryz.underlying9
 a9:=Tryz.isAgg9
 z9:=Tryz.sizeOf9
 v9:=Tryz.zeroValue9 }
def Tryz.lays160_ren:Go.Shelf.Ren:=⟨fun|160=>154|232=>187|231=>186|227=>188|234=>190|233=>189|236=>192|235=>191|228=>219|271=>222|151=>221|197=>220|120=>243|152=>242|260=>241|137=>264|119=>265|224=>239|225=>238|217=>237|266=>262|n=>n,fun|9=>9|4=>4|3=>3|5=>5|117=>232|116=>231|0=>0|124=>235|21=>21|105=>260|46=>272|119=>291|139=>294|138=>293|n=>n,fun|3=>2|4=>3|n=>n⟩
theorem Tryz.lays160:Go.Proofs.Lays.n160 Tryz.prog Tryz.lays160_ren:={
 mixed:=by kernel_rfl
 f119:=Tryz.func265.trans (congrArg some (by kernel_rfl))
 f120:=Tryz.func243.trans (congrArg some (by kernel_rfl))
 f137:=Tryz.func264.trans (congrArg some (by kernel_rfl))
 f151:=Tryz.func221.trans (congrArg some (by kernel_rfl))
 f152:=Tryz.func242.trans (congrArg some (by kernel_rfl))
 f160:=Tryz.func154.trans (congrArg some (by kernel_rfl))
 f197:=Tryz.func220.trans (congrArg some (by kernel_rfl))
 f217:=Tryz.func237.trans (congrArg some (by kernel_rfl))
 f224:=Tryz.func239.trans (congrArg some (by kernel_rfl))
 f225:=Tryz.func238.trans (congrArg some (by kernel_rfl))
 f227:=Tryz.func188.trans (congrArg some (by kernel_rfl))
 f228:=Tryz.func219.trans (congrArg some (by kernel_rfl))
 f231:=Tryz.func186.trans (congrArg some (by kernel_rfl))
 f232:=Tryz.func187.trans (congrArg some (by kernel_rfl))
 f233:=Tryz.func189.trans (congrArg some (by kernel_rfl))
 f234:=Tryz.func190.trans (congrArg some (by kernel_rfl))
 f235:=Tryz.func191.trans (congrArg some (by kernel_rfl))
 f236:=Tryz.func192.trans (congrArg some (by kernel_rfl))
 f260:=Tryz.func241.trans (congrArg some (by kernel_rfl))
 f266:=Tryz.func262.trans (congrArg some (by kernel_rfl))
 f271:=Tryz.func222.trans (congrArg some (by kernel_rfl))
 t0:=Tryz.underlying0
 a0:=Tryz.isAgg0
 z0:=Tryz.sizeOf0
 v0:=Tryz.zeroValue0
 t3:=Tryz.underlying3
 a3:=Tryz.isAgg3
 z3:=Tryz.sizeOf3
 v3:=Tryz.zeroValue3
 t4:=Tryz.underlying4
 a4:=Tryz.isAgg4
 z4:=Tryz.sizeOf4
 v4:=Tryz.zeroValue4
 t5:=Tryz.underlying5
 a5:=Tryz.isAgg5
 z5:=Tryz.sizeOf5
 v5:=Tryz.zeroValue5
 t9:=Tryz.underlying9
 a9:=Tryz.isAgg9
 z9:=Tryz.sizeOf9
 v9:=Tryz.zeroValue9
 t21:=Tryz.underlying21
 a21:=Tryz.isAgg21
 z21:=Tryz.sizeOf21
 v21:=Tryz.zeroValue21
 t46:=Tryz.underlying272
 a46:=Tryz.isAgg272
 z46:=Tryz.sizeOf272
 v46:=Tryz.zeroValue272
 t105:=Tryz.underlying260
 a105:=Tryz.isAgg260
 z105:=Tryz.sizeOf260
 v105:=Tryz.zeroValue260
 t116:=Tryz.underlying231
 a116:=Tryz.isAgg231
 z116:=Tryz.sizeOf231
 t117:=Tryz.underlying232
 a117:=Tryz.isAgg232
 z117:=Tryz.sizeOf232
 v117:=Tryz.zeroValue232
 t119:=Tryz.underlying291
 a119:=Tryz.isAgg291
 z119:=Tryz.sizeOf291
 t124:=Tryz.underlying235
 a124:=Tryz.isAgg235
 z124:=Tryz.sizeOf235
 v124:=Tryz.zeroValue235
 t138:=Tryz.underlying293
 a138:=Tryz.isAgg293
 z138:=Tryz.sizeOf293
 v138:=Tryz.zeroValue293
 t139:=Tryz.underlying294
 a139:=Tryz.isAgg294
 z139:=Tryz.sizeOf294
 v139:=Tryz.zeroValue294
 g3:=by kernel_rfl
 g4:=by kernel_rfl }
def Tryz.lays172_ren:Go.Shelf.Ren:=⟨fun|172=>194|244=>224|245=>225|247=>245|279=>246|280=>247|281=>248|282=>249|287=>266|316=>267|171=>196|205=>268|321=>275|322=>276|243=>226|246=>250|283=>269|284=>270|285=>271|286=>272|129=>278|317=>277|318=>279|319=>280|320=>281|337=>282|338=>283|n=>n,fun|9=>9|3=>3|75=>237|76=>238|4=>4|5=>5|167=>274|37=>162|0=>0|85=>275|2=>2|168=>277|53=>296|175=>297|46=>272|210=>300|127=>265|145=>314|143=>312|21=>21|171=>302|173=>305|212=>316|51=>288|20=>20|213=>317|232=>320|233=>321|80=>249|n=>n,fun|15=>4|16=>5|17=>6|18=>7|19=>8|n=>n⟩
theorem Tryz.lays172:Go.Proofs.Lays.n172 Tryz.prog Tryz.lays172_ren:={
 mixed:=by kernel_rfl
 f129:=Tryz.func278.trans (congrArg some (by kernel_rfl))
 f171:=Tryz.func196.trans (congrArg some (by kernel_rfl))
 f172:=Tryz.func194.trans (congrArg some (by kernel_rfl))
 f205:=Tryz.func268.trans (congrArg some (by kernel_rfl))
 f243:=Tryz.func226.trans (congrArg some (by kernel_rfl))
 f244:=Tryz.func224.trans (congrArg some (by kernel_rfl))
 f245:=Tryz.func225.trans (congrArg some (by kernel_rfl))
 f246:=Tryz.func250.trans (congrArg some (by kernel_rfl))
 f247:=Tryz.func245.trans (congrArg some (by kernel_rfl))
 f279:=Tryz.func246.trans (congrArg some (by kernel_rfl))
 f280:=Tryz.func247.trans (congrArg some (by kernel_rfl))
 f281:=Tryz.func248.trans (congrArg some (by kernel_rfl))
 f282:=Tryz.func249.trans (congrArg some (by kernel_rfl))
 f283:=Tryz.func269.trans (congrArg some (by kernel_rfl))
 f284:=Tryz.func270.trans (congrArg some (by kernel_rfl))
 f285:=Tryz.func271.trans (congrArg some (by kernel_rfl))
 f286:=Tryz.func272.trans (congrArg some (by kernel_rfl))
 f287:=Tryz.func266.trans (congrArg some (by kernel_rfl))
 f316:=Tryz.func267.trans (congrArg some (by kernel_rfl))
 f317:=Tryz.func277.trans (congrArg some (by kernel_rfl))
 f318:=Tryz.func279.trans (congrArg some (by kernel_rfl))
 f319:=Tryz.func280.trans (congrArg some (by kernel_rfl))
 f320:=Tryz.func281.trans (congrArg some (by kernel_rfl))
 f321:=Tryz.func275.trans (congrArg some (by kernel_rfl))
 f322:=Tryz.func276.trans (congrArg some (by kernel_rfl))
 f337:=Tryz.func282.trans (congrArg some (by kernel_rfl))
 f338:=Tryz.func283.trans (congrArg some (by kernel_rfl))
 t0:=Tryz.underlying0
 a0:=Tryz.isAgg0
 z0:=Tryz.sizeOf0
 v0:=Tryz.zeroValue0
 t2:=Tryz.underlying2
 a2:=Tryz.isAgg2
 z2:=Tryz.sizeOf2
 v2:=Tryz.zeroValue2
 t3:=Tryz.underlying3
 a3:=Tryz.isAgg3
 z3:=Tryz.sizeOf3
 v3:=Tryz.zeroValue3
 t4:=Tryz.underlying4
 a4:=Tryz.isAgg4
 z4:=Tryz.sizeOf4
 v4:=Tryz.zeroValue4
 t5:=Tryz.underlying5
 a5:=Tryz.isAgg5
 z5:=Tryz.sizeOf5
 v5:=Tryz.zeroValue5
 t9:=Tryz.underlying9
 a9:=Tryz.isAgg9
 z9:=Tryz.sizeOf9
 v9:=Tryz.zeroValue9
 t20:=Tryz.underlying20
 a20:=Tryz.isAgg20
 z20:=Tryz.sizeOf20
 v20:=Tryz.zeroValue20
 t21:=Tryz.underlying21
 a21:=Tryz.isAgg21
 z21:=Tryz.sizeOf21
 v21:=Tryz.zeroValue21
 t37:=Tryz.underlying162
 a37:=Tryz.isAgg162
 z37:=Tryz.sizeOf162
 v37:=Tryz.zeroValue162
 t46:=Tryz.underlying272
 a46:=Tryz.isAgg272
 z46:=Tryz.sizeOf272
 v46:=Tryz.zeroValue272
 t51:=Tryz.underlying288
 a51:=Tryz.isAgg288
 z51:=Tryz.sizeOf288
 v51:=Tryz.zeroValue288
 t53:=Tryz.underlying296
 a53:=Tryz.isAgg296
 z53:=Tryz.sizeOf296
 v53:=Tryz.zeroValue296
 t75:=Tryz.underlying237
 a75:=Tryz.isAgg237
 z75:=Tryz.sizeOf237
 v75:=Tryz.zeroValue237
 t76:=Tryz.underlying238
 a76:=Tryz.isAgg238
 z76:=Tryz.sizeOf238
 v76:=Tryz.zeroValue238
 t85:=Tryz.underlying275
 a85:=Tryz.isAgg275
 z85:=Tryz.sizeOf275
 v85:=Tryz.zeroValue275
 t127:=Tryz.underlying265
 a127:=Tryz.isAgg265
 z127:=Tryz.sizeOf265
 v127:=Tryz.zeroValue265
 t143:=Tryz.underlying312
 a143:=Tryz.isAgg312
 z143:=Tryz.sizeOf312
 v143:=Tryz.zeroValue312
 t145:=Tryz.underlying314
 a145:=Tryz.isAgg314
 z145:=Tryz.sizeOf314
 v145:=Tryz.zeroValue314
 t167:=Tryz.underlying274
 a167:=Tryz.isAgg274
 z167:=Tryz.sizeOf274
 v167:=Tryz.zeroValue274
 t168:=Tryz.underlying277
 a168:=Tryz.isAgg277
 z168:=Tryz.sizeOf277
 v168:=Tryz.zeroValue277
 t171:=Tryz.underlying302
 a171:=Tryz.isAgg302
 z171:=Tryz.sizeOf302
 v171:=Tryz.zeroValue302
 t173:=Tryz.underlying305
 a173:=Tryz.isAgg305
 z173:=Tryz.sizeOf305
 v173:=Tryz.zeroValue305
 t175:=Tryz.underlying297
 a175:=Tryz.isAgg297
 z175:=Tryz.sizeOf297
 v175:=Tryz.zeroValue297
 t210:=Tryz.underlying300
 a210:=Tryz.isAgg300
 z210:=Tryz.sizeOf300
 v210:=Tryz.zeroValue300
 t212:=Tryz.underlying316
 a212:=Tryz.isAgg316
 z212:=Tryz.sizeOf316
 v212:=Tryz.zeroValue316
 t213:=Tryz.underlying317
 a213:=Tryz.isAgg317
 z213:=Tryz.sizeOf317
 t232:=Tryz.underlying320
 a232:=Tryz.isAgg320
 z232:=Tryz.sizeOf320
 v232:=Tryz.zeroValue320
 t233:=Tryz.underlying321
 a233:=Tryz.isAgg321
 z233:=Tryz.sizeOf321
 v233:=Tryz.zeroValue321
 g15:=by kernel_rfl
 g16:=by kernel_rfl
 g17:=by kernel_rfl
 g18:=by kernel_rfl
 g19:=by kernel_rfl }
def Tryz.lays169_ren:Go.Shelf.Ren:=⟨fun|169=>202|n=>n,fun|70=>245|9=>9|0=>0|72=>247|37=>162|127=>265|3=>3|5=>5|n=>n,fun|n=>n⟩
theorem Tryz.lays169:Go.Proofs.Lays.n169 Tryz.prog Tryz.lays169_ren:={
 mixed:=by kernel_rfl
 f169:=Tryz.func202.trans (congrArg some (by kernel_rfl))
 t0:=Tryz.underlying0
 a0:=Tryz.isAgg0
 z0:=Tryz.sizeOf0
 v0:=Tryz.zeroValue0
 t3:=Tryz.underlying3
 a3:=Tryz.isAgg3
 z3:=Tryz.sizeOf3
 v3:=Tryz.zeroValue3
 t9:=Tryz.underlying9
 a9:=Tryz.isAgg9
 z9:=Tryz.sizeOf9
 v9:=Tryz.zeroValue9
 t37:=Tryz.underlying162
 a37:=Tryz.isAgg162
 z37:=Tryz.sizeOf162
 v37:=Tryz.zeroValue162
 t70:=Tryz.underlying245
 a70:=Tryz.isAgg245
 z70:=Tryz.sizeOf245
 v70:=Tryz.zeroValue245
 t72:=Tryz.underlying247
 a72:=Tryz.isAgg247
 z72:=Tryz.sizeOf247
 v72:=Tryz.zeroValue247
 t127:=Tryz.underlying265
 a127:=Tryz.isAgg265
 z127:=Tryz.sizeOf265
 v127:=Tryz.zeroValue265 }
def Tryz.laysM171_ren:Go.Shelf.Ren:=⟨fun|171=>196|243=>226|246=>250|283=>269|284=>270|285=>271|286=>272|129=>278|317=>277|318=>279|319=>280|320=>281|337=>282|338=>283|n=>n,fun|3=>3|9=>9|2=>2|4=>4|171=>302|0=>0|53=>296|37=>162|5=>5|173=>305|212=>316|51=>288|20=>20|213=>317|46=>272|232=>320|233=>321|n=>n,fun|17=>6|18=>7|19=>8|n=>n⟩
theorem Tryz.laysM171:Go.Proofs.LaysM.n171 Tryz.prog Tryz.laysM171_ren:={
 mixed:=by kernel_rfl
 f129:=Tryz.func278.trans (congrArg some (by kernel_rfl))
 f171:=Tryz.func196.trans (congrArg some (by kernel_rfl))
 f243:=Tryz.func226.trans (congrArg some (by kernel_rfl))
 f246:=Tryz.func250.trans (congrArg some (by kernel_rfl))
 f283:=Tryz.func269.trans (congrArg some (by kernel_rfl))
 f284:=Tryz.func270.trans (congrArg some (by kernel_rfl))
 f285:=Tryz.func271.trans (congrArg some (by kernel_rfl))
 f286:=Tryz.func272.trans (congrArg some (by kernel_rfl))
 f317:=Tryz.func277.trans (congrArg some (by kernel_rfl))
 f318:=Tryz.func279.trans (congrArg some (by kernel_rfl))
 f319:=Tryz.func280.trans (congrArg some (by kernel_rfl))
 f320:=Tryz.func281.trans (congrArg some (by kernel_rfl))
 f337:=Tryz.func282.trans (congrArg some (by kernel_rfl))
 f338:=Tryz.func283.trans (congrArg some (by kernel_rfl))
 t0:=Tryz.underlying0
 a0:=Tryz.isAgg0
 z0:=Tryz.sizeOf0
 v0:=Tryz.zeroValue0
 t2:=Tryz.underlying2
 a2:=Tryz.isAgg2
 z2:=Tryz.sizeOf2
 v2:=Tryz.zeroValue2
 t3:=Tryz.underlying3
 a3:=Tryz.isAgg3
 z3:=Tryz.sizeOf3
 v3:=Tryz.zeroValue3
 t4:=Tryz.underlying4
 a4:=Tryz.isAgg4
 z4:=Tryz.sizeOf4
 v4:=Tryz.zeroValue4
 t5:=Tryz.underlying5
 a5:=Tryz.isAgg5
 z5:=Tryz.sizeOf5
 v5:=Tryz.zeroValue5
 t9:=Tryz.underlying9
 a9:=Tryz.isAgg9
 z9:=Tryz.sizeOf9
 v9:=Tryz.zeroValue9
 t20:=Tryz.underlying20
 a20:=Tryz.isAgg20
 z20:=Tryz.sizeOf20
 v20:=Tryz.zeroValue20
 t37:=Tryz.underlying162
 a37:=Tryz.isAgg162
 z37:=Tryz.sizeOf162
 v37:=Tryz.zeroValue162
 t46:=Tryz.underlying272
 a46:=Tryz.isAgg272
 z46:=Tryz.sizeOf272
 v46:=Tryz.zeroValue272
 t51:=Tryz.underlying288
 a51:=Tryz.isAgg288
 z51:=Tryz.sizeOf288
 v51:=Tryz.zeroValue288
 t53:=Tryz.underlying296
 a53:=Tryz.isAgg296
 z53:=Tryz.sizeOf296
 v53:=Tryz.zeroValue296
 t171:=Tryz.underlying302
 a171:=Tryz.isAgg302
 z171:=Tryz.sizeOf302
 v171:=Tryz.zeroValue302
 t173:=Tryz.underlying305
 a173:=Tryz.isAgg305
 z173:=Tryz.sizeOf305
 v173:=Tryz.zeroValue305
 t212:=Tryz.underlying316
 a212:=Tryz.isAgg316
 z212:=Tryz.sizeOf316
 v212:=Tryz.zeroValue316
 t213:=Tryz.underlying317
 a213:=Tryz.isAgg317
 z213:=Tryz.sizeOf317
 t232:=Tryz.underlying320
 a232:=Tryz.isAgg320
 z232:=Tryz.sizeOf320
 v232:=Tryz.zeroValue320
 t233:=Tryz.underlying321
 a233:=Tryz.isAgg321
 z233:=Tryz.sizeOf321
 v233:=Tryz.zeroValue321
 g17:=by kernel_rfl
 g18:=by kernel_rfl
 g19:=by kernel_rfl
 i0:=by kernel_rfl
 i2:=by kernel_rfl
 i3:=by kernel_rfl
 i4:=by kernel_rfl
 i5:=by kernel_rfl
 i9:=by kernel_rfl
 i20:=by kernel_rfl
 i37:=by kernel_rfl
 i46:=by kernel_rfl
 i51:=by kernel_rfl
 i53:=by kernel_rfl
 i171:=by kernel_rfl
 i173:=by kernel_rfl
 i212:=by kernel_rfl
 i232:=by kernel_rfl
 i233:=by kernel_rfl
 m17:=by kernel_rfl
 m18:=by kernel_rfl
 m19:=by kernel_rfl }
end Go.Proofs

namespace Go.Eng
open Go.Shelf Go.RowKit Go.Proofs
set_option maxHeartbeats 2000000 in
set_option maxRecDepth 100000 in
theorem qFR(b:Nat)(w:World)(h0:w.cell? ⟨b,0,none⟩=some (.pointer (some ⟨b,0,none⟩))) :
  Calls Tryz.prog 228 #[.pointer (some ⟨b,0,none⟩)] w fun e w'=>e=.returned (.tuple #[])∧w'=w:=by
 obtain⟨j,hj,_⟩:=Option.map_eq_some_iff.1 (show (Tryz.prog.info? 247).map (·.size)=some 2 by kernel_rfl)
 go_enter Tryz.func228,Tryz.ntmps228
 go_wp2
 rw[Lib.run_neq_ptr_same w ⟨b,0,none⟩ Tryz.underlying245 hj]
 go_wp2
 go_end0
 exact⟨rfl,rfl⟩
set_option maxHeartbeats 2000000 in
set_option maxRecDepth 100000 in
theorem qD6(b:Nat)(w:World)(h0:w.cell? ⟨b,0,none⟩=some (.pointer none))(hsh:w.shape? b=some (247,2))(hfz:w.frozen? ⟨b,0,none⟩=false) :
  Calls Tryz.prog 228 #[.pointer (some ⟨b,0,none⟩)] w fun e w'=>e=.returned (.tuple #[])∧w'=w.setCell ⟨b,0,none⟩ (.pointer (some ⟨b,0,none⟩)):=by
 obtain⟨j,hj,hjs⟩:=Option.map_eq_some_iff.1 (show (Tryz.prog.info? 247).map (·.size)=some 2 by kernel_rfl)
 go_enter Tryz.func228,Tryz.ntmps228
 go_wp2
 rw[Lib.run_to_unsafe w ⟨b,0,none⟩ Tryz.underlying245 Tryz.underlying281 hj (by rw[hjs];decide) hsh (Nat.zero_lt_succ 1)]
 simp only[Result.andThen]
 rw[Oper.upon_value]
 go_wp2
 rw[run_callFunc_extern Tryz.func251 (by kernel_rfl) (by kernel_rfl) (by kernel_rfl) (e:=Extern.AbiNoEscape.same) (by kernel_rfl)]
 rw[Lib.run_noEscape]
 simp only[Result.andThen]
 rw[Oper.upon_value]
 go_wp2
 rw[Lib.run_from_unsafe w ⟨b,0,none⟩ Tryz.underlying281 Tryz.underlying245 hj hsh (by kernel_rfl)]
 simp only[Result.andThen]
 rw[Oper.upon_value]
 go_wp2
 go_end0
 exact⟨rfl,rfl⟩
abbrev BtB(B b:Nat)(bs:List Value)(w:World):Prop:=Lib.IsBuilder 247 5 B b bs w
set_option maxHeartbeats 2000000 in
set_option maxRecDepth 100000 in
theorem qxp(B b:Nat)(bs:List Value)(w:World)(h:BtB B b bs w) :
  Calls Tryz.prog 228 #[.pointer (some ⟨b,0,none⟩)] w fun e w'=>e=.returned (.tuple #[])∧Lib.BuilderAt 247 5 B b (.pointer (some ⟨b,0,none⟩)) bs w'∧Below B w w':=by
 rcases h with h|h
 ·refine(qD6 b w h.cell0 h.shape h.frozen0).mono ?_
  rintro e w' ⟨rfl,rfl⟩
  exact⟨rfl,h.used _,(Below.refl B w).setCell (p:=⟨b,0,none⟩) h.1 _⟩
 ·refine(qFR b w h.cell0).mono ?_
  rintro e w' ⟨rfl,rfl⟩
  exact⟨rfl,h,Below.refl B _⟩
set_option maxHeartbeats 2000000 in
set_option maxRecDepth 100000 in
theorem qFP(B b:Nat)(bs:List Value)(c:Int)(w:World)(h:BtB B b bs w)(hlen:bs.length+1≤140737488355328)(hBw:B≤w.heap.size) :
  Calls Tryz.prog 200 #[.pointer (some ⟨b,0,none⟩),.int .u8 c] w fun e w'=>e=.returned .nilIface∧BtB B b (bs++[.int .u8 c]) w'∧Below B w w':=by
 obtain⟨i0,hi,hz0,hz1,hz2⟩:=info_parts (show (Tryz.prog.info? 5).map (fun i=>(i.zero,i.size,i.bytes))=some (some (.int .u8 0),1,1) by kernel_rfl)
 go_enter Tryz.func200,Tryz.ntmps200
 go_wp2_with (go_at_call 228;refine(qxp B b bs _ h).mono ?_)
 rintro e w1 ⟨rfl,h1,hb1⟩
 obtain⟨hB,v,hbk,hown,hne⟩:=h1
 have c0:w1.cell? ⟨b,0,none⟩=some (.pointer (some ⟨b,0,none⟩)):=by rw[Lib.cell_of_heap hbk];rfl
 have c1:w1.cell? ⟨b,1,none⟩=some v:=by rw[Lib.cell_of_heap hbk];rfl
 have hsz1:=hb1.size
 go_wp2_with (at_builtin;refine wpList_append_own _ rfl _ _ 162 rfl B 5 i0 (.int .u8 0) 1 1 Tryz.underlying162 hi hz0 hz1 hz2 rfl (by decide) _ _ _ rfl (hown.alloc _) ⟨w1.heap.size,0,none⟩ 1 1 [.int .u8 c] rfl rfl ?c1 ?c2 ?c3 ?c4 ?c5 ?_)
 case c1=>
  intro j u hj
  match j,hj with
  | 0,hj=>simp at hj;subst hj;simp[Addr.add]
 case c2=>intro u hu;simp at hu;subst hu;rfl
 case c3=>unfold maxLen;omega
 case c4=>omega
 case c5=>simp;omega
 intro v' w2 hown' hgrow _
 have hlt:b<w1.heap.size:=by
  rcases Nat.lt_or_ge b w1.heap.size with h'|h'
  ·exact h'
  ·simp[Array.getElem?_eq_none h'] at hbk
 have hb2:w2.heap[b]?=some (.cells #[.pointer (some ⟨b,0,none⟩),v] 247 (0,0)):=by
  rw[hgrow.block b (by simp;omega) (fun e=>hne e.symm),Lib.alloc_old w1 _ b hlt]
  exact hbk
 have d0:w2.cell? ⟨b,0,none⟩=some (.pointer (some ⟨b,0,none⟩)):=by rw[Lib.cell_of_heap hb2];rfl
 have d1:w2.cell? ⟨b,1,none⟩=some v:=by rw[Lib.cell_of_heap hb2];rfl
 have f1:w2.frozen? ⟨b,1,none⟩=false:=Lib.frozen_of_heap hb2 1
 obtain⟨ao,n',cap,rfl⟩:∃ao n' cap,v'=.slice ao n' cap:=by
  rcases hown'.2 with⟨hv,_⟩|⟨g,cap,cur,hv,_⟩
  ·exact⟨_,_,_,hv⟩
  ·exact⟨_,_,_,hv⟩
 go_wp2
 go_ret
 refine⟨rfl,.inr ?_,?_⟩
 ·exact Lib.BuilderAt.put (T:=247) (e:=5) hB hb2 (bs':=bs++[.int .u8 c]) (by simpa using hown') (by decide)
 ·exact((hb1.alloc (by omega) _).grown hgrow (by simp;omega) (fun k hk=>(hown.lt k hk).1)).setCell (p:=⟨b,1,none⟩) hB _
set_option maxHeartbeats 2000000 in
set_option maxRecDepth 100000 in
theorem qDI(B b:Nat)(bs:List Value)(s:ByteArray)(w:World)(h:BtB B b bs w)(hlen:bs.length+s.size≤140737488355328)(hBw:B≤w.heap.size) :
  Calls Tryz.prog 201 #[.pointer (some ⟨b,0,none⟩),.string s] w fun e w'=>e=.returned (.tuple #[.int .i64 s.size,.nilIface])∧BtB B b (bs++Lib.strCells s) w'∧Below B w w':=by
 obtain⟨i0,hi,hz0,hz1,hz2⟩:=info_parts (show (Tryz.prog.info? 5).map (fun i=>(i.zero,i.size,i.bytes))=some (some (.int .u8 0),1,1) by kernel_rfl)
 go_enter Tryz.func201,Tryz.ntmps201
 go_wp2_with (go_at_call 228;refine(qxp B b bs _ h).mono ?_)
 rintro e w1 ⟨rfl,h1,hb1⟩
 obtain⟨hB,v,hbk,hown,hne⟩:=h1
 have c0:w1.cell? ⟨b,0,none⟩=some (.pointer (some ⟨b,0,none⟩)):=by rw[Lib.cell_of_heap hbk];rfl
 have c1:w1.cell? ⟨b,1,none⟩=some v:=by rw[Lib.cell_of_heap hbk];rfl
 have hsz1:=hb1.size
 go_wp2_with (at_builtin;refine Lib.wpList_append_own_string _ rfl _ _ 162 9 rfl B 5 i0 Tryz.underlying162 Tryz.underlying9 hi hz0 hz1 hz2 _ _ _ rfl hown s rfl ?c3 ?c4 ?c5 ?_)
 case c3=>unfold maxLen;omega
 case c4=>omega
 case c5=>omega
 intro v' w2 hown' hgrow _
 have hlt:b<w1.heap.size:=by
  rcases Nat.lt_or_ge b w1.heap.size with h'|h'
  ·exact h'
  ·simp[Array.getElem?_eq_none h'] at hbk
 have hb2:w2.heap[b]?=some (.cells #[.pointer (some ⟨b,0,none⟩),v] 247 (0,0)):=by
  rw[hgrow.block b hlt (fun e=>hne e.symm)]
  exact hbk
 have d0:w2.cell? ⟨b,0,none⟩=some (.pointer (some ⟨b,0,none⟩)):=by rw[Lib.cell_of_heap hb2];rfl
 have d1:w2.cell? ⟨b,1,none⟩=some v:=by rw[Lib.cell_of_heap hb2];rfl
 have f1:w2.frozen? ⟨b,1,none⟩=false:=Lib.frozen_of_heap hb2 1
 obtain⟨ao,n',cap,rfl⟩:∃ao n' cap,v'=.slice ao n' cap:=by
  rcases hown'.2 with⟨hv,_⟩|⟨g,cap,cur,hv,_⟩
  ·exact⟨_,_,_,hv⟩
  ·exact⟨_,_,_,hv⟩
 go_wp2
 go_ret2
 refine⟨rfl,.inr ?_,?_⟩
 ·exact Lib.BuilderAt.put (T:=247) (e:=5) hB hb2 (bs':=bs++Lib.strCells s) (by simpa[Lib.strCells_length] using hown') (by decide)
 ·exact(hb1.grown hgrow (by omega) (fun k hk=>(hown.lt k hk).1)).setCell (p:=⟨b,1,none⟩) hB _
theorem qDv:Builder.Extra Tryz.prog Tryz.lays169_ren where
 sizeBuilder:=by kernel_rfl
 liesBuilder:=by kernel_rfl
 t5:=Tryz.underlying5
 a5:=Tryz.isAgg5
 z5:=Tryz.sizeOf5
 v5:=Tryz.zeroValue5
 infoByte:=by kernel_rfl
 cellsByte:=by kernel_rfl
 sizeByte:=by kernel_rfl
 neB5:=by decide
set_option maxHeartbeats 2000000 in
set_option maxRecDepth 100000 in
theorem qCr(B b:Nat)(l:List UInt8)(w:World)(h:BtB B b (Lib.byteCells l) w)(h0:l≠[]) :
  Calls Tryz.prog 202 #[.pointer (some ⟨b,0,none⟩)] w fun e w'=>e=.returned (.string ⟨l.toArray⟩)∧Below B w w':=
 Any.Builder_String Tryz.lays169 qDv B b l w h h0
def qo9(f:Nat→Int):Nat→List UInt8
 | 0=>[]
 | i+1=>qDL (Lib.itoa (f i))++qo9 f i
def qBf(b:Bool)(n:Nat)(f:Nat→Int):List UInt8:=if n=0 then [48] else (if b then [45] else [])++Lib.itoa (f (n-1))++qo9 f (n-1)
theorem qBq (n:Int) (h:-9223372036854775808≤n∧n≤9223372036854775807) (w:World) (ht:Lib.TabIs Tryz.prog w "internal/strconv.uint64pow10" .u64 Lib.pow10Tab) :
  Calls Tryz.prog 196 #[.int .i64 n] w fun e w'=>e=.returned (.string ⟨(Lib.itoa n).toArray⟩)∧Below w.heap.size w w':=
 (Any.strconv_Itoa Tryz.laysM171 n h.1 h.2 w ht).mono fun e w' ⟨h1,k,os,h2⟩=>⟨h1,by subst h2;exact qqe _ _ _⟩
theorem qsz{P:Program}{w w':World}{name:String}{k:IntKind}{zs:List Int}(h:Lib.TabIs P w name k zs)(hb:Below w.heap.size w w'):Lib.TabIs P w' name k zs:=by
 unfold Lib.TabIs World.var? at *
 cases hg:P.globalNamed name with
 | none=>rw[hg] at h;cases h
 | some g=>
  rw[hg] at h
  simp only[Option.bind_some] at h ⊢
  by_cases hlt:g<w.heap.size
  ·rw[hb.block g hlt];exact h
  ·rw[Array.getElem?_eq_none (by omega)] at h;cases h
theorem qk2{w w':World}(hb:Below w.heap.size w w'){n:Nat}(hn:n<w.heap.size)(o:Nat):w'.cell? ⟨n,o,none⟩=w.cell? ⟨n,o,none⟩:=World.cell?_of_block (hb.block n hn)
theorem qyn{B b:Nat}{bs:List Value}{w w':World}(h:BtB B b bs w)(hb:Below w.heap.size w w'):BtB B b bs w':=by
 have key:∀p,Lib.BuilderAt 247 5 B b p bs w→Lib.BuilderAt 247 5 B b p bs w':=by
  intro p h
  have hlt:=h.lt
  obtain⟨hB,v,hbk,⟨hl,hown⟩,hne⟩:=h
  refine⟨hB,v,(hb.block b hlt).trans hbk,⟨hl,?_⟩,hne⟩
  rcases hown with h|⟨g,cap,cur,h1,h2,h3,h4⟩
  ·exact .inl h
  ·exact .inr ⟨g,cap,cur,h1,h2,(hb.block g (Array.getElem?_eq_some_iff.1 h3).1).trans h3,h4⟩
 exact h.elim (fun x=>.inl (key _ x)) (fun x=>.inr (key _ x))
theorem qGm{B b:Nat}{bs:List Value}{w:World}(h:BtB B b bs w):BtB B b bs w.drew:=h.elim (fun x=>.inl x.drew) (fun x=>.inr x.drew)
theorem qF5:∀(k n:Nat),n<10^(k+1)→(Lib.decDigits n).length≤k+1
 | 0,n,h=>by rw[Lib.decDigits,dif_pos (by omega)];simp
 | k+1,n,h=>by
  rw[Lib.decDigits]
  split
  ·simp
  ·have:=qF5 k (n/10) (by rw[Nat.pow_succ] at h;omega)
   simp;omega
theorem qGh{pre l:List UInt8}{k:Nat}(hp:pre.length≤k)(hl:l.length≤9)(hk:k≤100000:=by omega):(Lib.byteCells pre).length+(⟨l.toArray⟩:ByteArray).size≤140737488355328:=by
 rw[Lib.byteCells_length]
 have:(⟨l.toArray⟩:ByteArray).size=l.length:=by simp[ByteArray.size]
 omega
theorem qBK{x:Int}(h:0≤x∧x<1000000000):(Lib.itoa x).length≤9:=by
 unfold Lib.itoa
 rw[if_neg (by omega)]
 exact qF5 8 _ (by omega)
theorem qBx{l:List UInt8}(h:l.length≤9):(qDL l).length=9:=by
 unfold qDL qeY qds qt
 simp;omega
theorem qFf{l:List UInt8}(h:l.length≤9):(⟨#[48,48,48,48,48,48,48,48,48]⟩:ByteArray).extract l.length 9++⟨l.toArray⟩=⟨(qDL l).toArray⟩:=by
 have key:∀k:Nat,k≤9→(⟨#[48,48,48,48,48,48,48,48,48]⟩:ByteArray).extract k 9=⟨(qds [48,48,48,48,48,48,48,48,48] (k:Int) 9).toArray⟩:=by
  intro k hk
  have:k=0∨k=1∨k=2∨k=3∨k=4∨k=5∨k=6∨k=7∨k=8∨k=9:=by omega
  rcases this with rfl|rfl|rfl|rfl|rfl|rfl|rfl|rfl|rfl|rfl<;>rfl
 rw[key _ h]
 unfold qDL qeY qt
 apply ByteArray.ext
 simp
theorem qEb(l:List UInt8):Lib.strCells ⟨l.toArray⟩=Lib.byteCells l:=rfl
theorem qGn(x:Int):0<(Lib.itoa x).length:=by
 unfold Lib.itoa
 split
 ·simp
 ·rw[Lib.decDigits];split<;>simp
set_option maxHeartbeats 4000000 in
set_option maxRecDepth 1000000 in
theorem qG0(n0:Nat)(b:Bool)(n:Nat)(f:Nat→Int)(w:World)(hlt:n0<w.heap.size)(h0:w.cell? ⟨n0,0,none⟩=some (.bool b))(h1:w.cell? ⟨n0,1,none⟩=some (.int .i64 (n:Int)))(hw:∀i,i<232→w.cell? ⟨n0,2+i,none⟩=some (.int .i64 (f i)))
  (hn:n≤232) (hf:∀i,i<n→0≤f i∧f i<1000000000) (ht:Lib.TabIs Tryz.prog w "internal/strconv.uint64pow10" .u64 Lib.pow10Tab) :
  Calls Tryz.prog 161 #[.pointer (some ⟨n0,0,none⟩)] w fun e w'=>e=.returned (.string ⟨(qBf b n f).toArray⟩)∧Below w.heap.size w w':=by
 rcases Nat.eq_zero_or_pos n with rfl|hpos
 ·go_enter Tryz.func161,Tryz.ntmps161
  go_wp2
  go_ret
  exact⟨rfl,Below.refl _ _⟩
 obtain⟨m,rfl⟩:∃m,n=m+1:=⟨n-1,by omega⟩
 have hne:(((m+1:Nat):Int)==0)=false:=by simp;omega
 have w1:IntKind.i64.wrap (((m+1:Nat):Int)-1)=(m:Int):=by unfold IntKind.wrap;simp[IntKind.signed,IntKind.bits];omega
 have w1':IntKind.i64.wrap (m:Int)=(m:Int):=by unfold IntKind.wrap;simp[IntKind.signed,IntKind.bits];omega
 have hi:0≤(m:Int)∧(m:Int)<232:=by omega
 have hwm:=hw m (by omega)
 have w2:IntKind.i64.wrap (((m+1:Nat):Int)-2)=(m:Int)-1:=by unfold IntKind.wrap;simp[IntKind.signed,IntKind.bits];omega
 have hitm:=qBK (hf m (by omega))
 cases b
 case' false=>
  go_enter Tryz.func161,Tryz.ntmps161
  go_wp2
  have hB0:=Lib.fresh_isBuilder 247 5 w
  have hb0:=(Below.refl w.heap.size w).alloc (Nat.le_refl _) (.cells #[.pointer none,.slice none 0 0] 247)
  generalize w.alloc (.cells #[.pointer none,.slice none 0 0] 247)=W0 at *
  obtain⟨pre,hpre⟩:∃pre:List UInt8,pre=if false=true then [45] else []:=⟨_,rfl⟩
  replace hB0:BtB w.heap.size w.heap.size (Lib.byteCells pre) W0:=by subst hpre;exact hB0
 case' true=>
  go_enter Tryz.func161,Tryz.ntmps161
  go_wp2_with (go_at_call 200;refine(qFP w.heap.size w.heap.size [] 45 _ (Lib.fresh_isBuilder 247 5 w) (by simp) (by simp)).mono ?_)
  rintro e W0 ⟨rfl,hB0,hb0⟩
  replace hb0:=((Below.refl w.heap.size w).alloc (Nat.le_refl _) (.cells #[.pointer none,.slice none 0 0] 247)).trans hb0
  obtain⟨pre,hpre⟩:∃pre:List UInt8,pre=if true=true then [45] else []:=⟨_,rfl⟩
  replace hB0:BtB w.heap.size w.heap.size (Lib.byteCells pre) W0:=by subst hpre;exact hB0
  go_wp2
 all_goals
  have hp1:pre.length≤1:=by subst hpre;split<;>simp
  have hs0:=hb0.size
  have d1:=(qk2 hb0 hlt 1).trans h1
  have dm:=(qk2 hb0 hlt (2+m)).trans hwm
  go_region_with (first
   | (go_at_call 196;refine(qBq (f m) (by have:=hf m (by omega);omega) _ (qsz ht hb0.drew)).mono ?_;rintro e W1 ⟨rfl,b1⟩)
   | (go_at_call 201;refine(qDI w.heap.size w.heap.size _ _ _ (qyn (qGm hB0) b1) (qGh hp1 hitm) (Nat.le_trans hs0 b1.size)).mono ?_;rintro e W2 ⟨rfl,hB2,b2⟩))
  have b02:Below w.heap.size w W2:=(hb0.drew.trans (b1.mono hs0)).trans b2
  have e1:=(qk2 b02 hlt 1).trans h1
  replace hB2:BtB w.heap.size w.heap.size (Lib.byteCells (pre++Lib.itoa (f m))) W2:=by rw[Lib.byteCells_append];exact hB2
  go_wp2
  go_loopw [4] (fun vi wr=>∃(k:Nat) (acc:List UInt8),vi=.int .i64 ((k:Int)-1)∧k≤m∧BtB w.heap.size w.heap.size (Lib.byteCells acc) wr∧Below w.heap.size w wr∧acc++qo9 f k=pre++Lib.itoa (f m)++qo9 f m∧acc.length≤10+9*(m-k)) (fun vi _=>(intOf vi+1).toNat)
  case atStart=>exact⟨m,_,by congr 1<;>omega,Nat.le_refl _,hB2,b02,rfl,by simp;omega⟩
  case round=>
   obtain⟨k,acc,rfl,hkm,hI,hbw,hacc,hal⟩:=hrel
   have hbs:=hbw.size
   rcases Nat.eq_zero_or_pos k with rfl|hk0
   ·go_wp2_with (go_at_call 202;refine(qCr w.heap.size w.heap.size acc _ hI ?hne).mono ?_)
    case hne=>
     intro h0
     subst h0
     have:=congrArg List.length hacc
     have h9:=qGn (f m)
     simp[qo9] at this
     omega
    rintro e W3 ⟨rfl,b3⟩
    go_wp2
    go_ret
    refine⟨?_,hbw.trans b3⟩
    simp only[qo9,List.append_nil] at hacc
    rw[hacc,hpre]
    simp[qBf]
   ·obtain⟨q,rfl⟩:∃q,k=q+1:=⟨k-1,by omega⟩
    have x1:(((q+1:Nat):Int)-1)=(q:Int):=by omega
    have x2:(0:Int)≤(q:Int)∧(q:Int)<232:=by omega
    have x3:(q:Int).toNat=q:=Int.toNat_natCast q
    have dq:=(qk2 hbw hlt (2+q)).trans (hw q (by omega))
    have hq9:=qBK (hf q (by omega))
    rw[x1]
    go_wp2_with (go_at_call 196;refine(qBq (f q) (by have:=hf q (by omega);omega) _ (qsz ht hbw)).mono ?_)
    rintro e W3 ⟨rfl,b3⟩
    clear w1 w1' w2 hi hwm hne h1 hf hw ht
    have hl9:((⟨(Lib.itoa (f q)).toArray⟩:ByteArray).size:Int)≤9:=by simp[ByteArray.size];omega
    go_wp2_with (go_at_call 201;refine(qDI w.heap.size w.heap.size (Lib.byteCells acc) _ _ (qyn hI b3) ?hl (Nat.le_trans hbs b3.size)).mono ?_)
    case hl=>rw[qFf hq9,Lib.byteCells_length];have:=qBx hq9;simp[ByteArray.size];omega
    rintro e W4 ⟨rfl,hB4,b4⟩
    rw[qFf hq9,qEb,←Lib.byteCells_append] at hB4
    go_wp2
    go_roundw
    case rel=>
     refine⟨q,_,by congr 1<;>omega,by omega,hB4,(hbw.trans (b3.mono hbs)).trans b4,?_,?_⟩
     ·rw[←hacc];simp[qo9]
     ·have:=qBx hq9
      simp;omega
    case measure=>simp[intOf]
theorem qAZ(w:R):∀i,qmU w i=qo9 (fun i=>cI w i 0) i
 | 0=>rfl
 | i+1=>by unfold qmU qo9;rw[qAZ w i]
theorem qFQ(b:Bool)(n:Nat)(w:R):qD7 b (n:Int) w=qBf b n (fun i=>cI w i 0):=by
 unfold qD7 qBf
 by_cases h:n=0
 ·subst h;rfl
 ·rw[if_neg (by omega),if_neg h,qAZ]
  have e:((n:Int)-1)=((n-1:Nat):Int):=by omega
  rw[e,Int.toNat_natCast]
theorem qDs{ps:List PV}(h:ps.map PV.kind=[.b,.i,.r]):∃b n w,ps=[.b b,.i n,.r w]:=by
 match ps,h with
 | [.b b,.i n,.r w],_=>exact⟨b,n,w,rfl⟩
theorem qCH{gl:List (Nat×AV)}(hg:(6,AV.eptr (Lib.pow10Tab.map fun _=>.int .u64) qGO 0 0)∈gl) :
  qM Tryz.prog gl 161 (q9 { args:=[.ptr 0 0],h:=[.big [.bool,.int .i64] .i64 232] } [{ res:=.str,h:=[.big [.bool,.int .i64] .i64 232] }] qE7):=
 qjO (q3I Tryz.func161 (by kernel_rfl) (by kernel_rfl)) rfl fun B X ps j qs vargs hs hgl hh ha hk hT=>by
  obtain⟨b,n,r,rfl⟩:=qDs hk
  simp only[qE7] at hT
  split at hT
  ·rename_i hc
   cases hT
   unfold qvZ at hc
   simp only[Bool.and_eq_true,decide_eq_true_eq,List.all_eq_true,List.mem_range] at hc
   obtain⟨⟨c1,c2⟩,c3⟩:=hc
   obtain⟨m,rfl⟩:∃m:Nat,n=(m:Int):=⟨n.toNat,by omega⟩
   have hb0:X.h[0]?=some (.big [.bool b,.int .i64 (m:Int)] .i64 232 r):=by rw[hh];rfl
   obtain⟨n0,c,T,vs,hσ,hheap,hrep,hcl,hrl⟩:=hs.blk 0 _ hb0
   have hvs:vs=[.bool b,.int .i64 (m:Int)]:=by
    cases hrep with
    | cons h t=>cases h;rw[qAY t]
   subst hvs
   have hva:vargs=[.pointer (some ⟨n0,0,none⟩)]:=by
    cases ha with
    | cons h t=>
     cases t
     cases h with
     | ptr _ _ n1 hb hσ2=>
      have:n1=n0:=Option.some.inj (hσ2.symm.trans hσ)
      rw[this]
   subst hva
   have hlt:n0<X.w.heap.size:=(Array.getElem?_eq_some_iff.1 hheap).1
   have hcell:∀o,X.w.cell? ⟨n0,o,none⟩=c[o]?:=fun o=>by unfold World.cell?;simp only[hheap];rfl
   have g0:X.w.cell? ⟨n0,0,none⟩=some (.bool b):=by rw[hcell,←Array.getElem?_toList,hcl];rfl
   have g1:X.w.cell? ⟨n0,1,none⟩=some (.int .i64 (m:Int)):=by rw[hcell,←Array.getElem?_toList,hcl];rfl
   have gw:∀i,i<232→X.w.cell? ⟨n0,2+i,none⟩=some (.int .i64 (cI r (i:Int) 0)):=fun i hi=>by
    rw[hcell]
    exact qwp (vs:=[.bool b,.int .i64 (m:Int)]) hcl (by omega)
   refine⟨rfl,rfl,rfl,?_⟩
   have hT:=qtg (k:=.u64) (zs:=Lib.pow10Tab) (show Tryz.prog.globalNamed "internal/strconv.uint64pow10" = some 6 by kernel_rfl) (by decide) (hgl _ hg).2
   refine(qG0 n0 b m (fun i=>cI r (i:Int) 0) X.w hlt g0 g1 gw (by omega) (fun i hi=>c3 i (by omega)) hT).mono fun e w' ⟨k1,k2⟩=>⟨_,k1,k2,?_⟩
   rw[←qFQ]
   exact .str _
  ·cases hT
end Go.Eng

namespace Go.Eng
open Go.Proofs
noncomputable def q6k:List (TypeId×TI):=[(1,(.mk .func 1 [.nilFunc] 8 false false)),(2,(.mk (.int .i64) 1 [(.int .i64 0)] 8 false false)),(3,(.mk (.int .i64) 1 [(.int .i64 0)] 8 false false)),(4,(.mk .bool 1 [(.bool false)] 1 false false)),(5,(.mk (.int .u8) 1 [(.int .u8 0)] 1 false false)),(6,(.mk (.int .u8) 1 [(.int .u8 0)] 1 false false)),(8,(.mk (.struct [(0,(2,1)),(1,(3,1)),(2,(4,1)),(3,(6,1))]) 4 [(.int .i64 0),(.int .i64 0),(.bool false),(.int .u8 0)] 24 true true)),(9,(.mk .str 1 [(.string (.mk (.mk [])))] 16 false false)),(10,(.mk .str 1 [(.string (.mk (.mk [])))] 16 false false)),(11,(.mk .str 1 [(.string (.mk (.mk [])))] 16 false false)),(12,(.mk (.int .u64) 1 [(.int .u64 0)] 8 false false)),(13,(.mk (.struct [(0,(9,1)),(1,(12,1))]) 2 [(.string (.mk (.mk []))),(.int .u64 0)] 24 false true)),(14,(.mk (.struct [(0,(9,1)),(1,(12,1))]) 2 [(.string (.mk (.mk []))),(.int .u64 0)] 24 false true)),(16,(.mk (.ptr 326) 1 [(.pointer .none)] 8 false false)),(17,(.mk (.ptr 334) 1 [(.pointer .none)] 8 false false)),(18,(.mk (.struct [(0,(17,1))]) 1 [(.pointer .none)] 8 false true)),(22,(.mk (.slice 40 3) 1 [(.slice .none 0 0)] 24 false false)),(24,(.mk .func 1 [.nilFunc] 8 false false)),(25,(.mk (.slice 3 1) 1 [(.slice .none 0 0)] 24 false false)),(26,(.mk (.int .i64) 1 [(.int .i64 0)] 8 false false)),(30,(.mk .func 1 [.nilFunc] 8 false false)),(32,(.mk (.struct [(0,(3,1)),(1,(3,1)),(2,(3,1))]) 3 [(.int .i64 0),(.int .i64 0),(.int .i64 0)] 24 true true)),(33,(.mk (.struct [(0,(3,1)),(1,(3,1)),(2,(3,1))]) 3 [(.int .i64 0),(.int .i64 0),(.int .i64 0)] 24 true true)),(36,(.mk .str 1 [(.string (.mk (.mk [])))] 16 false false)),(38,(.mk (.struct [(0,(36,1)),(1,(36,1))]) 2 [(.string (.mk (.mk []))),(.string (.mk (.mk [])))] 32 true true)),(40,(.mk (.struct [(0,(38,2)),(2,(36,1))]) 3 [(.string (.mk (.mk []))),(.string (.mk (.mk []))),(.string (.mk (.mk [])))] 48 true true)),(47,(.mk .func 1 [.nilFunc] 8 false false)),(48,(.mk .func 1 [.nilFunc] 8 false false)),(49,(.mk .func 1 [.nilFunc] 8 false false)),(50,(.mk .func 1 [.nilFunc] 8 false false)),(51,(.mk .func 1 [.nilFunc] 8 false false)),(52,(.mk (.slice 97 7) 1 [(.slice .none 0 0)] 24 false false)),(53,(.mk (.slice 89 3) 1 [(.slice .none 0 0)] 24 false false)),(54,(.mk (.struct [(0,(52,1)),(1,(53,1)),(2,(3,1))]) 3 [(.slice .none 0 0),(.slice .none 0 0),(.int .i64 0)] 56 true true)),(55,(.mk (.struct [(0,(52,1)),(1,(53,1)),(2,(3,1))]) 3 [(.slice .none 0 0),(.slice .none 0 0),(.int .i64 0)] 56 true true)),(56,(.mk .func 1 [.nilFunc] 8 false false)),(61,(.mk (.struct [(0,(52,1)),(1,(53,1)),(2,(3,1))]) 3 [(.slice .none 0 0),(.slice .none 0 0),(.int .i64 0)] 56 true true)),(64,(.mk .func 1 [.nilFunc] 8 false false)),(74,(.mk (.struct [(0,(3,1)),(1,(3,1)),(2,(3,1))]) 3 [(.int .i64 0),(.int .i64 0),(.int .i64 0)] 24 true true)),(83,(.mk (.int .i8) 1 [(.int .i8 0)] 1 false false)),(84,(.mk (.array 2 83 1) 2 [(.int .i8 0),(.int .i8 0)] 2 false false)),(87,(.mk (.struct [(0,(3,1)),(1,(3,1))]) 2 [(.int .i64 0),(.int .i64 0)] 16 true true)),(89,(.mk (.struct [(0,(87,2)),(2,(3,1))]) 3 [(.int .i64 0),(.int .i64 0),(.int .i64 0)] 24 true true)),(95,(.mk (.struct [(0,(3,1)),(1,(3,1))]) 2 [(.int .i64 0),(.int .i64 0)] 16 true true)),(97,(.mk (.struct [(0,(87,2)),(2,(95,2)),(4,(3,1)),(5,(3,1)),(6,(4,1))]) 7 [(.int .i64 0),(.int .i64 0),(.int .i64 0),(.int .i64 0),(.int .i64 0),(.int .i64 0),(.bool false)] 56 true true)),(101,(.mk .func 1 [.nilFunc] 8 false false)),(104,(.mk (.ptr 106) 1 [(.pointer .none)] 8 false false)),(106,(.mk (.struct [(0,(26,1))]) 1 [(.int .i64 0)] 8 true true)),(109,(.mk .func 1 [.nilFunc] 8 false false)),(114,(.mk (.slice 117 1) 1 [(.slice .none 0 0)] 24 false false)),(117,(.mk .str 1 [(.string (.mk (.mk [])))] 16 false false)),(121,(.mk (.slice 36 1) 1 [(.slice .none 0 0)] 24 false false)),(128,(.mk .func 1 [.nilFunc] 8 false false)),(138,(.mk (.ptr 140) 1 [(.pointer .none)] 8 false false)),(140,(.mk (.struct [(0,(22,1)),(1,(26,1))]) 2 [(.slice .none 0 0),(.int .i64 0)] 32 true true)),(141,(.mk .func 1 [.nilFunc] 8 false false)),(149,(.mk .func 1 [.nilFunc] 8 false false)),(150,(.mk .func 1 [.nilFunc] 8 false false)),(162,(.mk (.slice 5 1) 1 [(.slice .none 0 0)] 24 false false)),(168,(.mk .func 1 [.nilFunc] 8 false false)),(172,(.mk (.struct [(0,(38,2)),(2,(38,2)),(4,(36,1))]) 5 [(.string (.mk (.mk []))),(.string (.mk (.mk []))),(.string (.mk (.mk []))),(.string (.mk (.mk []))),(.string (.mk (.mk [])))] 80 true true)),(190,(.mk (.struct [(0,(97,7)),(7,(3,1))]) 8 [(.int .i64 0),(.int .i64 0),(.int .i64 0),(.int .i64 0),(.int .i64 0),(.int .i64 0),(.bool false),(.int .i64 0)] 64 true true)),(193,(.mk .func 1 [.nilFunc] 8 false false)),(205,(.mk (.ptr 210) 1 [(.pointer .none)] 8 false false)),(208,(.mk (.array 232 3 1) 232 [(.int .i64 0),(.int .i64 0),(.int .i64 0),(.int .i64 0),(.int .i64 0),(.int .i64 0),(.int .i64 0),(.int .i64 0),(.int .i64 0),(.int .i64 0),(.int .i64 0),(.int .i64 0),(.int .i64 0),(.int .i64 0),(.int .i64 0),(.int .i64 0),(.int .i64 0),(.int .i64 0),(.int .i64 0),(.int .i64 0),(.int .i64 0),(.int .i64 0),(.int .i64 0),(.int .i64 0),(.int .i64 0),(.int .i64 0),(.int .i64 0),(.int .i64 0),(.int .i64 0),(.int .i64 0),(.int .i64 0),(.int .i64 0),(.int .i64 0),(.int .i64 0),(.int .i64 0),(.int .i64 0),(.int .i64 0),(.int .i64 0),(.int .i64 0),(.int .i64 0),(.int .i64 0),(.int .i64 0),(.int .i64 0),(.int .i64 0),(.int .i64 0),(.int .i64 0),(.int .i64 0),(.int .i64 0),(.int .i64 0),(.int .i64 0),(.int .i64 0),(.int .i64 0),(.int .i64 0),(.int .i64 0),(.int .i64 0),(.int .i64 0),(.int .i64 0),(.int .i64 0),(.int .i64 0),(.int .i64 0),(.int .i64 0),(.int .i64 0),(.int .i64 0),(.int .i64 0),(.int .i64 0),(.int .i64 0),(.int .i64 0),(.int .i64 0),(.int .i64 0),(.int .i64 0),(.int .i64 0),(.int .i64 0),(.int .i64 0),(.int .i64 0),(.int .i64 0),(.int .i64 0),(.int .i64 0),(.int .i64 0),(.int .i64 0),(.int .i64 0),(.int .i64 0),(.int .i64 0),(.int .i64 0),(.int .i64 0),(.int .i64 0),(.int .i64 0),(.int .i64 0),(.int .i64 0),(.int .i64 0),(.int .i64 0),(.int .i64 0),(.int .i64 0),(.int .i64 0),(.int .i64 0),(.int .i64 0),(.int .i64 0),(.int .i64 0),(.int .i64 0),(.int .i64 0),(.int .i64 0),(.int .i64 0),(.int .i64 0),(.int .i64 0),(.int .i64 0),(.int .i64 0),(.int .i64 0),(.int .i64 0),(.int .i64 0),(.int .i64 0),(.int .i64 0),(.int .i64 0),(.int .i64 0),(.int .i64 0),(.int .i64 0),(.int .i64 0),(.int .i64 0),(.int .i64 0),(.int .i64 0),(.int .i64 0),(.int .i64 0),(.int .i64 0),(.int .i64 0),(.int .i64 0),(.int .i64 0),(.int .i64 0),(.int .i64 0),(.int .i64 0),(.int .i64 0),(.int .i64 0),(.int .i64 0),(.int .i64 0),(.int .i64 0),(.int .i64 0),(.int .i64 0),(.int .i64 0),(.int .i64 0),(.int .i64 0),(.int .i64 0),(.int .i64 0),(.int .i64 0),(.int .i64 0),(.int .i64 0),(.int .i64 0),(.int .i64 0),(.int .i64 0),(.int .i64 0),(.int .i64 0),(.int .i64 0),(.int .i64 0),(.int .i64 0),(.int .i64 0),(.int .i64 0),(.int .i64 0),(.int .i64 0),(.int .i64 0),(.int .i64 0),(.int .i64 0),(.int .i64 0),(.int .i64 0),(.int .i64 0),(.int .i64 0),(.int .i64 0),(.int .i64 0),(.int .i64 0),(.int .i64 0),(.int .i64 0),(.int .i64 0),(.int .i64 0),(.int .i64 0),(.int .i64 0),(.int .i64 0),(.int .i64 0),(.int .i64 0),(.int .i64 0),(.int .i64 0),(.int .i64 0),(.int .i64 0),(.int .i64 0),(.int .i64 0),(.int .i64 0),(.int .i64 0),(.int .i64 0),(.int .i64 0),(.int .i64 0),(.int .i64 0),(.int .i64 0),(.int .i64 0),(.int .i64 0),(.int .i64 0),(.int .i64 0),(.int .i64 0),(.int .i64 0),(.int .i64 0),(.int .i64 0),(.int .i64 0),(.int .i64 0),(.int .i64 0),(.int .i64 0),(.int .i64 0),(.int .i64 0),(.int .i64 0),(.int .i64 0),(.int .i64 0),(.int .i64 0),(.int .i64 0),(.int .i64 0),(.int .i64 0),(.int .i64 0),(.int .i64 0),(.int .i64 0),(.int .i64 0),(.int .i64 0),(.int .i64 0),(.int .i64 0),(.int .i64 0),(.int .i64 0),(.int .i64 0),(.int .i64 0),(.int .i64 0),(.int .i64 0),(.int .i64 0),(.int .i64 0),(.int .i64 0),(.int .i64 0),(.int .i64 0),(.int .i64 0),(.int .i64 0),(.int .i64 0),(.int .i64 0),(.int .i64 0),(.int .i64 0),(.int .i64 0)] 1856 false false)),(210,(.mk (.struct [(0,(4,1)),(1,(3,1)),(2,(208,232))]) 234 [(.bool false),(.int .i64 0),(.int .i64 0),(.int .i64 0),(.int .i64 0),(.int .i64 0),(.int .i64 0),(.int .i64 0),(.int .i64 0),(.int .i64 0),(.int .i64 0),(.int .i64 0),(.int .i64 0),(.int .i64 0),(.int .i64 0),(.int .i64 0),(.int .i64 0),(.int .i64 0),(.int .i64 0),(.int .i64 0),(.int .i64 0),(.int .i64 0),(.int .i64 0),(.int .i64 0),(.int .i64 0),(.int .i64 0),(.int .i64 0),(.int .i64 0),(.int .i64 0),(.int .i64 0),(.int .i64 0),(.int .i64 0),(.int .i64 0),(.int .i64 0),(.int .i64 0),(.int .i64 0),(.int .i64 0),(.int .i64 0),(.int .i64 0),(.int .i64 0),(.int .i64 0),(.int .i64 0),(.int .i64 0),(.int .i64 0),(.int .i64 0),(.int .i64 0),(.int .i64 0),(.int .i64 0),(.int .i64 0),(.int .i64 0),(.int .i64 0),(.int .i64 0),(.int .i64 0),(.int .i64 0),(.int .i64 0),(.int .i64 0),(.int .i64 0),(.int .i64 0),(.int .i64 0),(.int .i64 0),(.int .i64 0),(.int .i64 0),(.int .i64 0),(.int .i64 0),(.int .i64 0),(.int .i64 0),(.int .i64 0),(.int .i64 0),(.int .i64 0),(.int .i64 0),(.int .i64 0),(.int .i64 0),(.int .i64 0),(.int .i64 0),(.int .i64 0),(.int .i64 0),(.int .i64 0),(.int .i64 0),(.int .i64 0),(.int .i64 0),(.int .i64 0),(.int .i64 0),(.int .i64 0),(.int .i64 0),(.int .i64 0),(.int .i64 0),(.int .i64 0),(.int .i64 0),(.int .i64 0),(.int .i64 0),(.int .i64 0),(.int .i64 0),(.int .i64 0),(.int .i64 0),(.int .i64 0),(.int .i64 0),(.int .i64 0),(.int .i64 0),(.int .i64 0),(.int .i64 0),(.int .i64 0),(.int .i64 0),(.int .i64 0),(.int .i64 0),(.int .i64 0),(.int .i64 0),(.int .i64 0),(.int .i64 0),(.int .i64 0),(.int .i64 0),(.int .i64 0),(.int .i64 0),(.int .i64 0),(.int .i64 0),(.int .i64 0),(.int .i64 0),(.int .i64 0),(.int .i64 0),(.int .i64 0),(.int .i64 0),(.int .i64 0),(.int .i64 0),(.int .i64 0),(.int .i64 0),(.int .i64 0),(.int .i64 0),(.int .i64 0),(.int .i64 0),(.int .i64 0),(.int .i64 0),(.int .i64 0),(.int .i64 0),(.int .i64 0),(.int .i64 0),(.int .i64 0),(.int .i64 0),(.int .i64 0),(.int .i64 0),(.int .i64 0),(.int .i64 0),(.int .i64 0),(.int .i64 0),(.int .i64 0),(.int .i64 0),(.int .i64 0),(.int .i64 0),(.int .i64 0),(.int .i64 0),(.int .i64 0),(.int .i64 0),(.int .i64 0),(.int .i64 0),(.int .i64 0),(.int .i64 0),(.int .i64 0),(.int .i64 0),(.int .i64 0),(.int .i64 0),(.int .i64 0),(.int .i64 0),(.int .i64 0),(.int .i64 0),(.int .i64 0),(.int .i64 0),(.int .i64 0),(.int .i64 0),(.int .i64 0),(.int .i64 0),(.int .i64 0),(.int .i64 0),(.int .i64 0),(.int .i64 0),(.int .i64 0),(.int .i64 0),(.int .i64 0),(.int .i64 0),(.int .i64 0),(.int .i64 0),(.int .i64 0),(.int .i64 0),(.int .i64 0),(.int .i64 0),(.int .i64 0),(.int .i64 0),(.int .i64 0),(.int .i64 0),(.int .i64 0),(.int .i64 0),(.int .i64 0),(.int .i64 0),(.int .i64 0),(.int .i64 0),(.int .i64 0),(.int .i64 0),(.int .i64 0),(.int .i64 0),(.int .i64 0),(.int .i64 0),(.int .i64 0),(.int .i64 0),(.int .i64 0),(.int .i64 0),(.int .i64 0),(.int .i64 0),(.int .i64 0),(.int .i64 0),(.int .i64 0),(.int .i64 0),(.int .i64 0),(.int .i64 0),(.int .i64 0),(.int .i64 0),(.int .i64 0),(.int .i64 0),(.int .i64 0),(.int .i64 0),(.int .i64 0),(.int .i64 0),(.int .i64 0),(.int .i64 0),(.int .i64 0),(.int .i64 0),(.int .i64 0),(.int .i64 0),(.int .i64 0),(.int .i64 0),(.int .i64 0),(.int .i64 0),(.int .i64 0),(.int .i64 0),(.int .i64 0),(.int .i64 0),(.int .i64 0),(.int .i64 0)] 1872 true true)),(216,(.mk .func 1 [.nilFunc] 8 false false)),(223,(.mk (.struct [(0,(38,2)),(2,(38,2)),(4,(36,1))]) 5 [(.string (.mk (.mk []))),(.string (.mk (.mk []))),(.string (.mk (.mk []))),(.string (.mk (.mk []))),(.string (.mk (.mk [])))] 80 true true)),(227,(.mk (.array 3 3 1) 3 [(.int .i64 0),(.int .i64 0),(.int .i64 0)] 24 false false)),(228,(.mk (.array 2 227 3) 6 [(.int .i64 0),(.int .i64 0),(.int .i64 0),(.int .i64 0),(.int .i64 0),(.int .i64 0)] 48 false false)),(252,(.mk (.ptr 267) 1 [(.pointer .none)] 8 false false)),(264,(.mk .func 1 [.nilFunc] 8 false false)),(265,(.mk (.ptr 5) 1 [(.pointer .none)] 8 false false)),(267,(.mk (.struct [(0,(26,1))]) 1 [(.int .i64 0)] 8 true true)),(269,(.mk .func 1 [.nilFunc] 8 false false)),(270,(.mk .func 1 [.nilFunc] 8 false false)),(288,(.mk (.int .u32) 1 [(.int .u32 0)] 4 false false)),(296,(.mk (.int .u64) 1 [(.int .u64 0)] 8 false false)),(316,(.mk (.array 20 296 1) 20 [(.int .u64 0),(.int .u64 0),(.int .u64 0),(.int .u64 0),(.int .u64 0),(.int .u64 0),(.int .u64 0),(.int .u64 0),(.int .u64 0),(.int .u64 0),(.int .u64 0),(.int .u64 0),(.int .u64 0),(.int .u64 0),(.int .u64 0),(.int .u64 0),(.int .u64 0),(.int .u64 0),(.int .u64 0),(.int .u64 0)] 160 false false)),(324,(.mk (.array 0 16 1) 0 [] 0 false false)),(326,(.mk (.struct [(0,(324,0))]) 0 [] 0 false true)),(328,(.mk (.int .u8) 1 [(.int .u8 0)] 1 false false)),(329,(.mk (.int .u8) 1 [(.int .u8 0)] 1 false false)),(330,(.mk .func 1 [.nilFunc] 8 false false)),(331,(.mk (.int .i32) 1 [(.int .i32 0)] 4 false false)),(332,(.mk (.int .i32) 1 [(.int .i32 0)] 4 false false)),(334,(.mk (.struct [(0,(12,1)),(1,(12,1)),(2,(288,1)),(3,(328,1)),(4,(5,1)),(5,(5,1)),(6,(329,1)),(7,(330,1)),(8,(265,1)),(9,(331,1)),(10,(332,1))]) 11 [(.int .u64 0),(.int .u64 0),(.int .u32 0),(.int .u8 0),(.int .u8 0),(.int .u8 0),(.int .u8 0),.nilFunc,(.pointer .none),(.int .i32 0),(.int .i32 0)] 48 false true))]
noncomputable def qa:List (Nat×AV):=[(6,(.eptr [.int .u64,.int .u64,.int .u64,.int .u64,.int .u64,.int .u64,.int .u64,.int .u64,.int .u64,.int .u64,.int .u64,.int .u64,.int .u64,.int .u64,.int .u64,.int .u64,.int .u64,.int .u64,.int .u64,.int .u64] [[.i 1,.i 10,.i 100,.i 1000,.i 10000,.i 100000,.i 1000000,.i 10000000,.i 100000000,.i 1000000000,.i 10000000000,.i 100000000000,.i 1000000000000,.i 10000000000000,.i 100000000000000,.i 1000000000000000,.i 10000000000000000,.i 100000000000000000,.i 1000000000000000000,.i 10000000000000000000]] 0 0)),(0,(.eptr [.int .i64,.int .i64,.int .i64,.int .i64,.int .i64,.int .i64] [[.i (-1),.i (-1),.i 1,.i 1,.i 1,.i (-1)]] 0 0))]
theorem q8:q6k.map (fun x=>qxx Tryz.prog x.1)=q6k.map (·.2):=by kernel_rfl
theorem qc:Tryz.prog.follows .mixedOrders=true:=by kernel_rfl
noncomputable def qe(s:List (FuncId×(List AV→List Blk→Tree (AV×List Blk))))(b:List (FuncId×Func))(l:List ((FuncId×Nat)×(St→Tree (Ex×St))))(n:Nat):Env:=⟨q6k,qa,s,b,l,n,[]⟩
def q2W:FIn:=⟨[.str,.str],[]⟩
def q38:List FOut:=[⟨(.int .i64),[],none⟩]
noncomputable def vU:List PV→TR:=qyu
theorem q8A:qM Tryz.prog qa 217 (q9 q2W q38 vU):=qAQ Tryz.lays219 (q3I Tryz.func217 (by kernel_rfl) (by kernel_rfl))
def kt:FIn:=⟨[.str,.str],[]⟩
def ku:List FOut:=[⟨(.tuple [.str,.str,.bool]),[],none⟩]
noncomputable def q4L:=qe [(217,q9 q2W q38 vU)] [(184,Tryz.f184)] [] 0
noncomputable def wL:=qm q4L 184 Tryz.f184 true kt ku
theorem qa0:qM Tryz.prog qa 184 (q9 kt ku wL):=sk q4L qc q8 (alc q8A aln) aln (b1 Tryz.func184) Tryz.func184
def qgS:FIn:=⟨[.str,.str],[]⟩
def qgb:List FOut:=[⟨(.tuple [.str,.str,.bool]),[],none⟩]
noncomputable def qmF:=qe [(184,q9 kt ku wL)] [(152,Tryz.f152)] [] 0
noncomputable def q6R:=qm qmF 152 Tryz.f152 true qgS qgb
theorem qqt:qM Tryz.prog qa 152 (q9 qgS qgb q6R):=sk qmF qc q8 (alc qa0 aln) aln (b1 Tryz.func152) Tryz.func152
def q3P:FIn:=⟨[.str],[]⟩
def q3w:List FOut:=[⟨(.tuple [.str,.str,.bool]),[],none⟩]
noncomputable def qsv:=qe [(152,q9 qgS qgb q6R)] [(112,Tryz.f112)] [] 0
noncomputable def qT:=qm qsv 112 Tryz.f112 true q3P q3w
theorem q2v:qM Tryz.prog qa 112 (q9 q3P q3w qT):=sk qsv qc q8 (alc qqt aln) aln (b1 Tryz.func112) Tryz.func112
def wd:FIn:=⟨[.str,.str],[]⟩
def w9:List FOut:=[⟨.bool,[],none⟩]
noncomputable def q0H:=qe [] [(218,Tryz.f218)] [] 0
noncomputable def qI:=qm q0H 218 Tryz.f218 true wd w9
theorem kh:qM Tryz.prog qa 218 (q9 wd w9 qI):=sk q0H qc q8 aln aln (b1 Tryz.func218) Tryz.func218
def j3:FIn:=⟨[.str,.str],[]⟩
def vY:List FOut:=[⟨.str,[],none⟩]
noncomputable def q00:=qe [(218,q9 wd w9 qI)] [(185,Tryz.f185)] [] 0
noncomputable def zf:=qm q00 185 Tryz.f185 true j3 vY
theorem q5h:qM Tryz.prog qa 185 (q9 j3 vY zf):=sk q00 qc q8 (alc kh aln) aln (b1 Tryz.func185) Tryz.func185
def jb:FIn:=⟨[.str,.str],[]⟩
def ja:List FOut:=[⟨.str,[],none⟩]
noncomputable def qaM:=qe [(185,q9 j3 vY zf)] [(153,Tryz.f153)] [] 0
noncomputable def qV:=qm qaM 153 Tryz.f153 true jb ja
theorem ud:qM Tryz.prog qa 153 (q9 jb ja qV):=sk qaM qc q8 (alc q5h aln) aln (b1 Tryz.func153) Tryz.func153
def qlj:FIn:=⟨[.str,.str],[]⟩
def qkV:List FOut:=[⟨.str,[],none⟩]
noncomputable def q8S:List PV→TR:=qF2
theorem qoz:qM Tryz.prog qa 154 (q9 qlj qkV q8S):=qCW Tryz.lays160 (q3I Tryz.func154 (by kernel_rfl) (by kernel_rfl)) (by kernel_rfl)
def jP:FIn:=⟨[.str],[]⟩
def jI:List FOut:=[⟨(.int .i64),[],none⟩]
noncomputable def qop:=qe [(153,q9 jb ja qV),(154,q9 qlj qkV q8S)] [(113,Tryz.f113)] [] 0
noncomputable def qQ:=qm qop 113 Tryz.f113 true jP jI
theorem ji:qM Tryz.prog qa 113 (q9 jP jI qQ):=sk qop qc q8 (alc ud (alc qoz aln)) aln (b1 Tryz.func113) Tryz.func113
def q0e:FIn:=⟨[(.imm [.str])],[]⟩
def q0t:List FOut:=[⟨(.int .i64),[],none⟩]
def qh5:Tmpl:={ t:=(qz 6 ((.imm [.str])::(.int .i64)::(.int .i64)::qz 9 [])),h:=[] }
def qh1:List Out:=[⟨(.exit 0),{ t:=(qz 18 []),h:=[] }⟩,⟨.ret,{ t:=(.any::.any::(.int .i64)::qz 15 []),h:=[] }⟩]
noncomputable def qbn:=qe [(113,q9 jP jI qQ)] [(155,Tryz.f155)] [] 0
noncomputable def q6N:=wk qbn 155 Tryz.f155 3 qh5 qh1
theorem qqB:ql Tryz.prog qa qbn.nimp (qy Tryz.prog qbn.iter 155) (z6 Tryz.f155 3) (qj qh5 qh1 (qf q6N)):=
 gk qbn qc q8 (alc ji aln) aln (b1 Tryz.func155) Tryz.func155
noncomputable def qrn:=qe [(113,q9 jP jI qQ)] [(155,Tryz.f155)] [((155,3),qj qh5 qh1 (qf q6N))] 0
noncomputable def zX:=qm qrn 155 Tryz.f155 true q0e q0t
theorem uq:qM Tryz.prog qa 155 (q9 q0e q0t zX):=sk qrn qc q8 (alc ji aln) (alc (lk Tryz.func155 qqB) aln) (b1 Tryz.func155) Tryz.func155
def q9m:FIn:=⟨[.str],[]⟩
def q9r:List FOut:=[⟨(.int .i64),[],none⟩]
noncomputable def qq2:=qe [] [(156,Tryz.f156)] [] 0
noncomputable def uz:=qm qq2 156 Tryz.f156 true q9m q9r
theorem qd7:qM Tryz.prog qa 156 (q9 q9m q9r uz):=sk qq2 qc q8 aln aln (b1 Tryz.func156) Tryz.func156
def qff:FIn:=⟨[.str,.str],[]⟩
def qf9:List FOut:=[⟨(.int .i64),[],none⟩]
noncomputable def q4r:List PV→TR:=qrd
theorem qkf:qM Tryz.prog qa 193 (q9 qff qf9 q4r):=qwq Tryz.lays106 (q3I Tryz.func193 (by kernel_rfl) (by kernel_rfl))
def qg0:FIn:=⟨[.str,.str],[]⟩
def qgQ:List FOut:=[⟨(.int .i64),[],none⟩]
noncomputable def qo1:=qe [(193,q9 qff qf9 q4r)] [(157,Tryz.f157)] [] 0
noncomputable def q7V:=qm qo1 157 Tryz.f157 true qg0 qgQ
theorem qqC:qM Tryz.prog qa 157 (q9 qg0 qgQ q7V):=sk qo1 qc q8 (alc qkf aln) aln (b1 Tryz.func157) Tryz.func157
def qcB:FIn:=⟨[.str,.str],[]⟩
def qbN:List FOut:=[⟨(.tuple [(.int .i64),(.int .i64)]),[],none⟩]
noncomputable def qiA:=qe [(153,q9 jb ja qV),(155,q9 q0e q0t zX),(156,q9 q9m q9r uz),(157,q9 qg0 qgQ q7V)] [(114,Tryz.f114)] [] 0
noncomputable def q3r:=qm qiA 114 Tryz.f114 true qcB qbN
theorem qmM:qM Tryz.prog qa 114 (q9 qcB qbN q3r):=sk qiA qc q8 (alc ud (alc uq (alc qd7 (alc qqC aln)))) aln (b1 Tryz.func114) Tryz.func114
def q9e:FIn:=⟨[.str],[]⟩
def q9c:List FOut:=[⟨(.tuple [(.int .i64),.any]),[],none⟩]
noncomputable def vX:List PV→TR:=qEO
theorem q8r:qM Tryz.prog qa 194 (q9 q9e q9c vX):=qBX Tryz.lays172 (q3I Tryz.func194 (by kernel_rfl) (by kernel_rfl))
def zp:FIn:=⟨[(.ptr 0 0)],[.big [.bool,(.int .i64)] .i64 232]⟩
def zo:List FOut:=[⟨(.ptr 0 0),[.big [.bool,(.int .i64)] .i64 232],none⟩]
def q2M:Tmpl:={ t:=((.ptr 0 0)::qz 28 []),h:=[.big [.bool,(.int .i64)] .i64 232] }
def q2J:List Out:=[⟨(.exit 0),{ t:=((.ptr 0 0)::qz 28 []),h:=[.big [.bool,(.int .i64)] .i64 232] }⟩]
noncomputable def kp:=qe [] [(195,Tryz.f195)] [] 1
noncomputable def jn:=wk kp 195 Tryz.f195 2 q2M q2J
theorem qeG:ql Tryz.prog qa kp.nimp (qy Tryz.prog kp.iter 195) (z6 Tryz.f195 2) (qj q2M q2J (qf jn)):=
 gk kp qc q8 aln aln (b1 Tryz.func195) Tryz.func195
noncomputable def qaL:=qe [] [(195,Tryz.f195)] [((195,2),qj q2M q2J (qf jn))] 1
noncomputable def qC:=qm qaL 195 Tryz.f195 false zp zo
theorem zC:qM Tryz.prog qa 195 (q9 zp zo qC):=qp1 (E:=qaL) qc ⟨yj q8,aln,(alc (lk Tryz.func195 qeG) aln),(b1 Tryz.func195)⟩ Tryz.func195 (by kernel_rfl) (by kernel_rfl) (fun _=>rfl)
def q02:FIn:=⟨[.str],[]⟩
def kY:List FOut:=[⟨(.ptr 0 0),[.big [.bool,(.int .i64)] .i64 232],none⟩]
def qeV:Tmpl:={ t:=(.any::.any::.any::.str::(.ptr 0 0)::qz 43 []),h:=[.big [.bool,(.int .i64)] .i64 232] }
def qeP:List Out:=[⟨(.exit 0),{ t:=(qz 4 ((.ptr 0 0)::qz 43 [])),h:=[.big [.bool,(.int .i64)] .i64 232] }⟩]
noncomputable def q8V:=qe [(153,q9 jb ja qV),(194,q9 q9e q9c vX),(195,q9 zp zo qC)] [(158,Tryz.f158)] [] 0
noncomputable def q5l:=wk q8V 158 Tryz.f158 5 qeV qeP
theorem qpc:ql Tryz.prog qa q8V.nimp (qy Tryz.prog q8V.iter 158) (z6 Tryz.f158 5) (qj qeV qeP (qf q5l)):=
 gk q8V qc q8 (alc ud (alc q8r (alc zC aln))) aln (b1 Tryz.func158) Tryz.func158
noncomputable def qpV:=qe [(153,q9 jb ja qV),(194,q9 q9e q9c vX),(195,q9 zp zo qC)] [(158,Tryz.f158)] [((158,5),qj qeV qeP (qf q5l))] 0
noncomputable def zz:=qm qpV 158 Tryz.f158 false q02 kY
theorem ki:qM Tryz.prog qa 158 (q9 q02 kY zz):=qp1 (E:=qpV) qc ⟨yj q8,(alc ud (alc q8r (alc zC aln))),(alc (lk Tryz.func158 qpc) aln),(b1 Tryz.func158)⟩ Tryz.func158 (by kernel_rfl) (by kernel_rfl) (fun _=>rfl)
def qkr:FIn:=⟨[(.int .i64)],[]⟩
def qkJ:List FOut:=[⟨.str,[],none⟩]
noncomputable def q59:List PV→TR:=qE9
theorem qpF:qM Tryz.prog qa 196 (q9 qkr qkJ q59):=qCP Tryz.laysM171 (q3I Tryz.func196 (by kernel_rfl) (by kernel_rfl)) (by kernel_rfl) (by unfold qa;exact List.mem_cons_self)
def q3Z:FIn:=⟨[(.int .i64)],[]⟩
def q4b:List FOut:=[⟨.str,[],none⟩]
noncomputable def qv7:=qe [(196,q9 qkr qkJ q59)] [(159,Tryz.f159)] [] 0
noncomputable def zt:=qm qv7 159 Tryz.f159 true q3Z q4b
theorem q1Y:qM Tryz.prog qa 159 (q9 q3Z q4b zt):=sk qv7 qc q8 (alc qpF aln) aln (b1 Tryz.func159) Tryz.func159
def jp:FIn:=⟨[(.ptr 0 0),(.ptr 1 0)],[.big [.bool,(.int .i64)] .i64 232,.big [.bool,(.int .i64)] .i64 232]⟩
def jt:List FOut:=[⟨(.int .i64),[.big [.bool,(.int .i64)] .i64 232,.big [.bool,(.int .i64)] .i64 232],none⟩]
def q3g:Tmpl:={ t:=((.ptr 0 0)::(.ptr 1 0)::.any::.any::.any::(.int .i64)::qz 53 []),h:=[.big [.bool,(.int .i64)] .i64 232,.big [.bool,(.int .i64)] .i64 232] }
def q3B:List Out:=[⟨(.exit 0),{ t:=(qz 59 []),h:=[.big [.bool,(.int .i64)] .i64 232,.big [.bool,(.int .i64)] .i64 232] }⟩,⟨.ret,{ t:=(qz 4 ((.int .i64)::qz 54 [])),h:=[.big [.bool,(.int .i64)] .i64 232,.big [.bool,(.int .i64)] .i64 232] }⟩]
noncomputable def kS:=qe [] [(197,Tryz.f197)] [] 2
noncomputable def jU:=wk kS 197 Tryz.f197 6 q3g q3B
theorem qfw:ql Tryz.prog qa kS.nimp (qy Tryz.prog kS.iter 197) (z6 Tryz.f197 6) (qj q3g q3B (qf jU)):=
 gk kS qc q8 aln aln (b1 Tryz.func197) Tryz.func197
noncomputable def qbZ:=qe [] [(197,Tryz.f197)] [((197,6),qj q3g q3B (qf jU))] 2
noncomputable def zA:=qm qbZ 197 Tryz.f197 true jp jt
theorem kj:qM Tryz.prog qa 197 (q9 jp jt zA):=sk qbZ qc q8 aln (alc (lk Tryz.func197 qfw) aln) (b1 Tryz.func197) Tryz.func197
def q2g:FIn:=⟨[(.ptr 0 0),(.ptr 1 0)],[.big [.bool,(.int .i64)] .i64 232,.big [.bool,(.int .i64)] .i64 232]⟩
def q27:List FOut:=[⟨(.int .i64),[.big [.bool,(.int .i64)] .i64 232,.big [.bool,(.int .i64)] .i64 232],none⟩]
noncomputable def qhW:=qe [] [(198,Tryz.f198),(227,Tryz.f227)] [] 2
noncomputable def yS:=qm qhW 198 Tryz.f198 true q2g q27
theorem q6f:qM Tryz.prog qa 198 (q9 q2g q27 yS):=sk qhW qc q8 aln aln (alc (bk Tryz.func198) (alc (bk Tryz.func227) aln)) Tryz.func198
def wT:FIn:=⟨[(.ptr 0 0),(.ptr 1 0),(.int .i64),(.int .i64)],[.big [.bool,(.int .i64)] .i64 232,.big [.bool,(.int .i64)] .i64 232]⟩
def wP:List FOut:=[⟨(.tuple []),[.big [.bool,(.int .i64)] .i64 232,.big [.bool,(.int .i64)] .i64 232],none⟩]
def q4R:Tmpl:={ t:=((.ptr 0 0)::(.ptr 1 0)::(.int .i64)::(.int .i64)::qz 4 ((.int .i64)::(.int .i64)::qz 73 [])),h:=[.big [.bool,(.int .i64)] .i64 232,.big [.bool,(.int .i64)] .i64 232] }
def q4N:List Out:=[⟨(.exit 0),{ t:=((.ptr 0 0)::qz 82 []),h:=[.big [.bool,(.int .i64)] .i64 232,.big [.bool,(.int .i64)] .i64 232] }⟩]
noncomputable def q0K:=qe [(195,q9 zp zo qC)] [(199,Tryz.f199)] [] 2
noncomputable def j9:=wk q0K 199 Tryz.f199 3 q4R q4N
theorem qgC:ql Tryz.prog qa q0K.nimp (qy Tryz.prog q0K.iter 199) (z6 Tryz.f199 3) (qj q4R q4N (qf j9)):=
 gk q0K qc q8 (alc zC aln) aln (b1 Tryz.func199) Tryz.func199
noncomputable def qdk:=qe [(195,q9 zp zo qC)] [(199,Tryz.f199)] [((199,3),qj q4R q4N (qf j9))] 2
noncomputable def qK:=qm qdk 199 Tryz.f199 true wT wP
theorem vT:qM Tryz.prog qa 199 (q9 wT wP qK):=sk qdk qc q8 (alc zC aln) (alc (lk Tryz.func199 qgC) aln) (b1 Tryz.func199) Tryz.func199
def q1y:FIn:=⟨[(.ptr 0 0),(.ptr 1 0)],[.big [.bool,(.int .i64)] .i64 232,.big [.bool,(.int .i64)] .i64 232]⟩
def q1r:List FOut:=[⟨(.tuple [(.ptr 2 0),(.ptr 3 0)]),[.big [.bool,(.int .i64)] .i64 232,.big [.bool,(.int .i64)] .i64 232,.big [.bool,(.int .i64)] .i64 232,.big [.bool,(.int .i64)] .i64 232],none⟩]
def q7k:Tmpl:={ t:=((.ptr 0 0)::(.ptr 1 0)::qz 4 ((.ptr 2 0)::(.ptr 3 0)::(.int .i64)::(.int .i64)::qz 80 [])),h:=[.big [.bool,(.int .i64)] .i64 232,.big [.bool,(.int .i64)] .i64 232,.big [.bool,(.int .i64)] .i64 232,.big [.bool,(.int .i64)] .i64 232] }
def q80:List Out:=[⟨(.exit 2),{ t:=((.ptr 0 0)::(.ptr 1 0)::qz 4 ((.ptr 2 0)::(.ptr 3 0)::(.int .i64)::(.int .i64)::qz 80 [])),h:=[.big [.bool,(.int .i64)] .i64 232,.big [.bool,(.int .i64)] .i64 232,.big [.bool,(.int .i64)] .i64 232,.big [.bool,(.int .i64)] .i64 232] }⟩]
noncomputable def q36:=qe [(195,q9 zp zo qC),(197,q9 jp jt zA),(198,q9 q2g q27 yS),(199,q9 wT wP qK)] [(160,Tryz.f160)] [] 2
noncomputable def yw:=wk q36 160 Tryz.f160 14 q7k q80
theorem qjv:ql Tryz.prog qa q36.nimp (qy Tryz.prog q36.iter 160) (z6 Tryz.f160 14) (qj q7k q80 (qf yw)):=
 gk q36 qc q8 (alc zC (alc kj (alc q6f (alc vT aln)))) aln (b1 Tryz.func160) Tryz.func160
def q8D:Tmpl:={ t:=((.ptr 0 0)::(.ptr 1 0)::qz 4 ((.ptr 2 0)::(.ptr 3 0)::(.int .i64)::qz 81 [])),h:=[.big [.bool,(.int .i64)] .i64 232,.big [.bool,(.int .i64)] .i64 232,.big [.bool,(.int .i64)] .i64 232,.big [.bool,(.int .i64)] .i64 232] }
def q8g:List Out:=[⟨(.exit 0),{ t:=(qz 6 ((.ptr 2 0)::(.ptr 3 0)::qz 82 [])),h:=[.big [.bool,(.int .i64)] .i64 232,.big [.bool,(.int .i64)] .i64 232,.big [.bool,(.int .i64)] .i64 232,.big [.bool,(.int .i64)] .i64 232] }⟩]
noncomputable def q4u:=qe [(195,q9 zp zo qC),(197,q9 jp jt zA),(198,q9 q2g q27 yS),(199,q9 wT wP qK)] [(160,Tryz.f160)] [((160,14),qj q7k q80 (qf yw))] 2
noncomputable def q1t:=wk q4u 160 Tryz.f160 4 q8D q8g
theorem qkg:ql Tryz.prog qa q4u.nimp (qy Tryz.prog q4u.iter 160) (z6 Tryz.f160 4) (qj q8D q8g (qf q1t)):=
 gk q4u qc q8 (alc zC (alc kj (alc q6f (alc vT aln)))) (alc (lk Tryz.func160 qjv) aln) (b1 Tryz.func160) Tryz.func160
noncomputable def qiq:=qe [(195,q9 zp zo qC),(197,q9 jp jt zA),(198,q9 q2g q27 yS),(199,q9 wT wP qK)] [(160,Tryz.f160)] [((160,4),qj q8D q8g (qf q1t))] 2
noncomputable def vj:=qm qiq 160 Tryz.f160 false q1y q1r
theorem q32:qM Tryz.prog qa 160 (q9 q1y q1r vj):=qp1 (E:=qiq) qc ⟨yj q8,(alc zC (alc kj (alc q6f (alc vT aln)))),(alc (lk Tryz.func160 qkg) aln),(b1 Tryz.func160)⟩ Tryz.func160 (by kernel_rfl) (by kernel_rfl) (fun _=>rfl)
def uH:FIn:=⟨[(.ptr 0 0)],[.big [.bool,(.int .i64)] .i64 232]⟩
def uL:List FOut:=[⟨.str,[.big [.bool,(.int .i64)] .i64 232],none⟩]
noncomputable def qL:List PV→TR:=qE7
theorem u7:qM Tryz.prog qa 161 (q9 uH uL qL):=qCH (by unfold qa;exact List.mem_cons_self)
def qbP:FIn:=⟨[.str,.str],[]⟩
def qcb:List FOut:=[⟨(.tuple [.str,(.int .i64)]),[],none⟩]
def qeL:Tmpl:={ t:=(qz 9 ((.int .i64)::(.int .i64)::qz 61 [])),h:=[] }
def qeA:List Out:=[⟨(.exit 2),{ t:=(qz 9 ((.int .i64)::qz 62 [])),h:=[] }⟩]
noncomputable def q8R:=qe [(155,q9 q0e q0t zX),(158,q9 q02 kY zz),(159,q9 q3Z q4b zt),(160,q9 q1y q1r vj),(161,q9 uH uL qL)] [(115,Tryz.f115)] [] 0
noncomputable def q2B:=wk q8R 115 Tryz.f115 14 qeL qeA
theorem qpx:ql Tryz.prog qa q8R.nimp (qy Tryz.prog q8R.iter 115) (z6 Tryz.f115 14) (qj qeL qeA (qf q2B)):=
 gk q8R qc q8 (alc uq (alc ki (alc q1Y (alc q32 (alc u7 aln))))) aln (b1 Tryz.func115) Tryz.func115
def qgv:Tmpl:={ t:=(qz 7 ((.ptr 1 0)::(.ptr 2 0)::qz 63 [])),h:=[.dead,.big [.bool,(.int .i64)] .i64 232,.big [.bool,(.int .i64)] .i64 232],sw:=[(7,1),(8,2)],swn:=0 }
def qgi:List Out:=[⟨(.exit 0),{ t:=(qz 7 ((.ptr 1 0)::qz 64 [])),h:=[.dead,.big [.bool,(.int .i64)] .i64 232] }⟩,⟨.ret,{ t:=(qz 4 (.str::(.int .i64)::qz 66 [])),h:=[] }⟩]
noncomputable def qb3:=qe [(155,q9 q0e q0t zX),(158,q9 q02 kY zz),(159,q9 q3Z q4b zt),(160,q9 q1y q1r vj),(161,q9 uH uL qL)] [(115,Tryz.f115)] [((115,14),qj qeL qeA (qf q2B))] 0
noncomputable def q6T:=wk qb3 115 Tryz.f115 7 qgv qgi
theorem qqL:ql Tryz.prog qa qb3.nimp (qy Tryz.prog qb3.iter 115) (z6 Tryz.f115 7) (qj qgv qgi (qf q6T)):=
 gk qb3 qc q8 (alc uq (alc ki (alc q1Y (alc q32 (alc u7 aln))))) (alc (lk Tryz.func115 qpx) aln) (b1 Tryz.func115) Tryz.func115
noncomputable def qsI:=qe [(155,q9 q0e q0t zX),(158,q9 q02 kY zz),(159,q9 q3Z q4b zt),(160,q9 q1y q1r vj),(161,q9 uH uL qL)] [(115,Tryz.f115)] [((115,7),qj qgv qgi (qf q6T))] 0
noncomputable def q3N:=qm qsI 115 Tryz.f115 true qbP qcb
theorem qeh:qM Tryz.prog qa 115 (q9 qbP qcb q3N):=sk qsI qc q8 (alc uq (alc ki (alc q1Y (alc q32 (alc u7 aln))))) (alc (lk Tryz.func115 qqL) aln) (b1 Tryz.func115) Tryz.func115
def j5:FIn:=⟨[.str],[]⟩
def j4:List FOut:=[⟨(.int .i64),[],none⟩]
noncomputable def qoq:=qe [(112,q9 q3P q3w qT),(113,q9 jP jI qQ),(114,q9 qcB qbN q3r),(115,q9 qbP qcb q3N)] [(75,Tryz.f75)] [] 0
noncomputable def qD:=qm qoq 75 Tryz.f75 true j5 j4
theorem vw:qM Tryz.prog qa 75 (q9 j5 j4 qD):=sk qoq qc q8 (alc q2v (alc ji (alc qmM (alc qeh aln)))) aln (b1 Tryz.func75) Tryz.func75
def q4h:FIn:=⟨[(.agg [.str,.str,.str])],[]⟩
def q4q:List FOut:=[⟨(.int .i64),[],none⟩]
def qd0:Tmpl:={ t:=(.any::(.ptr 0 0)::qz 12 ((.vec 1)::(.int .i64)::(.int .i64)::qz 13 [])),h:=[.cells [.str,.str,.str],.vec 36 [.str]] }
def qcH:List Out:=[⟨(.exit 0),{ t:=(.any::(.ptr 0 0)::qz 28 []),h:=[.cells [.str,.str,.str]] }⟩,⟨.ret,{ t:=(.any::.any::(.int .i64)::qz 27 []),h:=[] }⟩]
noncomputable def q7h:=qe [(75,q9 j5 j4 qD)] [(74,Tryz.f74)] [] 0
noncomputable def q3z:=wk q7h 74 Tryz.f74 3 qd0 qcH
theorem qo0:ql Tryz.prog qa q7h.nimp (qy Tryz.prog q7h.iter 74) (z6 Tryz.f74 3) (qj qd0 qcH (qf q3z)):=
 gk q7h qc q8 (alc vw aln) aln (b1 Tryz.func74) Tryz.func74
noncomputable def qni:=qe [(75,q9 j5 j4 qD)] [(74,Tryz.f74)] [((74,3),qj qd0 qcH (qf q3z))] 0
noncomputable def uk:=qm qni 74 Tryz.f74 true q4h q4q
theorem q5G:qM Tryz.prog qa 74 (q9 q4h q4q uk):=sk qni qc q8 (alc vw aln) (alc (lk Tryz.func74 qo0) aln) (b1 Tryz.func74) Tryz.func74
def je:FIn:=⟨[(.imm [.str,.str,.str])],[]⟩
def jf:List FOut:=[⟨(.int .i64),[],none⟩]
def qe4:Tmpl:={ t:=((.imm [.str,.str,.str])::qz 8 ((.imm [.str,.str,.str])::(.int .i64)::(.int .i64)::qz 12 [])),h:=[] }
def qev:List Out:=[⟨(.exit 0),{ t:=((.imm [.str,.str,.str])::qz 23 []),h:=[] }⟩,⟨.ret,{ t:=(.any::.any::(.int .i64)::qz 21 []),h:=[] }⟩]
noncomputable def q97:=qe [(74,q9 q4h q4q uk)] [(62,Tryz.f62)] [] 0
noncomputable def q53:=wk q97 62 Tryz.f62 6 qe4 qev
theorem qoA:ql Tryz.prog qa q97.nimp (qy Tryz.prog q97.iter 62) (z6 Tryz.f62 6) (qj qe4 qev (qf q53)):=
 gk q97 qc q8 (alc q5G aln) aln (b1 Tryz.func62) Tryz.func62
noncomputable def qqd:=qe [(74,q9 q4h q4q uk)] [(62,Tryz.f62)] [((62,6),qj qe4 qev (qf q53))] 0
noncomputable def zx:=qm qqd 62 Tryz.f62 true je jf
theorem v7:qM Tryz.prog qa 62 (q9 je jf zx):=sk qqd qc q8 (alc q5G aln) (alc (lk Tryz.func62 qoA) aln) (b1 Tryz.func62) Tryz.func62
def q7g:FIn:=⟨[.str,.str],[]⟩
def q7F:List FOut:=[⟨(.tuple [(.int .i64),(.int .i64),.bool]),[],none⟩]
noncomputable def qoc:=qe [(194,q9 q9e q9c vX)] [(257,Tryz.f257)] [] 0
noncomputable def uj:=qm qoc 257 Tryz.f257 true q7g q7F
theorem qaE:qM Tryz.prog qa 257 (q9 q7g q7F uj):=sk qoc qc q8 (alc q8r aln) aln (b1 Tryz.func257) Tryz.func257
def q8T:FIn:=⟨[(.int .i64)],[]⟩
def q9g:List FOut:=[⟨(.tuple [.str,(.int .i64)]),[],none⟩]
noncomputable def qkE:=qe [(159,q9 q3Z q4b zt)] [(258,Tryz.f258)] [] 0
noncomputable def q0p:=qm qkE 258 Tryz.f258 true q8T q9g
theorem qf6:qM Tryz.prog qa 258 (q9 q8T q9g q0p):=sk qkE qc q8 (alc q1Y aln) aln (b1 Tryz.func258) Tryz.func258
def yY:FIn:=⟨[(.ptr 0 0)],[.big [.bool,(.int .i64)] .i64 232]⟩
def yZ:List FOut:=[⟨(.tuple [.str,(.int .i64)]),[.big [.bool,(.int .i64)] .i64 232],none⟩]
noncomputable def qaQ:=qe [(113,q9 jP jI qQ),(161,q9 uH uL qL)] [(260,Tryz.f260)] [] 1
noncomputable def zV:=qm qaQ 260 Tryz.f260 true yY yZ
theorem q1G:qM Tryz.prog qa 260 (q9 yY yZ zV):=sk qaQ qc q8 (alc ji (alc u7 aln)) aln (b1 Tryz.func260) Tryz.func260
def q1c:FIn:=⟨[(.ptr 0 0),(.ptr 1 0)],[.big [.bool,(.int .i64)] .i64 232,.big [.bool,(.int .i64)] .i64 232]⟩
def q1w:List FOut:=[⟨(.tuple []),[.big [.bool,(.int .i64)] .i64 232,.big [.bool,(.int .i64)] .i64 232],none⟩]
noncomputable def qfk:=qe [(197,q9 jp jt zA),(199,q9 wT wP qK)] [(274,Tryz.f274)] [] 2
noncomputable def wK:=qm qfk 274 Tryz.f274 true q1c q1w
theorem q4X:qM Tryz.prog qa 274 (q9 q1c q1w wK):=sk qfk qc q8 (alc kj (alc vT aln)) aln (b1 Tryz.func274) Tryz.func274
def qmp:FIn:=⟨[(.imm [.str])],[]⟩
def qlG:List FOut:=[⟨(.tuple [.str,(.int .i64)]),[],none⟩]
def qh7:Tmpl:={ t:=(qz 4 ((.ptr 0 0)::qz 4 ((.imm [.str])::(.int .i64)::(.int .i64)::qz 12 []))),h:=[.big [.bool,(.int .i64)] .i64 232] }
def qg9:List Out:=[⟨(.exit 0),{ t:=(qz 4 ((.ptr 0 0)::qz 19 [])),h:=[.big [.bool,(.int .i64)] .i64 232] }⟩]
noncomputable def qbl:=qe [(158,q9 q02 kY zz),(260,q9 yY yZ zV),(274,q9 q1c q1w wK)] [(261,Tryz.f261)] [] 0
noncomputable def q7a:=wk qbl 261 Tryz.f261 4 qh7 qg9
theorem qqx:ql Tryz.prog qa qbl.nimp (qy Tryz.prog qbl.iter 261) (z6 Tryz.f261 4) (qj qh7 qg9 (qf q7a)):=
 gk qbl qc q8 (alc ki (alc q1G (alc q4X aln))) aln (b1 Tryz.func261) Tryz.func261
noncomputable def qtf:=qe [(158,q9 q02 kY zz),(260,q9 yY yZ zV),(274,q9 q1c q1w wK)] [(261,Tryz.f261)] [((261,4),qj qh7 qg9 (qf q7a))] 0
noncomputable def qc3:=qm qtf 261 Tryz.f261 true qmp qlG
theorem que:qM Tryz.prog qa 261 (q9 qmp qlG qc3):=sk qtf qc q8 (alc ki (alc q1G (alc q4X aln))) (alc (lk Tryz.func261 qqx) aln) (b1 Tryz.func261) Tryz.func261
def qco:FIn:=⟨[.str,.str],[]⟩
def qcq:List FOut:=[⟨(.tuple [.str,(.int .i64)]),[],none⟩]
noncomputable def qtv:=qe [(155,q9 q0e q0t zX),(257,q9 q7g q7F uj),(258,q9 q8T q9g q0p),(261,q9 qmp qlG qc3)] [(236,Tryz.f236)] [] 0
noncomputable def q3j:=qm qtv 236 Tryz.f236 true qco qcq
theorem qea:qM Tryz.prog qa 236 (q9 qco qcq q3j):=sk qtv qc q8 (alc uq (alc qaE (alc qf6 (alc que aln)))) aln (b1 Tryz.func236) Tryz.func236
def qaq:FIn:=⟨[.str],[]⟩
def qax:List FOut:=[⟨.str,[],none⟩]
noncomputable def qhR:=qe [(156,q9 q9m q9r uz)] [(256,Tryz.f256)] [] 0
noncomputable def q20:=qm qhR 256 Tryz.f256 true qaq qax
theorem qlQ:qM Tryz.prog qa 256 (q9 qaq qax q20):=sk qhR qc q8 (alc qd7 aln) aln (b1 Tryz.func256) Tryz.func256
def qgn:FIn:=⟨[.str,.str],[]⟩
def qgd:List FOut:=[⟨(.tuple [.str,(.int .i64)]),[],none⟩]
noncomputable def qrW:=qe [(155,q9 q0e q0t zX),(236,q9 qco qcq q3j),(256,q9 qaq qax q20)] [(233,Tryz.f233)] [] 0
noncomputable def q8m:=qm qrW 233 Tryz.f233 true qgn qgd
theorem qkz:qM Tryz.prog qa 233 (q9 qgn qgd q8m):=sk qrW qc q8 (alc uq (alc qea (alc qlQ aln))) aln (b1 Tryz.func233) Tryz.func233
def q0D:FIn:=⟨[(.ptr 0 0),(.fn 233 [] []),.str,.str],[.cells [(.int .i64)]]⟩
def q0z:List FOut:=[⟨.str,[.cells [(.int .i64)]],none⟩]
noncomputable def q5B:=qe [(233,q9 qgn qgd q8m)] [(232,Tryz.f232)] [] 1
noncomputable def wX:=qm q5B 232 Tryz.f232 true q0D q0z
theorem qbq:qM Tryz.prog qa 232 (q9 q0D q0z wX):=sk q5B qc q8 (alc qkz aln) aln (b1 Tryz.func232) Tryz.func232
def kw:FIn:=⟨[(.ptr 0 0),.str,.str],[.cells [(.int .i64)]]⟩
def kF:List FOut:=[⟨.str,[.cells [(.int .i64)]],none⟩]
noncomputable def qhJ:=qe [(233,q9 qgn qgd q8m),(232,q9 q0D q0z wX)] [(206,Tryz.f206)] [] 1
noncomputable def zq:=qm qhJ 206 Tryz.f206 true kw kF
theorem q1S:qM Tryz.prog qa 206 (q9 kw kF zq):=sk qhJ qc q8 (alc qkz (alc qbq aln)) aln (b1 Tryz.func206) Tryz.func206
def q7P:FIn:=⟨[(.ptr 0 0),(.ptr 1 0)],[.big [.bool,(.int .i64)] .i64 232,.big [.bool,(.int .i64)] .i64 232]⟩
def q7R:List FOut:=[⟨(.ptr 2 0),[.big [.bool,(.int .i64)] .i64 232,.big [.bool,(.int .i64)] .i64 232,.big [.bool,(.int .i64)] .i64 232],none⟩]
def q51:Tmpl:={ t:=((.ptr 0 0)::(.ptr 1 0)::.any::.any::.any::(.ptr 2 0)::qz 15 ((.int .i64)::(.int .i64)::qz 14 [])),h:=[.big [.bool,(.int .i64)] .i64 232,.big [.bool,(.int .i64)] .i64 232,.big [.bool,(.int .i64)] .i64 232] }
def q4Z:List Out:=[⟨(.exit 0),{ t:=(qz 5 ((.ptr 2 0)::qz 31 [])),h:=[.big [.bool,(.int .i64)] .i64 232,.big [.bool,(.int .i64)] .i64 232,.big [.bool,(.int .i64)] .i64 232] }⟩]
noncomputable def q0L:=qe [(199,q9 wT wP qK)] [(259,Tryz.f259)] [] 2
noncomputable def yW:=wk q0L 259 Tryz.f259 4 q51 q4Z
theorem qgw:ql Tryz.prog qa q0L.nimp (qy Tryz.prog q0L.iter 259) (z6 Tryz.f259 4) (qj q51 q4Z (qf yW)):=
 gk q0L qc q8 (alc vT aln) aln (b1 Tryz.func259) Tryz.func259
noncomputable def qdn:=qe [(199,q9 wT wP qK)] [(259,Tryz.f259)] [((259,4),qj q51 q4Z (qf yW))] 2
noncomputable def kX:=qm qdn 259 Tryz.f259 false q7P q7R
theorem qia:qM Tryz.prog qa 259 (q9 q7P q7R kX):=qp1 (E:=qdn) qc ⟨yj q8,(alc vT aln),(alc (lk Tryz.func259 qgw) aln),(b1 Tryz.func259)⟩ Tryz.func259 (by kernel_rfl) (by kernel_rfl) (fun _=>rfl)
def qd5:FIn:=⟨[.str,.str],[]⟩
def qbO:List FOut:=[⟨(.tuple [.str,(.int .i64)]),[],none⟩]
noncomputable def qs2:=qe [(155,q9 q0e q0t zX),(158,q9 q02 kY zz),(257,q9 q7g q7F uj),(258,q9 q8T q9g q0p),(259,q9 q7P q7R kX),(260,q9 yY yZ zV)] [(234,Tryz.f234)] [] 0
noncomputable def q6e:=qm qs2 234 Tryz.f234 true qd5 qbO
theorem qez:qM Tryz.prog qa 234 (q9 qd5 qbO q6e):=sk qs2 qc q8 (alc uq (alc ki (alc qaE (alc qf6 (alc qia (alc q1G aln)))))) aln (b1 Tryz.func234) Tryz.func234
def jG:FIn:=⟨[(.ptr 0 0),(.fn 234 [] []),.str,.str],[.cells [(.int .i64)]]⟩
def jx:List FOut:=[⟨.str,[.cells [(.int .i64)]],none⟩]
noncomputable def q5c:=qe [(234,q9 qd5 qbO q6e)] [(232,Tryz.f232)] [] 1
noncomputable def zO:=qm q5c 232 Tryz.f232 true jG jx
theorem q35:qM Tryz.prog qa 232 (q9 jG jx zO):=sk q5c qc q8 (alc qez aln) aln (b1 Tryz.func232) Tryz.func232
def jg:FIn:=⟨[(.ptr 0 0),(.imm [.str])],[.cells [(.int .i64)]]⟩
def jd:List FOut:=[⟨.str,[.cells [(.int .i64)]],none⟩]
def q7y:Tmpl:={ t:=(qz 5 (.str::(.fn 232 [(.ptr 0 0)] [])::qz 4 ((.imm [.str])::(.int .i64)::(.int .i64)::qz 9 []))),h:=[.cells [(.int .i64)]] }
def q7G:List Out:=[⟨(.exit 0),{ t:=(qz 5 (.str::qz 17 [])),h:=[.cells [(.int .i64)]] }⟩]
noncomputable def q2Y:=qe [(234,q9 qd5 qbO q6e),(232,q9 jG jx zO)] [(207,Tryz.f207)] [] 1
noncomputable def yn:=wk q2Y 207 Tryz.f207 4 q7y q7G
theorem qjl:ql Tryz.prog qa q2Y.nimp (qy Tryz.prog q2Y.iter 207) (z6 Tryz.f207 4) (qj q7y q7G (qf yn)):=
 gk q2Y qc q8 (alc qez (alc q35 aln)) aln (b1 Tryz.func207) Tryz.func207
noncomputable def qhC:=qe [(234,q9 qd5 qbO q6e),(232,q9 jG jx zO)] [(207,Tryz.f207)] [((207,4),qj q7y q7G (qf yn))] 1
noncomputable def qg:=qm qhC 207 Tryz.f207 true jg jd
theorem jr:qM Tryz.prog qa 207 (q9 jg jd qg):=sk qhC qc q8 (alc qez (alc q35 aln)) (alc (lk Tryz.func207 qjl) aln) (b1 Tryz.func207) Tryz.func207
def qbu:FIn:=⟨[(.ptr 0 0),.str,.str,.str,.str],[.cells [(.int .i64)]]⟩
def qb2:List FOut:=[⟨(.tuple [.str,.str]),[.cells [(.int .i64)]],none⟩]
noncomputable def qnL:=qe [(206,q9 kw kF zq),(207,q9 jg jd qg)] [(205,Tryz.f205)] [] 1
noncomputable def q4D:=qm qnL 205 Tryz.f205 true qbu qb2
theorem qhL:qM Tryz.prog qa 205 (q9 qbu qb2 q4D):=sk qnL qc q8 (alc q1S (alc jr aln)) aln (b1 Tryz.func205) Tryz.func205
def uB:FIn:=⟨[(.imm [.str])],[]⟩
def uE:List FOut:=[⟨(.int .i64),[],none⟩]
def qak:Tmpl:={ t:=(qz 6 ((.imm [.str])::(.int .i64)::(.int .i64)::qz 9 [])),h:=[] }
def qa9:List Out:=[⟨(.exit 0),{ t:=(qz 18 []),h:=[] }⟩,⟨.ret,{ t:=(.any::.any::(.int .i64)::qz 15 []),h:=[] }⟩]
noncomputable def q61:=qe [(75,q9 j5 j4 qD)] [(208,Tryz.f208)] [] 0
noncomputable def q2p:=wk q61 208 Tryz.f208 3 qak qa9
theorem qmh:ql Tryz.prog qa q61.nimp (qy Tryz.prog q61.iter 208) (z6 Tryz.f208 3) (qj qak qa9 (qf q2p)):=
 gk q61 qc q8 (alc vw aln) aln (b1 Tryz.func208) Tryz.func208
noncomputable def qkR:=qe [(75,q9 j5 j4 qD)] [(208,Tryz.f208)] [((208,3),qj qak qa9 (qf q2p))] 0
noncomputable def qW:=qm qkR 208 Tryz.f208 true uB uE
theorem uN:qM Tryz.prog qa 208 (q9 uB uE qW):=sk qkR qc q8 (alc vw aln) (alc (lk Tryz.func208 qmh) aln) (b1 Tryz.func208) Tryz.func208
def q68:FIn:=⟨[.str,.str],[]⟩
def q6d:List FOut:=[⟨.bool,[],none⟩]
noncomputable def qcm:=qe [(218,q9 wd w9 qI)] [(253,Tryz.f253)] [] 0
noncomputable def uQ:=qm qcm 253 Tryz.f253 true q68 q6d
theorem qhX:qM Tryz.prog qa 253 (q9 q68 q6d uQ):=sk qcm qc q8 (alc kh aln) aln (b1 Tryz.func253) Tryz.func253
def qeJ:FIn:=⟨[.str,.str],[]⟩
def qeX:List FOut:=[⟨.str,[],none⟩]
noncomputable def ql6:=qe [] [(254,Tryz.f254)] [] 0
noncomputable def q2t:=qm ql6 254 Tryz.f254 true qeJ qeX
theorem qpI:qM Tryz.prog qa 254 (q9 qeJ qeX q2t):=sk ql6 qc q8 aln aln (b1 Tryz.func254) Tryz.func254
def qeE:FIn:=⟨[.str,.str],[]⟩
def qep:List FOut:=[⟨(.tuple [.str,.str,(.int .i64)]),[],none⟩]
noncomputable def qku:=qe [(155,q9 q0e q0t zX),(158,q9 q02 kY zz),(159,q9 q3Z q4b zt),(160,q9 q1y q1r vj),(161,q9 uH uL qL),(257,q9 q7g q7F uj),(274,q9 q1c q1w wK)] [(273,Tryz.f273)] [] 0
noncomputable def q5u:=qm qku 273 Tryz.f273 true qeE qep
theorem qp5:qM Tryz.prog qa 273 (q9 qeE qep q5u):=sk qku qc q8 (alc uq (alc ki (alc q1Y (alc q32 (alc u7 (alc qaE (alc q4X aln))))))) aln (b1 Tryz.func273) Tryz.func273
def qgf:FIn:=⟨[.str,.str],[]⟩
def qgX:List FOut:=[⟨(.tuple [.str,(.int .i64)]),[],none⟩]
noncomputable def qtr:=qe [(113,q9 jP jI qQ),(273,q9 qeE qep q5u)] [(255,Tryz.f255)] [] 0
noncomputable def q8u:=qm qtr 255 Tryz.f255 true qgf qgX
theorem qko:qM Tryz.prog qa 255 (q9 qgf qgX q8u):=sk qtr qc q8 (alc ji (alc qp5 aln)) aln (b1 Tryz.func255) Tryz.func255
def jE:FIn:=⟨[(.ptr 0 0),(.fn 115 [] []),.str,.str],[.cells [(.int .i64)]]⟩
def q0w:List FOut:=[⟨.str,[.cells [(.int .i64)]],none⟩]
noncomputable def q5p:=qe [(115,q9 qbP qcb q3N)] [(232,Tryz.f232)] [] 1
noncomputable def wZ:=qm q5p 232 Tryz.f232 true jE q0w
theorem qaS:qM Tryz.prog qa 232 (q9 jE q0w wZ):=sk q5p qc q8 (alc qeh aln) aln (b1 Tryz.func232) Tryz.func232
def jK:FIn:=⟨[(.ptr 0 0),(.fn 255 [] []),.str,.str],[.cells [(.int .i64)]]⟩
def q0g:List FOut:=[⟨.str,[.cells [(.int .i64)]],none⟩]
noncomputable def q57:=qe [(255,q9 qgf qgX q8u)] [(232,Tryz.f232)] [] 1
noncomputable def qX:=qm q57 232 Tryz.f232 true jK q0g
theorem qb9:qM Tryz.prog qa 232 (q9 jK q0g qX):=sk q57 qc q8 (alc qko aln) aln (b1 Tryz.func232) Tryz.func232
def wt:FIn:=⟨[(.ptr 0 0),.str,.str],[.cells [(.int .i64)]]⟩
def wj:List FOut:=[⟨.str,[.cells [(.int .i64)]],none⟩]
noncomputable def qcV:=qe [(115,q9 qbP qcb q3N),(206,q9 kw kF zq),(253,q9 q68 q6d uQ),(254,q9 qeJ qeX q2t),(255,q9 qgf qgX q8u),(232,qJh [(jE,q9 jE q0w wZ),(jK,q9 jK q0g qX)])] [(231,Tryz.f231)] [] 1
noncomputable def qG:=qm qcV 231 Tryz.f231 true wt wj
theorem wU:qM Tryz.prog qa 231 (q9 wt wj qG):=sk qcV qc q8 (alc qeh (alc q1S (alc qhX (alc qpI (alc qko (alc (qGp (q3I Tryz.func232 (by kernel_rfl) (by kernel_rfl)) (qBE qaS (qBE qb9 qHH))) aln)))))) aln (b1 Tryz.func231) Tryz.func231
def q15:FIn:=⟨[.str,.str,(.fn 205 [] [])],[]⟩
def q0Y:List FOut:=[⟨(.tuple [.str,(.int .i64)]),[],none⟩]
noncomputable def q6q:=qe [(112,q9 q3P q3w qT),(205,q9 qbu qb2 q4D),(208,q9 uB uE qW),(231,q9 wt wj qG)] [(204,Tryz.f204)] [] 0
noncomputable def vK:=qm q6q 204 Tryz.f204 true q15 q0Y
theorem qbY:qM Tryz.prog qa 204 (q9 q15 q0Y vK):=sk q6q qc q8 (alc q2v (alc qhL (alc uN (alc wU aln)))) aln (b1 Tryz.func204) Tryz.func204
def qhf:FIn:=⟨[.str,.str],[]⟩
def qgm:List FOut:=[⟨(.tuple [.str,(.int .i64)]),[],none⟩]
noncomputable def qtb:=qe [(205,q9 qbu qb2 q4D),(204,q9 q15 q0Y vK)] [(164,Tryz.f164)] [] 0
noncomputable def q8e:=qm qtb 164 Tryz.f164 true qhf qgm
theorem ql5:qM Tryz.prog qa 164 (q9 qhf qgm q8e):=sk qtb qc q8 (alc qhL (alc qbY aln)) aln (b1 Tryz.func164) Tryz.func164
def q0j:FIn:=⟨[(.ptr 0 0),(.fn 164 [] []),.str,.str],[.cells [(.int .i64)]]⟩
def q0c:List FOut:=[⟨.str,[.cells [(.int .i64)]],none⟩]
noncomputable def q5s:=qe [(164,q9 qhf qgm q8e)] [(163,Tryz.f163)] [] 1
noncomputable def v8:=qm q5s 163 Tryz.f163 true q0j q0c
theorem qbb:qM Tryz.prog qa 163 (q9 q0j q0c v8):=sk q5s qc q8 (alc ql5 aln) aln (b1 Tryz.func163) Tryz.func163
def kC:FIn:=⟨[(.ptr 0 0),.str,.str],[.cells [(.int .i64)]]⟩
def kJ:List FOut:=[⟨.str,[.cells [(.int .i64)]],none⟩]
noncomputable def qhQ:=qe [(164,q9 qhf qgm q8e),(163,q9 q0j q0c v8)] [(117,Tryz.f117)] [] 1
noncomputable def qU:=qm qhQ 117 Tryz.f117 true kC kJ
theorem q1N:qM Tryz.prog qa 117 (q9 kC kJ qU):=sk qhQ qc q8 (alc ql5 (alc qbb aln)) aln (b1 Tryz.func117) Tryz.func117
def q1g:FIn:=⟨[(.ptr 0 0),(.agg [.str,.str]),(.agg [.str,.str])],[.cells [(.int .i64)]]⟩
def q1i:List FOut:=[⟨(.agg [.str,.str]),[.cells [(.int .i64)]],none⟩]
noncomputable def qfE:=qe [(117,q9 kC kJ qU)] [(118,Tryz.f118)] [] 1
noncomputable def wI:=qm qfE 118 Tryz.f118 true q1g q1i
theorem q4W:qM Tryz.prog qa 118 (q9 q1g q1i wI):=sk qfE qc q8 (alc q1N aln) aln (b1 Tryz.func118) Tryz.func118
def q0C:FIn:=⟨[(.ptr 0 0),(.fn 236 [] []),.str,.str],[.cells [(.int .i64)]]⟩
def q0k:List FOut:=[⟨.str,[.cells [(.int .i64)]],none⟩]
noncomputable def q5t:=qe [(236,q9 qco qcq q3j)] [(232,Tryz.f232)] [] 1
noncomputable def vh:=qm q5t 232 Tryz.f232 true q0C q0k
theorem qaT:qM Tryz.prog qa 232 (q9 q0C q0k vh):=sk q5t qc q8 (alc qea aln) aln (b1 Tryz.func232) Tryz.func232
def q5W:FIn:=⟨[(.ptr 0 0),.str,.str],[.cells [(.int .i64)]]⟩
def q5F:List FOut:=[⟨.str,[.cells [(.int .i64)]],none⟩]
noncomputable def qhH:=qe [(236,q9 qco qcq q3j),(232,q9 q0C q0k vh)] [(215,Tryz.f215)] [] 1
noncomputable def yL:=qm qhH 215 Tryz.f215 true q5W q5F
theorem qbM:qM Tryz.prog qa 215 (q9 q5W q5F yL):=sk qhH qc q8 (alc qea (alc qaT aln)) aln (b1 Tryz.func215) Tryz.func215
def qbc:FIn:=⟨[(.ptr 0 0),.str,.str,.str,.str],[.cells [(.int .i64)]]⟩
def qbG:List FOut:=[⟨(.tuple [.str,.str]),[.cells [(.int .i64)]],none⟩]
noncomputable def qo7:=qe [(207,q9 jg jd qg),(215,q9 q5W q5F yL)] [(214,Tryz.f214)] [] 1
noncomputable def q4z:=qm qo7 214 Tryz.f214 true qbc qbG
theorem qhM:qM Tryz.prog qa 214 (q9 qbc qbG q4z):=sk qo7 qc q8 (alc jr (alc qbM aln)) aln (b1 Tryz.func214) Tryz.func214
def q1o:FIn:=⟨[.str,.str,(.fn 214 [] [])],[]⟩
def q0R:List FOut:=[⟨(.tuple [.str,(.int .i64)]),[],none⟩]
noncomputable def q6v:=qe [(112,q9 q3P q3w qT),(208,q9 uB uE qW),(214,q9 qbc qbG q4z),(231,q9 wt wj qG)] [(204,Tryz.f204)] [] 0
noncomputable def vH:=qm q6v 204 Tryz.f204 true q1o q0R
theorem qcA:qM Tryz.prog qa 204 (q9 q1o q0R vH):=sk q6v qc q8 (alc q2v (alc uN (alc qhM (alc wU aln)))) aln (b1 Tryz.func204) Tryz.func204
def qg7:FIn:=⟨[.str,.str],[]⟩
def qg3:List FOut:=[⟨(.tuple [.str,(.int .i64)]),[],none⟩]
noncomputable def qty:=qe [(214,q9 qbc qbG q4z),(204,q9 q1o q0R vH)] [(181,Tryz.f181)] [] 0
noncomputable def q8H:=qm qty 181 Tryz.f181 true qg7 qg3
theorem qkD:qM Tryz.prog qa 181 (q9 qg7 qg3 q8H):=sk qty qc q8 (alc qhM (alc qcA aln)) aln (b1 Tryz.func181) Tryz.func181
def q0A:FIn:=⟨[(.ptr 0 0),(.fn 181 [] []),.str,.str],[.cells [(.int .i64)]]⟩
def q0b:List FOut:=[⟨.str,[.cells [(.int .i64)]],none⟩]
noncomputable def q5f:=qe [(181,q9 qg7 qg3 q8H)] [(163,Tryz.f163)] [] 1
noncomputable def vg:=qm q5f 163 Tryz.f163 true q0A q0b
theorem qb0:qM Tryz.prog qa 163 (q9 q0A q0b vg):=sk q5f qc q8 (alc qkD aln) aln (b1 Tryz.func163) Tryz.func163
def q2b:FIn:=⟨[(.ptr 0 0),.str,.str],[.cells [(.int .i64)]]⟩
def q2i:List FOut:=[⟨.str,[.cells [(.int .i64)]],none⟩]
noncomputable def qhN:=qe [(181,q9 qg7 qg3 q8H),(163,q9 q0A q0b vg)] [(141,Tryz.f141)] [] 1
noncomputable def zI:=qm qhN 141 Tryz.f141 true q2b q2i
theorem q69:qM Tryz.prog qa 141 (q9 q2b q2i zI):=sk qhN qc q8 (alc qkD (alc qb0 aln)) aln (b1 Tryz.func141) Tryz.func141
def qbD:FIn:=⟨[(.ptr 0 0),.str,.str,.str,.str],[.cells [(.int .i64)]]⟩
def qbA:List FOut:=[⟨(.tuple [.str,.str]),[.cells [(.int .i64)]],none⟩]
noncomputable def qol:=qe [(207,q9 jg jd qg)] [(216,Tryz.f216)] [] 1
noncomputable def q4E:=qm qol 216 Tryz.f216 true qbD qbA
theorem qhA:qM Tryz.prog qa 216 (q9 qbD qbA q4E):=sk qol qc q8 (alc jr aln) aln (b1 Tryz.func216) Tryz.func216
def q1s:FIn:=⟨[.str,.str,(.fn 216 [] [])],[]⟩
def q14:List FOut:=[⟨(.tuple [.str,(.int .i64)]),[],none⟩]
noncomputable def q6p:=qe [(112,q9 q3P q3w qT),(208,q9 uB uE qW),(216,q9 qbD qbA q4E),(231,q9 wt wj qG)] [(204,Tryz.f204)] [] 0
noncomputable def vQ:=qm q6p 204 Tryz.f204 true q1s q14
theorem qbS:qM Tryz.prog qa 204 (q9 q1s q14 vQ):=sk q6p qc q8 (alc q2v (alc uN (alc qhA (alc wU aln)))) aln (b1 Tryz.func204) Tryz.func204
def qgV:FIn:=⟨[.str,.str],[]⟩
def qgA:List FOut:=[⟨(.tuple [.str,(.int .i64)]),[],none⟩]
noncomputable def qsu:=qe [(216,q9 qbD qbA q4E),(204,q9 q1s q14 vQ)] [(182,Tryz.f182)] [] 0
noncomputable def q8t:=qm qsu 182 Tryz.f182 true qgV qgA
theorem qkU:qM Tryz.prog qa 182 (q9 qgV qgA q8t):=sk qsu qc q8 (alc qhA (alc qbS aln)) aln (b1 Tryz.func182) Tryz.func182
def q0u:FIn:=⟨[(.ptr 0 0),(.fn 182 [] []),.str,.str],[.cells [(.int .i64)]]⟩
def q0l:List FOut:=[⟨.str,[.cells [(.int .i64)]],none⟩]
noncomputable def q5q:=qe [(182,q9 qgV qgA q8t)] [(163,Tryz.f163)] [] 1
noncomputable def wY:=qm q5q 163 Tryz.f163 true q0u q0l
theorem qbf:qM Tryz.prog qa 163 (q9 q0u q0l wY):=sk q5q qc q8 (alc qkU aln) aln (b1 Tryz.func163) Tryz.func163
def q2c:FIn:=⟨[(.ptr 0 0),.str,.str],[.cells [(.int .i64)]]⟩
def q29:List FOut:=[⟨.str,[.cells [(.int .i64)]],none⟩]
noncomputable def qhn:=qe [(182,q9 qgV qgA q8t),(163,q9 q0u q0l wY)] [(142,Tryz.f142)] [] 1
noncomputable def qZ:=qm qhn 142 Tryz.f142 true q2c q29
theorem q6j:qM Tryz.prog qa 142 (q9 q2c q29 qZ):=sk qhn qc q8 (alc qkU (alc qbf aln)) aln (b1 Tryz.func142) Tryz.func142
def q2f:FIn:=⟨[(.ptr 0 0),(.agg [.str,.str]),(.agg [.str,.str])],[.cells [(.int .i64)]]⟩
def q28:List FOut:=[⟨.str,[.cells [(.int .i64)]],none⟩]
noncomputable def qhF:=qe [(141,q9 q2b q2i zI),(142,q9 q2c q29 qZ)] [(119,Tryz.f119)] [] 1
noncomputable def zH:=qm qhF 119 Tryz.f119 true q2f q28
theorem q6h:qM Tryz.prog qa 119 (q9 q2f q28 zH):=sk qhF qc q8 (alc q69 (alc q6j aln)) aln (b1 Tryz.func119) Tryz.func119
def qbg:FIn:=⟨[(.ptr 0 0),.str,.str,.str,.str],[.cells [(.int .i64)]]⟩
def qbx:List FOut:=[⟨(.tuple [.str,.str]),[.cells [(.int .i64)]],none⟩]
noncomputable def qnP:=qe [(207,q9 jg jd qg)] [(209,Tryz.f209)] [] 1
noncomputable def q4s:=qm qnP 209 Tryz.f209 true qbg qbx
theorem qhG:qM Tryz.prog qa 209 (q9 qbg qbx q4s):=sk qnP qc q8 (alc jr aln) aln (b1 Tryz.func209) Tryz.func209
def q0S:FIn:=⟨[.str,.str,(.fn 209 [] [])],[]⟩
def q0P:List FOut:=[⟨(.tuple [.str,(.int .i64)]),[],none⟩]
noncomputable def q6s:=qe [(112,q9 q3P q3w qT),(208,q9 uB uE qW),(209,q9 qbg qbx q4s),(231,q9 wt wj qG)] [(204,Tryz.f204)] [] 0
noncomputable def vJ:=qm q6s 204 Tryz.f204 true q0S q0P
theorem qcG:qM Tryz.prog qa 204 (q9 q0S q0P vJ):=sk q6s qc q8 (alc q2v (alc uN (alc qhG (alc wU aln)))) aln (b1 Tryz.func204) Tryz.func204
def qhc:FIn:=⟨[.str,.str],[]⟩
def qg1:List FOut:=[⟨(.tuple [.str,(.int .i64)]),[],none⟩]
noncomputable def qrZ:=qe [(208,q9 uB uE qW),(209,q9 qbg qbx q4s),(204,q9 q0S q0P vJ)] [(165,Tryz.f165)] [] 0
noncomputable def q8F:=qm qrZ 165 Tryz.f165 true qhc qg1
theorem ql1:qM Tryz.prog qa 165 (q9 qhc qg1 q8F):=sk qrZ qc q8 (alc uN (alc qhG (alc qcG aln))) aln (b1 Tryz.func165) Tryz.func165
def q0y:FIn:=⟨[(.ptr 0 0),(.fn 165 [] []),.str,.str],[.cells [(.int .i64)]]⟩
def q0h:List FOut:=[⟨.str,[.cells [(.int .i64)]],none⟩]
noncomputable def q5j:=qe [(165,q9 qhc qg1 q8F)] [(163,Tryz.f163)] [] 1
noncomputable def zR:=qm q5j 163 Tryz.f163 true q0y q0h
theorem qbo:qM Tryz.prog qa 163 (q9 q0y q0h zR):=sk q5j qc q8 (alc ql1 aln) aln (b1 Tryz.func163) Tryz.func163
def q2T:FIn:=⟨[(.ptr 0 0),(.imm [.str,.str,.str]),(.agg [(.int .i64),(.int .i64),(.int .i64)])],[.cells [(.int .i64)]]⟩
def q2R:List FOut:=[⟨(.tuple [(.agg [.str,.str,.str,.str,.str]),.bool]),[.cells [(.int .i64)]],none⟩]
noncomputable def qdM:=qe [(117,q9 kC kJ qU),(118,q9 q1g q1i wI),(119,q9 q2f q28 zH),(141,q9 q2b q2i zI),(142,q9 q2c q29 qZ),(165,q9 qhc qg1 q8F),(163,q9 q0y q0h zR)] [(120,Tryz.f120)] [] 1
noncomputable def j1:=qm qdM 120 Tryz.f120 true q2T q2R
theorem q9F:qM Tryz.prog qa 120 (q9 q2T q2R j1):=sk qdM qc q8 (alc q1N (alc q4W (alc q6h (alc q69 (alc q6j (alc ql1 (alc qbo aln))))))) aln (b1 Tryz.func120) Tryz.func120
def qjy:FIn:=⟨[.str],[]⟩
def qjn:List FOut:=[⟨(.tuple [(.int .i64),(.int .i64)]),[],none⟩]
noncomputable def qpR:=qe [(113,q9 jP jI qQ),(156,q9 q9m q9r uz)] [(252,Tryz.f252)] [] 0
noncomputable def q9D:=qm qpR 252 Tryz.f252 true qjy qjn
theorem qsH:qM Tryz.prog qa 252 (q9 qjy qjn q9D):=sk qpR qc q8 (alc ji (alc qd7 aln)) aln (b1 Tryz.func252) Tryz.func252
def q4i:FIn:=⟨[(.ptr 0 0),.str],[.cells [(.int .i64)]]⟩
def q4j:List FOut:=[⟨(.int .i64),[.cells [(.int .i64)]],none⟩]
noncomputable def qfa:=qe [(252,q9 qjy qjn q9D)] [(230,Tryz.f230)] [] 1
noncomputable def zu:=qm qfa 230 Tryz.f230 true q4i q4j
theorem qaP:qM Tryz.prog qa 230 (q9 q4i q4j zu):=sk qfa qc q8 (alc qsH aln) aln (b1 Tryz.func230) Tryz.func230
def q8y:FIn:=⟨[(.ptr 0 0),.str,.str,.str],[.cells [(.int .i64)]]⟩
def q8q:List FOut:=[⟨(.int .i64),[.cells [(.int .i64)]],none⟩]
noncomputable def qfF:=qe [(206,q9 kw kF zq),(207,q9 jg jd qg),(230,q9 q4i q4j zu)] [(229,Tryz.f229)] [] 1
noncomputable def uF:=qm qfF 229 Tryz.f229 true q8y q8q
theorem qk8:qM Tryz.prog qa 229 (q9 q8y q8q uF):=sk qfF qc q8 (alc q1S (alc jr (alc qaP aln))) aln (b1 Tryz.func229) Tryz.func229
def q8a:FIn:=⟨[.str,.str,.str,.str,.str],[]⟩
def q8I:List FOut:=[⟨(.tuple [(.int .i64),(.int .i64)]),[],none⟩]
noncomputable def qfy:=qe [(112,q9 q3P q3w qT),(206,q9 kw kF zq),(207,q9 jg jd qg),(208,q9 uB uE qW),(215,q9 q5W q5F yL),(229,q9 q8y q8q uF),(230,q9 q4i q4j zu)] [(203,Tryz.f203)] [] 0
noncomputable def q0X:=qm qfy 203 Tryz.f203 true q8a q8I
theorem qk6:qM Tryz.prog qa 203 (q9 q8a q8I q0X):=sk qfy qc q8 (alc q2v (alc q1S (alc jr (alc uN (alc qbM (alc qk8 (alc qaP aln))))))) aln (b1 Tryz.func203) Tryz.func203
def qaA:FIn:=⟨[.str,.str,.str],[]⟩
def qav:List FOut:=[⟨(.tuple [(.int .i64),(.int .i64)]),[],none⟩]
noncomputable def qhv:=qe [(203,q9 q8a q8I q0X)] [(162,Tryz.f162)] [] 0
noncomputable def q2r:=qm qhv 162 Tryz.f162 true qaA qav
theorem qm7:qM Tryz.prog qa 162 (q9 qaA qav q2r):=sk qhv qc q8 (alc qk6 aln) aln (b1 Tryz.func162) Tryz.func162
def q4F:FIn:=⟨[(.ptr 0 0),.str,.str,.str],[.cells [(.int .i64)]]⟩
def q4G:List FOut:=[⟨(.int .i64),[.cells [(.int .i64)]],none⟩]
noncomputable def qf8:=qe [(162,q9 qaA qav q2r)] [(116,Tryz.f116)] [] 1
noncomputable def ju:=qm qf8 116 Tryz.f116 true q4F q4G
theorem qaN:qM Tryz.prog qa 116 (q9 q4F q4G ju):=sk qf8 qc q8 (alc qm7 aln) aln (b1 Tryz.func116) Tryz.func116
def q2Q:FIn:=⟨[(.ptr 0 0),(.agg [.str,.str,.str]),(.agg [.str,.str,.str,.str,.str])],[.cells [(.int .i64)]]⟩
def q34:List FOut:=[⟨.bool,[.cells [(.int .i64)]],none⟩]
noncomputable def qdC:=qe [(116,q9 q4F q4G ju),(117,q9 kC kJ qU),(118,q9 q1g q1i wI),(119,q9 q2f q28 zH),(141,q9 q2b q2i zI),(142,q9 q2c q29 qZ)] [(122,Tryz.f122)] [] 1
noncomputable def yH:=qm qdC 122 Tryz.f122 true q2Q q34
theorem q9U:qM Tryz.prog qa 122 (q9 q2Q q34 yH):=sk qdC qc q8 (alc qaN (alc q1N (alc q4W (alc q6h (alc q69 (alc q6j aln)))))) aln (b1 Tryz.func122) Tryz.func122
def wl:FIn:=⟨[(.ptr 0 0),(.imm [.str,.str,.str]),(.agg [(.int .i64),(.int .i64),(.int .i64)])],[.cells [(.int .i64)]]⟩
def wh:List FOut:=[⟨.bool,[.cells [(.int .i64)]],none⟩]
def q0q:Tmpl:={ t:=((.imm [.str,.str,.str])::(.fn 124 [] [(.ptr 4 0)])::qz 5 ((.int .i64)::(.int .i64)::qz 10 [])),h:=[.cells [(.int .i64)],.cells [(.ptr 0 0)],.cells [(.int .i64),(.int .i64),(.int .i64)],.cells [.str,.str,.str,.str,.str],.cells [(.fn 121 [] [(.ptr 1 0),(.ptr 3 0)])]],fs:=[[(.imm [.str,.str,.str]),(.fn 124 [] [(.ptr 4 0)]),.any,.any,(.blit false),(.imm [.str,.str,.str]),(.fn 124 [] [(.ptr 4 0)]),.any,.any],[(.ptr 0 0),(.imm [.str,.str,.str]),(.agg [(.int .i64),(.int .i64),(.int .i64)]),(.ptr 1 0),.any,(.ptr 2 0),(.blit false),(.ptr 3 0),.bool,(.ptr 4 0),(.tuple [(.agg [.str,.str,.str,.str,.str]),.bool]),(.ptr 0 0),(.imm [.str,.str,.str]),(.agg [(.int .i64),(.int .i64),(.int .i64)]),(.tuple [(.agg [.str,.str,.str,.str,.str]),.bool]),(.agg [.str,.str,.str,.str,.str]),.bool,(.fn 121 [] [(.ptr 1 0),(.ptr 3 0)]),.bool,(.blit true),(.imm [.str,.str,.str]),(.fn 124 [] [(.ptr 4 0)]),.any,.any,.any,.any,.any,.any,.any,.any,.any,.any],[]] }
def q0r:List Out:=[⟨(.exit 0),{ t:=(qz 19 []),h:=[.cells [(.int .i64)],.cells [(.ptr 0 0)],.cells [(.int .i64),(.int .i64),(.int .i64)],.cells [.str,.str,.str,.str,.str],.cells [(.fn 121 [] [(.ptr 1 0),(.ptr 3 0)])]],fs:=[[(.imm [.str,.str,.str]),(.fn 124 [] [(.ptr 4 0)]),.any,.any,(.blit false),(.imm [.str,.str,.str]),(.fn 124 [] [(.ptr 4 0)]),.any,.any],[(.ptr 0 0),(.imm [.str,.str,.str]),(.agg [(.int .i64),(.int .i64),(.int .i64)]),(.ptr 1 0),.any,(.ptr 2 0),(.blit false),(.ptr 3 0),.bool,(.ptr 4 0),(.tuple [(.agg [.str,.str,.str,.str,.str]),.bool]),(.ptr 0 0),(.imm [.str,.str,.str]),(.agg [(.int .i64),(.int .i64),(.int .i64)]),(.tuple [(.agg [.str,.str,.str,.str,.str]),.bool]),(.agg [.str,.str,.str,.str,.str]),.bool,(.fn 121 [] [(.ptr 1 0),(.ptr 3 0)]),.bool,(.blit true),(.imm [.str,.str,.str]),(.fn 124 [] [(.ptr 4 0)]),.any,.any,.any,.any,.any,.any,.any,.any,.any,.any],[]] }⟩,⟨.ret,{ t:=(qz 4 ((.int .i64)::qz 14 [])),h:=[.cells [(.int .i64)],.cells [(.ptr 0 0)],.cells [(.int .i64),(.int .i64),(.int .i64)],.cells [.str,.str,.str,.str,.str],.cells [(.fn 121 [] [(.ptr 1 0),(.ptr 3 0)])]],fs:=[[(.imm [.str,.str,.str]),(.fn 124 [] [(.ptr 4 0)]),.any,.any,(.blit false),(.imm [.str,.str,.str]),(.fn 124 [] [(.ptr 4 0)]),.any,.any],[(.ptr 0 0),(.imm [.str,.str,.str]),(.agg [(.int .i64),(.int .i64),(.int .i64)]),(.ptr 1 0),.any,(.ptr 2 0),(.blit false),(.ptr 3 0),.bool,(.ptr 4 0),(.tuple [(.agg [.str,.str,.str,.str,.str]),.bool]),(.ptr 0 0),(.imm [.str,.str,.str]),(.agg [(.int .i64),(.int .i64),(.int .i64)]),(.tuple [(.agg [.str,.str,.str,.str,.str]),.bool]),(.agg [.str,.str,.str,.str,.str]),.bool,(.fn 121 [] [(.ptr 1 0),(.ptr 3 0)]),.bool,(.blit true),(.imm [.str,.str,.str]),(.fn 124 [] [(.ptr 4 0)]),.any,.any,.any,.any,.any,.any,.any,.any,.any,.any],[]] }⟩]
noncomputable def jS:=qe [(120,q9 q2T q2R j1),(122,q9 q2Q q34 yH)] [(78,Tryz.f78),(121,Tryz.f121),(123,Tryz.f123),(124,Tryz.f124),(166,Tryz.f166)] [] 1
noncomputable def vb:=wk jS 166 Tryz.f166 3 q0q q0r
theorem qbE:ql Tryz.prog qa jS.nimp (qy Tryz.prog jS.iter 166) (z6 Tryz.f166 3) (qj q0q q0r (qf vb)):=
 gk jS qc q8 (alc q9F (alc q9U aln)) aln (alc (bk Tryz.func78) (alc (bk Tryz.func121) (alc (bk Tryz.func123) (alc (bk Tryz.func124) (alc (bk Tryz.func166) aln))))) Tryz.func166
noncomputable def qc2:=qe [(120,q9 q2T q2R j1),(122,q9 q2Q q34 yH)] [(78,Tryz.f78),(121,Tryz.f121),(123,Tryz.f123),(124,Tryz.f124),(166,Tryz.f166)] [((166,3),qj q0q q0r (qf vb))] 1
noncomputable def qS:=qm qc2 78 Tryz.f78 true wl wh
theorem wW:qM Tryz.prog qa 78 (q9 wl wh qS):=sk qc2 qc q8 (alc q9F (alc q9U aln)) (alc (lk Tryz.func166 qbE) aln) (alc (bk Tryz.func78) (alc (bk Tryz.func121) (alc (bk Tryz.func123) (alc (bk Tryz.func124) (alc (bk Tryz.func166) aln))))) Tryz.func78
def zh:FIn:=⟨[(.ptr 0 0),(.imm [.str,.str,.str])],[.cells [(.int .i64)]]⟩
def zj:List FOut:=[⟨(.tuple [(.agg [(.int .i64),(.int .i64),(.int .i64)]),.bool]),[.cells [(.int .i64)]],none⟩]
def q1v:Tmpl:={ t:=(.yld::(.ptr 5 0)::qz 6 ((.int .i64)::(.int .i64)::qz 35 [])),h:=[.cells [(.int .i64)],.cells [(.ptr 0 0)],.cells [(.imm [.str,.str,.str])],.cells [(.int .i64),(.int .i64),(.int .i64)],.cells [.bool],.cells [(.int .i64)]],fs:=[[.any,.any,(.ptr 1 0),(.ptr 2 0),(.ptr 3 0),(.ptr 4 0),.any,.any,.any,(.fn 143 [] [(.ptr 5 0)]),.any,.any,.any,.any,.any,.any,.any],[]] }
def q0T:List Out:=[⟨(.exit 0),{ t:=(.yld::(.ptr 5 0)::qz 43 []),h:=[.cells [(.int .i64)],.cells [(.ptr 0 0)],.cells [(.imm [.str,.str,.str])],.cells [(.int .i64),(.int .i64),(.int .i64)],.cells [.bool],.cells [(.int .i64)]],fs:=[[.any,.any,(.ptr 1 0),(.ptr 2 0),(.ptr 3 0),(.ptr 4 0),.any,.any,.any,(.fn 143 [] [(.ptr 5 0)]),.any,.any,.any,.any,.any,.any,.any],[]] }⟩,⟨.ret,{ t:=(qz 45 []),h:=[.cells [(.int .i64)],.cells [(.ptr 0 0)],.cells [(.imm [.str,.str,.str])],.cells [(.int .i64),(.int .i64),(.int .i64)],.cells [.bool],.cells [(.int .i64)]],fs:=[[.any,.any,(.ptr 1 0),(.ptr 2 0),(.ptr 3 0),(.ptr 4 0),.any,.any,.any,(.fn 143 [] [(.ptr 5 0)]),.any,.any,.any,.any,.any,.any,.any],[]],pend:=(.some .ret) }⟩]
noncomputable def yt:Env:={ tt:=q6k,glob:=qa,spec:=[(78,q9 wl wh qS)],body:=[(64,Tryz.f64),(100,Tryz.f100),(143,Tryz.f143)],loops:=[],nimp:=1,iter:=[(143,64,3)] }
noncomputable def vG:=qxu yt (some (64,Tryz.f64,3)) 143 Tryz.f143 2 q1v q0T
theorem qcx:ql Tryz.prog qa yt.nimp (qy Tryz.prog yt.iter 143) (z6 Tryz.f143 2) (qj q1v q0T (qf vG)):=
 q9Q (E:=yt) qc ⟨yj q8,(alc wW aln),aln,(alc (bk Tryz.func64) (alc (bk Tryz.func100) (alc (bk Tryz.func143) aln)))⟩ Tryz.func143 (by kernel_rfl) (y:=some (64,Tryz.f64,3)) ⟨Tryz.func64,by kernel_rfl⟩ (by kernel_rfl) (by kernel_rfl) (fun _=>rfl)
def q0n:Tmpl:={ t:=(.yld::(.ptr 5 0)::.any::.any::(.int .i64)::(.int .i64)::qz 13 ((.int .i64)::(.int .i64)::qz 9 ((.vec 6)::(.int .i64)::(.int .i64)::qz 12 []))),h:=[.cells [(.int .i64)],.cells [(.ptr 0 0)],.cells [(.imm [.str,.str,.str])],.cells [(.int .i64),(.int .i64),(.int .i64)],.cells [.bool],.cells [(.int .i64)],.vec 3 [(.int .i64)]],fs:=[[.any,.any,(.ptr 1 0),(.ptr 2 0),(.ptr 3 0),(.ptr 4 0),.any,.any,.any,(.fn 143 [] [(.ptr 5 0)]),.any,.any,.any,.any,.any,.any,.any],[]] }
def q0o:List Out:=[⟨(.exit 6),{ t:=(.yld::(.ptr 5 0)::.any::.any::(.int .i64)::(.int .i64)::qz 13 ((.int .i64)::(.int .i64)::qz 24 [])),h:=[.cells [(.int .i64)],.cells [(.ptr 0 0)],.cells [(.imm [.str,.str,.str])],.cells [(.int .i64),(.int .i64),(.int .i64)],.cells [.bool],.cells [(.int .i64)]],fs:=[[.any,.any,(.ptr 1 0),(.ptr 2 0),(.ptr 3 0),(.ptr 4 0),.any,.any,.any,(.fn 143 [] [(.ptr 5 0)]),.any,.any,.any,.any,.any,.any,.any],[]] }⟩,⟨.ret,{ t:=(qz 45 []),h:=[.cells [(.int .i64)],.cells [(.ptr 0 0)],.cells [(.imm [.str,.str,.str])],.cells [(.int .i64),(.int .i64),(.int .i64)],.cells [.bool],.cells [(.int .i64)]],fs:=[[.any,.any,(.ptr 1 0),(.ptr 2 0),(.ptr 3 0),(.ptr 4 0),.any,.any,.any,(.fn 143 [] [(.ptr 5 0)]),.any,.any,.any,.any,.any,.any,.any],[]],pend:=(.some .ret) }⟩]
noncomputable def jL:Env:={ tt:=q6k,glob:=qa,spec:=[(78,q9 wl wh qS)],body:=[(64,Tryz.f64),(100,Tryz.f100),(143,Tryz.f143)],loops:=[],nimp:=1,iter:=[(143,64,3)] }
noncomputable def vl:=qxu jL (some (64,Tryz.f64,3)) 143 Tryz.f143 20 q0n q0o
theorem qb5:ql Tryz.prog qa jL.nimp (qy Tryz.prog jL.iter 143) (z6 Tryz.f143 20) (qj q0n q0o (qf vl)):=
 q9Q (E:=jL) qc ⟨yj q8,(alc wW aln),aln,(alc (bk Tryz.func64) (alc (bk Tryz.func100) (alc (bk Tryz.func143) aln)))⟩ Tryz.func143 (by kernel_rfl) (y:=some (64,Tryz.f64,3)) ⟨Tryz.func64,by kernel_rfl⟩ (by kernel_rfl) (by kernel_rfl) (fun _=>rfl)
def q0a:Tmpl:={ t:=(.yld::(.ptr 5 0)::.any::.any::(.int .i64)::(.int .i64)::qz 13 ((.int .i64)::(.int .i64)::qz 24 [])),h:=[.cells [(.int .i64)],.cells [(.ptr 0 0)],.cells [(.imm [.str,.str,.str])],.cells [(.int .i64),(.int .i64),(.int .i64)],.cells [.bool],.cells [(.int .i64)]],fs:=[[.any,.any,(.ptr 1 0),(.ptr 2 0),(.ptr 3 0),(.ptr 4 0),.any,.any,.any,(.fn 143 [] [(.ptr 5 0)]),.any,.any,.any,.any,.any,.any,.any],[]] }
def q0i:List Out:=[⟨(.exit 4),{ t:=(.yld::(.ptr 5 0)::qz 17 ((.int .i64)::(.int .i64)::qz 24 [])),h:=[.cells [(.int .i64)],.cells [(.ptr 0 0)],.cells [(.imm [.str,.str,.str])],.cells [(.int .i64),(.int .i64),(.int .i64)],.cells [.bool],.cells [(.int .i64)]],fs:=[[.any,.any,(.ptr 1 0),(.ptr 2 0),(.ptr 3 0),(.ptr 4 0),.any,.any,.any,(.fn 143 [] [(.ptr 5 0)]),.any,.any,.any,.any,.any,.any,.any],[]] }⟩,⟨.ret,{ t:=(qz 45 []),h:=[.cells [(.int .i64)],.cells [(.ptr 0 0)],.cells [(.imm [.str,.str,.str])],.cells [(.int .i64),(.int .i64),(.int .i64)],.cells [.bool],.cells [(.int .i64)]],fs:=[[.any,.any,(.ptr 1 0),(.ptr 2 0),(.ptr 3 0),(.ptr 4 0),.any,.any,.any,(.fn 143 [] [(.ptr 5 0)]),.any,.any,.any,.any,.any,.any,.any],[]],pend:=(.some .ret) }⟩]
noncomputable def jH:Env:={ tt:=q6k,glob:=qa,spec:=[(78,q9 wl wh qS)],body:=[(64,Tryz.f64),(100,Tryz.f100),(143,Tryz.f143)],loops:=[((143,20),qj q0n q0o (qf vl))],nimp:=1,iter:=[(143,64,3)] }
noncomputable def vn:=qxu jH (some (64,Tryz.f64,3)) 143 Tryz.f143 15 q0a q0i
theorem qba:ql Tryz.prog qa jH.nimp (qy Tryz.prog jH.iter 143) (z6 Tryz.f143 15) (qj q0a q0i (qf vn)):=
 q9Q (E:=jH) qc ⟨yj q8,(alc wW aln),(alc (lk Tryz.func143 qb5) aln),(alc (bk Tryz.func64) (alc (bk Tryz.func100) (alc (bk Tryz.func143) aln)))⟩ Tryz.func143 (by kernel_rfl) (y:=some (64,Tryz.f64,3)) ⟨Tryz.func64,by kernel_rfl⟩ (by kernel_rfl) (by kernel_rfl) (fun _=>rfl)
def q11:Tmpl:={ t:=(.yld::(.ptr 5 0)::qz 17 ((.int .i64)::(.int .i64)::qz 24 [])),h:=[.cells [(.int .i64)],.cells [(.ptr 0 0)],.cells [(.imm [.str,.str,.str])],.cells [(.int .i64),(.int .i64),(.int .i64)],.cells [.bool],.cells [(.int .i64)]],fs:=[[.any,.any,(.ptr 1 0),(.ptr 2 0),(.ptr 3 0),(.ptr 4 0),.any,.any,.any,(.fn 143 [] [(.ptr 5 0)]),.any,.any,.any,.any,.any,.any,.any],[]] }
def q1f:List Out:=[⟨(.exit 2),{ t:=(qz 45 []),h:=[.cells [(.int .i64)],.cells [(.ptr 0 0)],.cells [(.imm [.str,.str,.str])],.cells [(.int .i64),(.int .i64),(.int .i64)],.cells [.bool],.cells [(.int .i64)]],fs:=[[.any,.any,(.ptr 1 0),(.ptr 2 0),(.ptr 3 0),(.ptr 4 0),.any,.any,.any,(.fn 143 [] [(.ptr 5 0)]),.any,.any,.any,.any,.any,.any,.any],[]] }⟩,⟨.ret,{ t:=(qz 45 []),h:=[.cells [(.int .i64)],.cells [(.ptr 0 0)],.cells [(.imm [.str,.str,.str])],.cells [(.int .i64),(.int .i64),(.int .i64)],.cells [.bool],.cells [(.int .i64)]],fs:=[[.any,.any,(.ptr 1 0),(.ptr 2 0),(.ptr 3 0),(.ptr 4 0),.any,.any,.any,(.fn 143 [] [(.ptr 5 0)]),.any,.any,.any,.any,.any,.any,.any],[]],pend:=(.some .ret) }⟩]
noncomputable def yF:Env:={ tt:=q6k,glob:=qa,spec:=[(78,q9 wl wh qS)],body:=[(64,Tryz.f64),(100,Tryz.f100),(143,Tryz.f143)],loops:=[((143,15),qj q0a q0i (qf vn))],nimp:=1,iter:=[(143,64,3)] }
noncomputable def vL:=qxu yF (some (64,Tryz.f64,3)) 143 Tryz.f143 9 q11 q1f
theorem qcr:ql Tryz.prog qa yF.nimp (qy Tryz.prog yF.iter 143) (z6 Tryz.f143 9) (qj q11 q1f (qf vL)):=
 q9Q (E:=yF) qc ⟨yj q8,(alc wW aln),(alc (lk Tryz.func143 qba) aln),(alc (bk Tryz.func64) (alc (bk Tryz.func100) (alc (bk Tryz.func143) aln)))⟩ Tryz.func143 (by kernel_rfl) (y:=some (64,Tryz.f64,3)) ⟨Tryz.func64,by kernel_rfl⟩ (by kernel_rfl) (by kernel_rfl) (fun _=>rfl)
noncomputable def qdI:Env:={ tt:=q6k,glob:=qa,spec:=[(78,q9 wl wh qS)],body:=[(64,Tryz.f64),(100,Tryz.f100),(143,Tryz.f143)],loops:=[((143,2),qj q1v q0T (qf vG)),((143,9),qj q11 q1f (qf vL))],nimp:=1,iter:=[(143,64,3)] }
noncomputable def qH:=qm qdI 64 Tryz.f64 true zh zj
theorem zi:qM Tryz.prog qa 64 (q9 zh zj qH):=sk qdI qc q8 (alc wW aln) (alc (lk Tryz.func143 qcx) (alc (lk Tryz.func143 qcr) aln)) (alc (bk Tryz.func64) (alc (bk Tryz.func100) (alc (bk Tryz.func143) aln))) Tryz.func64
def q3c:FIn:=⟨[(.imm [.str,.str,.str])],[]⟩
def q3V:List FOut:=[⟨(.tuple [(.imm [(.int .i64)]),(.int .i64)]),[],none⟩]
def yO:Tmpl:={ t:=(.any::(.ptr 0 0)::(.ptr 2 0)::.any::.any::(.vec 4)::qz 4 ((.vec 3)::(.int .i64)::(.int .i64)::qz 26 [])),h:=[.cells [(.imm [.str,.str,.str])],.cells [(.int .i64)],.cells [(.ptr 1 0)],.vec 3 [(.int .i64)],.vec 40 [.str,.str,.str]],pro:=[(5,40,[.str,.str,.str])],fs:=[[.any,(.ptr 0 0),.any,.any,.any,(.ptr 2 0),(.fn 63 [] [(.ptr 0 0),(.ptr 2 0)]),(.int .i64),(.int .i64),.any,.any,.any,.any,.any,.any,.any,.any,.any,.any,.any,.any,(.int .i64),(.int .i64),.any,.any,.any,.any,(.int .i64),(.imm [.str,.str,.str]),(.int .i64),(.blit true),.any,.any,(.fn 63 [] [(.ptr 0 0),(.ptr 2 0)]),(.int .i64),(.int .i64),(.vec 3),.any,.any,.any,.any,.any,.any,.any,.any,.any,.any,.any,.any,.any,.any,.any,.any,.any,.any,.any,.any,.any,.any,.any,.any,.any,.any,.any,.any,.any,.any,.any,.any,.any,.any,.any,.any,.any,.any,.any,.any,.any],[]] }
def yT:List Out:=[⟨(.exit 0),{ t:=(.any::.any::(.ptr 2 0)::.any::.any::(.vec 4)::qz 33 []),h:=[.cells [(.imm [.str,.str,.str])],.cells [(.int .i64)],.cells [(.ptr 1 0)],.vec 3 [(.int .i64)],.vec 40 [.str,.str,.str]],fs:=[[.any,(.ptr 0 0),.any,.any,.any,(.ptr 2 0),(.fn 63 [] [(.ptr 0 0),(.ptr 2 0)]),(.int .i64),(.int .i64),.any,.any,.any,.any,.any,.any,.any,.any,.any,.any,.any,.any,(.int .i64),(.int .i64),.any,.any,.any,.any,(.int .i64),(.imm [.str,.str,.str]),(.int .i64),(.blit true),.any,.any,(.fn 63 [] [(.ptr 0 0),(.ptr 2 0)]),(.int .i64),(.int .i64),(.vec 3),.any,.any,.any,.any,.any,.any,.any,.any,.any,.any,.any,.any,.any,.any,.any,.any,.any,.any,.any,.any,.any,.any,.any,.any,.any,.any,.any,.any,.any,.any,.any,.any,.any,.any,.any,.any,.any,.any,.any,.any,.any],[]] }⟩]
noncomputable def vu:=qe [(62,q9 je jf zx),(64,q9 zh zj qH)] [(17,Tryz.f17),(63,Tryz.f63)] [] 0
noncomputable def zd:=wk vu 63 Tryz.f63 4 yO yT
theorem q81:ql Tryz.prog qa vu.nimp (qy Tryz.prog vu.iter 63) (z6 Tryz.f63 4) (qj yO yT (qf zd)):=
 gk vu qc q8 (alc v7 (alc zi aln)) aln (alc (bk Tryz.func17) (alc (bk Tryz.func63) aln)) Tryz.func63
def q1n:Tmpl:={ t:=(.any::(.ptr 0 0)::.any::.any::.any::(.ptr 2 0)::(.fn 63 [] [(.ptr 0 0),(.ptr 2 0)])::(.int .i64)::(.int .i64)::qz 12 ((.int .i64)::(.int .i64)::qz 55 [])),h:=[.cells [(.imm [.str,.str,.str])],.cells [(.int .i64)],.cells [(.ptr 1 0)]] }
def q1b:List Out:=[⟨(.exit 2),{ t:=(.any::(.ptr 0 0)::.any::.any::.any::(.ptr 2 0)::(.fn 63 [] [(.ptr 0 0),(.ptr 2 0)])::qz 14 ((.int .i64)::(.int .i64)::qz 55 [])),h:=[.cells [(.imm [.str,.str,.str])],.cells [(.int .i64)],.cells [(.ptr 1 0)]] }⟩,⟨.ret,{ t:=(.any::.any::(.vec 6)::(.int .i64)::qz 74 []),h:=[.dead,.dead,.dead,.dead,.dead,.dead,.vec 3 [(.int .i64)]] }⟩]
noncomputable def yv:=qe [(62,q9 je jf zx),(64,q9 zh zj qH)] [(17,Tryz.f17),(63,Tryz.f63)] [((63,4),qj yO yT (qf zd))] 0
noncomputable def vM:=wk yv 17 Tryz.f17 15 q1n q1b
theorem qcR:ql Tryz.prog qa yv.nimp (qy Tryz.prog yv.iter 17) (z6 Tryz.f17 15) (qj q1n q1b (qf vM)):=
 gk yv qc q8 (alc v7 (alc zi aln)) (alc (lk Tryz.func63 q81) aln) (alc (bk Tryz.func17) (alc (bk Tryz.func63) aln)) Tryz.func17
def q1C:Tmpl:={ t:=(.any::(.ptr 0 0)::.any::.any::.any::(.ptr 2 0)::(.fn 63 [] [(.ptr 0 0),(.ptr 2 0)])::qz 14 ((.int .i64)::(.int .i64)::qz 55 [])),h:=[.cells [(.imm [.str,.str,.str])],.cells [(.int .i64)],.cells [(.ptr 1 0)]] }
def q1W:List Out:=[⟨(.exit 0),{ t:=(.any::(.ptr 0 0)::.any::.any::.any::(.ptr 2 0)::(.fn 63 [] [(.ptr 0 0),(.ptr 2 0)])::qz 71 []),h:=[.cells [(.imm [.str,.str,.str])],.cells [(.int .i64)],.cells [(.ptr 1 0)]] }⟩,⟨.ret,{ t:=(.any::.any::(.vec 6)::(.int .i64)::qz 74 []),h:=[.dead,.dead,.dead,.dead,.dead,.dead,.vec 3 [(.int .i64)]] }⟩]
noncomputable def uc:=qe [(62,q9 je jf zx),(64,q9 zh zj qH)] [(17,Tryz.f17),(63,Tryz.f63)] [((17,15),qj q1n q1b (qf vM))] 0
noncomputable def j8:=wk uc 17 Tryz.f17 9 q1C q1W
theorem qdf:ql Tryz.prog qa uc.nimp (qy Tryz.prog uc.iter 17) (z6 Tryz.f17 9) (qj q1C q1W (qf j8)):=
 gk uc qc q8 (alc v7 (alc zi aln)) (alc (lk Tryz.func17 qcR) aln) (alc (bk Tryz.func17) (alc (bk Tryz.func63) aln)) Tryz.func17
def yM:Tmpl:={ t:=(.any::(.ptr 0 0)::(.ptr 2 0)::.any::.any::(.vec 4)::qz 4 ((.vec 3)::(.int .i64)::(.int .i64)::qz 26 [])),h:=[.cells [(.imm [.str,.str,.str])],.cells [(.int .i64)],.cells [(.ptr 1 0)],.vec 3 [(.int .i64)],.vec 40 [.str,.str,.str]],pro:=[(5,40,[.str,.str,.str])],fs:=[[.any,(.ptr 0 0),.any,.any,.any,(.ptr 2 0),(.fn 63 [] [(.ptr 0 0),(.ptr 2 0)]),.any,.any,(.int .i64),(.int .i64),(.int .i64),.any,.any,.any,.any,.any,.any,.any,.any,.any,.any,.any,.any,.any,.any,.any,.any,.any,.any,.any,.any,.any,.any,.any,.any,.any,.any,.any,.any,.any,.any,.any,(.int .i64),(.int .i64),.any,.any,.any,.any,.any,.any,.any,.any,.any,.any,.any,.any,(.int .i64),(.imm [.str,.str,.str]),(.int .i64),(.blit true),.any,.any,(.fn 63 [] [(.ptr 0 0),(.ptr 2 0)]),(.int .i64),(.int .i64),(.int .i64),(.vec 3),.any,.any,.any,.any,.any,.any,.any,.any,.any,.any],[]] }
def yP:List Out:=[⟨(.exit 0),{ t:=(.any::.any::(.ptr 2 0)::.any::.any::(.vec 4)::qz 33 []),h:=[.cells [(.imm [.str,.str,.str])],.cells [(.int .i64)],.cells [(.ptr 1 0)],.vec 3 [(.int .i64)],.vec 40 [.str,.str,.str]],fs:=[[.any,(.ptr 0 0),.any,.any,.any,(.ptr 2 0),(.fn 63 [] [(.ptr 0 0),(.ptr 2 0)]),.any,.any,(.int .i64),(.int .i64),(.int .i64),.any,.any,.any,.any,.any,.any,.any,.any,.any,.any,.any,.any,.any,.any,.any,.any,.any,.any,.any,.any,.any,.any,.any,.any,.any,.any,.any,.any,.any,.any,.any,(.int .i64),(.int .i64),.any,.any,.any,.any,.any,.any,.any,.any,.any,.any,.any,.any,(.int .i64),(.imm [.str,.str,.str]),(.int .i64),(.blit true),.any,.any,(.fn 63 [] [(.ptr 0 0),(.ptr 2 0)]),(.int .i64),(.int .i64),(.int .i64),(.vec 3),.any,.any,.any,.any,.any,.any,.any,.any,.any,.any],[]] }⟩]
noncomputable def vq:=qe [(62,q9 je jf zx),(64,q9 zh zj qH)] [(17,Tryz.f17),(63,Tryz.f63)] [] 0
noncomputable def zb:=wk vq 63 Tryz.f63 4 yM yP
theorem q82:ql Tryz.prog qa vq.nimp (qy Tryz.prog vq.iter 63) (z6 Tryz.f63 4) (qj yM yP (qf zb)):=
 gk vq qc q8 (alc v7 (alc zi aln)) aln (alc (bk Tryz.func17) (alc (bk Tryz.func63) aln)) Tryz.func63
def q19:Tmpl:={ t:=(.any::(.ptr 0 0)::.any::.any::.any::(.ptr 2 0)::(.fn 63 [] [(.ptr 0 0),(.ptr 2 0)])::.any::.any::(.int .i64)::(.int .i64)::(.int .i64)::qz 31 ((.int .i64)::(.int .i64)::qz 33 [])),h:=[.cells [(.imm [.str,.str,.str])],.cells [(.int .i64)],.cells [(.ptr 1 0)]] }
def q18:List Out:=[⟨(.exit 8),{ t:=(.any::(.ptr 0 0)::.any::.any::.any::(.ptr 2 0)::(.fn 63 [] [(.ptr 0 0),(.ptr 2 0)])::.any::.any::(.int .i64)::(.int .i64)::qz 32 ((.int .i64)::(.int .i64)::qz 33 [])),h:=[.cells [(.imm [.str,.str,.str])],.cells [(.int .i64)],.cells [(.ptr 1 0)]] }⟩,⟨.ret,{ t:=(.any::.any::(.vec 6)::(.int .i64)::qz 74 []),h:=[.dead,.dead,.dead,.dead,.dead,.dead,.vec 3 [(.int .i64)]] }⟩]
noncomputable def yJ:=qe [(62,q9 je jf zx),(64,q9 zh zj qH)] [(17,Tryz.f17),(63,Tryz.f63)] [((63,4),qj yM yP (qf zb))] 0
noncomputable def vF:=wk yJ 17 Tryz.f17 34 q19 q18
theorem qcE:ql Tryz.prog qa yJ.nimp (qy Tryz.prog yJ.iter 17) (z6 Tryz.f17 34) (qj q19 q18 (qf vF)):=
 gk yJ qc q8 (alc v7 (alc zi aln)) (alc (lk Tryz.func63 q82) aln) (alc (bk Tryz.func17) (alc (bk Tryz.func63) aln)) Tryz.func17
def q1u:Tmpl:={ t:=(.any::(.ptr 0 0)::.any::.any::.any::(.ptr 2 0)::(.fn 63 [] [(.ptr 0 0),(.ptr 2 0)])::.any::.any::(.int .i64)::(.int .i64)::qz 32 ((.int .i64)::(.int .i64)::qz 33 [])),h:=[.cells [(.imm [.str,.str,.str])],.cells [(.int .i64)],.cells [(.ptr 1 0)]] }
def q0W:List Out:=[⟨(.exit 6),{ t:=(.any::(.ptr 0 0)::.any::.any::.any::(.ptr 2 0)::(.fn 63 [] [(.ptr 0 0),(.ptr 2 0)])::qz 36 ((.int .i64)::(.int .i64)::qz 33 [])),h:=[.cells [(.imm [.str,.str,.str])],.cells [(.int .i64)],.cells [(.ptr 1 0)]] }⟩,⟨.ret,{ t:=(.any::.any::(.vec 6)::(.int .i64)::qz 74 []),h:=[.dead,.dead,.dead,.dead,.dead,.dead,.vec 3 [(.int .i64)]] }⟩]
noncomputable def yB:=qe [(62,q9 je jf zx),(64,q9 zh zj qH)] [(17,Tryz.f17),(63,Tryz.f63)] [((17,34),qj q19 q18 (qf vF))] 0
noncomputable def vR:=wk yB 17 Tryz.f17 29 q1u q0W
theorem qcC:ql Tryz.prog qa yB.nimp (qy Tryz.prog yB.iter 17) (z6 Tryz.f17 29) (qj q1u q0W (qf vR)):=
 gk yB qc q8 (alc v7 (alc zi aln)) (alc (lk Tryz.func17 qcE) aln) (alc (bk Tryz.func17) (alc (bk Tryz.func63) aln)) Tryz.func17
def q1q:Tmpl:={ t:=(.any::(.ptr 0 0)::.any::.any::.any::(.ptr 2 0)::(.fn 63 [] [(.ptr 0 0),(.ptr 2 0)])::qz 36 ((.int .i64)::(.int .i64)::qz 33 [])),h:=[.cells [(.imm [.str,.str,.str])],.cells [(.int .i64)],.cells [(.ptr 1 0)]] }
def q12:List Out:=[⟨(.exit 4),{ t:=(qz 5 ((.ptr 2 0)::qz 72 [])),h:=[.dead,.cells [(.int .i64)],.cells [(.ptr 1 0)]] }⟩,⟨.ret,{ t:=(.any::.any::(.vec 6)::(.int .i64)::qz 74 []),h:=[.dead,.dead,.dead,.dead,.dead,.dead,.vec 3 [(.int .i64)]] }⟩]
noncomputable def yx:=qe [(62,q9 je jf zx),(64,q9 zh zj qH)] [(17,Tryz.f17),(63,Tryz.f63)] [((17,29),qj q1u q0W (qf vR))] 0
noncomputable def vP:=wk yx 17 Tryz.f17 23 q1q q12
theorem qc4:ql Tryz.prog qa yx.nimp (qy Tryz.prog yx.iter 17) (z6 Tryz.f17 23) (qj q1q q12 (qf vP)):=
 gk yx qc q8 (alc v7 (alc zi aln)) (alc (lk Tryz.func17 qcC) aln) (alc (bk Tryz.func17) (alc (bk Tryz.func63) aln)) Tryz.func17
noncomputable def q9x:=qe [(62,q9 je jf zx),(64,q9 zh zj qH)] [(17,Tryz.f17),(63,Tryz.f63)] [((17,9),qj q1C q1W (qf j8)),((17,23),qj q1q q12 (qf vP))] 0
noncomputable def ye:=qm q9x 17 Tryz.f17 true q3c q3V
theorem qfJ:qM Tryz.prog qa 17 (q9 q3c q3V ye):=sk q9x qc q8 (alc v7 (alc zi aln)) (alc (lk Tryz.func17 qdf) (alc (lk Tryz.func17 qc4) aln)) (alc (bk Tryz.func17) (alc (bk Tryz.func63) aln)) Tryz.func17
def q90:FIn:=⟨[(.imm [.str,.str,.str])],[]⟩
def q8P:List FOut:=[⟨(.tuple [.bool,(.agg [(.int .i64),(.int .i64),(.int .i64)]),(.int .i64)]),[],none⟩]
noncomputable def qlg:=qe [(62,q9 je jf zx),(64,q9 zh zj qH)] [(23,Tryz.f23)] [] 0
noncomputable def q0s:=qm qlg 23 Tryz.f23 true q90 q8P
theorem qfu:qM Tryz.prog qa 23 (q9 q90 q8P q0s):=sk qlg qc q8 (alc v7 (alc zi aln)) aln (b1 Tryz.func23) Tryz.func23
def kl:FIn:=⟨[(.imm [(.int .i64)]),(.imm [(.int .i64)])],[]⟩
def km:List FOut:=[⟨.bool,[],none⟩]
def q1a:Tmpl:={ t:=((.imm [(.int .i64)])::(.imm [(.int .i64)])::qz 10 ((.int .i64)::(.int .i64)::qz 12 [])),h:=[] }
def q16:List Out:=[⟨(.exit 0),{ t:=(qz 26 []),h:=[] }⟩,⟨.ret,{ t:=(qz 4 (.bool::qz 21 [])),h:=[] }⟩]
noncomputable def yG:=qe [] [(50,Tryz.f50)] [] 0
noncomputable def vO:=wk yG 50 Tryz.f50 6 q1a q16
theorem qct:ql Tryz.prog qa yG.nimp (qy Tryz.prog yG.iter 50) (z6 Tryz.f50 6) (qj q1a q16 (qf vO)):=
 gk yG qc q8 aln aln (b1 Tryz.func50) Tryz.func50
noncomputable def q86:=qe [] [(50,Tryz.f50)] [((50,6),qj q1a q16 (qf vO))] 0
noncomputable def zW:=qm q86 50 Tryz.f50 true kl km
theorem q5v:qM Tryz.prog qa 50 (q9 kl km zW):=sk q86 qc q8 aln (alc (lk Tryz.func50 qct) aln) (b1 Tryz.func50) Tryz.func50
def q3a:FIn:=⟨[(.ptr 0 0),.str,.str],[.cells [(.int .i64)]]⟩
def q30:List FOut:=[⟨(.int .i64),[.cells [(.int .i64)]],none⟩]
noncomputable def qdw:=qe [(116,q9 q4F q4G ju),(117,q9 kC kJ qU)] [(76,Tryz.f76)] [] 1
noncomputable def yD:=qm qdw 76 Tryz.f76 true q3a q30
theorem q9p:qM Tryz.prog qa 76 (q9 q3a q30 yD):=sk qdw qc q8 (alc qaN (alc q1N aln)) aln (b1 Tryz.func76) Tryz.func76
def q5P:FIn:=⟨[(.ptr 0 0),(.agg [.str,.str]),(.agg [.str,.str])],[.cells [(.int .i64)]]⟩
def q5K:List FOut:=[⟨.str,[.cells [(.int .i64)]],none⟩]
noncomputable def qhS:=qe [(118,q9 q1g q1i wI),(119,q9 q2f q28 zH)] [(77,Tryz.f77)] [] 1
noncomputable def yK:=qm qhS 77 Tryz.f77 true q5P q5K
theorem qbW:qM Tryz.prog qa 77 (q9 q5P q5K yK):=sk qhS qc q8 (alc q4W (alc q6h aln)) aln (b1 Tryz.func77) Tryz.func77
def qbF:FIn:=⟨[.str],[]⟩
def qbt:List FOut:=[⟨(.int .i64),[],none⟩]
def qcs:Tmpl:={ t:=(.str::.any::.any::(.int .i64)::qz 11 []),h:=[] }
def qcN:List Out:=[⟨(.exit 0),{ t:=(qz 15 []),h:=[] }⟩,⟨.ret,{ t:=(.any::.any::(.int .i64)::qz 12 []),h:=[] }⟩]
noncomputable def q7S:=qe [] [(93,Tryz.f93)] [] 0
noncomputable def q3d:=wk q7S 93 Tryz.f93 3 qcs qcN
theorem qnn:ql Tryz.prog qa q7S.nimp (qy Tryz.prog q7S.iter 93) (z6 Tryz.f93 3) (qj qcs qcN (qf q3d)):=
 gk q7S qc q8 aln aln (b1 Tryz.func93) Tryz.func93
noncomputable def qnu:=qe [] [(93,Tryz.f93)] [((93,3),qj qcs qcN (qf q3d))] 0
noncomputable def q1X:=qm qnu 93 Tryz.f93 true qbF qbt
theorem qhr:qM Tryz.prog qa 93 (q9 qbF qbt q1X):=sk qnu qc q8 aln (alc (lk Tryz.func93 qnn) aln) (b1 Tryz.func93) Tryz.func93
def q4l:FIn:=⟨[.str],[]⟩
def q4o:List FOut:=[⟨(.tuple [.str,.str]),[],none⟩]
noncomputable def qn2:=qe [(93,q9 qbF qbt q1X)] [(86,Tryz.f86)] [] 0
noncomputable def wB:=qm qn2 86 Tryz.f86 true q4l q4o
theorem q5X:qM Tryz.prog qa 86 (q9 q4l q4o wB):=sk qn2 qc q8 (alc qhr aln) aln (b1 Tryz.func86) Tryz.func86
def wQ:FIn:=⟨[.str],[]⟩
def wR:List FOut:=[⟨.str,[],none⟩]
noncomputable def qqc:=qe [] [(108,Tryz.f108)] [] 0
noncomputable def qx:=qm qqc 108 Tryz.f108 true wQ wR
theorem zG:qM Tryz.prog qa 108 (q9 wQ wR qx):=sk qqc qc q8 aln aln (b1 Tryz.func108) Tryz.func108
def qga:FIn:=⟨[.str],[]⟩
def qgy:List FOut:=[⟨(.int .i64),[],none⟩]
def qcy:Tmpl:={ t:=(.any::.any::.any::.str::(.int .i64)::qz 38 []),h:=[] }
def qcQ:List Out:=[⟨(.exit 0),{ t:=(.any::.any::.any::.str::qz 39 []),h:=[] }⟩,⟨.ret,{ t:=(.any::.any::(.int .i64)::qz 40 []),h:=[] }⟩]
noncomputable def q7K:=qe [(108,q9 wQ wR qx)] [(92,Tryz.f92)] [] 0
noncomputable def q1l:=wk q7K 92 Tryz.f92 7 qcy qcQ
theorem qmZ:ql Tryz.prog qa q7K.nimp (qy Tryz.prog q7K.iter 92) (z6 Tryz.f92 7) (qj qcy qcQ (qf q1l)):=
 gk q7K qc q8 (alc zG aln) aln (b1 Tryz.func92) Tryz.func92
noncomputable def qoi:=qe [(108,q9 wQ wR qx)] [(92,Tryz.f92)] [((92,7),qj qcy qcQ (qf q1l))] 0
noncomputable def q4g:=qm qoi 92 Tryz.f92 true qga qgy
theorem qqZ:qM Tryz.prog qa 92 (q9 qga qgy q4g):=sk qoi qc q8 (alc zG aln) (alc (lk Tryz.func92 qmZ) aln) (b1 Tryz.func92) Tryz.func92
def jC:FIn:=⟨[.str],[]⟩
def jz:List FOut:=[⟨.bool,[],none⟩]
noncomputable def qo6:=qe [] [(104,Tryz.f104)] [] 0
noncomputable def qF:=qm qo6 104 Tryz.f104 true jC jz
theorem jj:qM Tryz.prog qa 104 (q9 jC jz qF):=sk qo6 qc q8 aln aln (b1 Tryz.func104) Tryz.func104
def jA:FIn:=⟨[.str,.bool],[]⟩
def jD:List FOut:=[⟨.str,[],none⟩]
noncomputable def ql8:=qe [] [(109,Tryz.f109)] [] 0
noncomputable def qN:=qm ql8 109 Tryz.f109 true jA jD
theorem js:qM Tryz.prog qa 109 (q9 jA jD qN):=sk ql8 qc q8 aln aln (b1 Tryz.func109) Tryz.func109
def uC:FIn:=⟨[.str],[]⟩
def uA:List FOut:=[⟨.str,[],none⟩]
noncomputable def qkw:=qe [(104,q9 jC jz qF),(108,q9 wQ wR qx),(109,q9 jA jD qN)] [(105,Tryz.f105)] [] 0
noncomputable def zP:=qm qkw 105 Tryz.f105 true uC uA
theorem uG:qM Tryz.prog qa 105 (q9 uC uA zP):=sk qkw qc q8 (alc jj (alc zG (alc js aln))) aln (b1 Tryz.func105) Tryz.func105
def qgj:FIn:=⟨[(.int .i64)],[]⟩
def qha:List FOut:=[⟨.str,[],none⟩]
def qh6:Tmpl:={ t:=((.int .i64)::.any::.any::.str::qz 33 []),h:=[] }
def qgt:List Out:=[⟨(.exit 0),{ t:=((.int .i64)::.any::.any::.str::qz 33 []),h:=[] }⟩]
noncomputable def qbv:=qe [(105,q9 uC uA zP)] [] [] 0
noncomputable def q6Z:=wk qbv 73 Tryz.f73 9 qh6 qgt
theorem qqy:ql Tryz.prog qa qbv.nimp (qy Tryz.prog qbv.iter 73) (z6 Tryz.f73 9) (qj qh6 qgt (qf q6Z)):=
 gk qbv qc q8 (alc uG aln) aln aln Tryz.func73
noncomputable def qrF:=qe [(105,q9 uC uA zP)] [] [((73,9),qj qh6 qgt (qf q6Z))] 0
noncomputable def q6m:=qm qrF 73 Tryz.f73 true qgj qha
theorem qkI:qM Tryz.prog qa 73 (q9 qgj qha q6m):=sk qrF qc q8 (alc uG aln) (alc (lk Tryz.func73 qqy) aln) aln Tryz.func73
def q2E:FIn:=⟨[(.int .i64)],[]⟩
def q2z:List FOut:=[⟨.str,[],none⟩]
def qiZ:Tmpl:={ t:=((.int .i64)::.any::.any::.str::qz 33 []),h:=[] }
def qis:List Out:=[⟨(.exit 0),{ t:=((.int .i64)::.any::.any::.str::qz 33 []),h:=[] }⟩]
noncomputable def qdN:=qe [(73,q9 qgj qha q6m),(105,q9 uC uA zP)] [] [] 0
noncomputable def q9j:=wk qdN 73 Tryz.f73 9 qiZ qis
theorem qsB:ql Tryz.prog qa qdN.nimp (qy Tryz.prog qdN.iter 73) (z6 Tryz.f73 9) (qj qiZ qis (qf q9j)):=
 gk qdN qc q8 (alc qkI (alc uG aln)) aln aln Tryz.func73
noncomputable def qv9:=qe [(73,q9 qgj qha q6m),(105,q9 uC uA zP)] [] [((73,9),qj qiZ qis (qf q9j))] 0
noncomputable def ze:=qm qv9 73 Tryz.f73 true q2E q2z
theorem q05:qM Tryz.prog qa 73 (q9 q2E q2z ze):=sk qv9 qc q8 (alc qkI (alc uG aln)) (alc (lk Tryz.func73 qsB) aln) aln Tryz.func73
def qeu:FIn:=⟨[.str],[]⟩
def qe0:List FOut:=[⟨(.int .i64),[],none⟩]
def qaf:Tmpl:={ t:=(.str::.any::.any::(.int .i64)::.str::(.int .i64)::qz 21 []),h:=[] }
def qa7:List Out:=[⟨(.exit 0),{ t:=(.str::.any::.any::(.int .i64)::qz 23 []),h:=[] }⟩]
noncomputable def q5Y:=qe [(104,q9 jC jz qF),(108,q9 wQ wR qx)] [(148,Tryz.f148)] [] 0
noncomputable def kI:=wk q5Y 148 Tryz.f148 4 qaf qa7
theorem qlm:ql Tryz.prog qa q5Y.nimp (qy Tryz.prog q5Y.iter 148) (z6 Tryz.f148 4) (qj qaf qa7 (qf kI)):=
 gk q5Y qc q8 (alc jj (alc zG aln)) aln (b1 Tryz.func148) Tryz.func148
noncomputable def qkO:=qe [(104,q9 jC jz qF),(108,q9 wQ wR qx)] [(148,Tryz.f148)] [((148,4),qj qaf qa7 (qf kI))] 0
noncomputable def uD:=qm qkO 148 Tryz.f148 true qeu qe0
theorem qp0:qM Tryz.prog qa 148 (q9 qeu qe0 uD):=sk qkO qc q8 (alc jj (alc zG aln)) (alc (lk Tryz.func148 qlm) aln) (b1 Tryz.func148) Tryz.func148
def kM:FIn:=⟨[.str,.str],[]⟩
def q04:List FOut:=[⟨(.tuple [(.int .i64),(.int .i64),.bool]),[],none⟩]
noncomputable def qn9:=qe [(108,q9 wQ wR qx),(148,q9 qeu qe0 uD)] [(107,Tryz.f107)] [] 0
noncomputable def wF:=qm qn9 107 Tryz.f107 true kM q04
theorem kz:qM Tryz.prog qa 107 (q9 kM q04 wF):=sk qn9 qc q8 (alc zG (alc qp0 aln)) aln (b1 Tryz.func107) Tryz.func107
def qdr:FIn:=⟨[.str,(.int .i64)],[]⟩
def qdp:List FOut:=[⟨.str,[],none⟩]
def qeD:Tmpl:={ t:=(.str::(.int .i64)::.any::.any::.any::(.vec 0)::(.int .i64)::qz 20 []),h:=[.vec 5 [(.int .u8)]] }
def qeq:List Out:=[⟨(.exit 0),{ t:=(.str::(.int .i64)::.any::.any::.any::(.vec 0)::qz 21 []),h:=[.vec 5 [(.int .u8)]] }⟩]
noncomputable def q8Y:=qe [] [(149,Tryz.f149)] [] 0
noncomputable def q2A:=wk q8Y 149 Tryz.f149 4 qeD qeq
theorem qoX:ql Tryz.prog qa q8Y.nimp (qy Tryz.prog q8Y.iter 149) (z6 Tryz.f149 4) (qj qeD qeq (qf q2A)):=
 gk q8Y qc q8 aln aln (b1 Tryz.func149) Tryz.func149
noncomputable def qpO:=qe [] [(149,Tryz.f149)] [((149,4),qj qeD qeq (qf q2A))] 0
noncomputable def q3t:=qm qpO 149 Tryz.f149 true qdr qdp
theorem qiO:qM Tryz.prog qa 149 (q9 qdr qdp q3t):=sk qpO qc q8 aln (alc (lk Tryz.func149 qoX) aln) (b1 Tryz.func149) Tryz.func149
def q9h:FIn:=⟨[(.int .u8),(.int .u8),(.int .i64),.bool],[]⟩
def q9d:List FOut:=[⟨(.tuple [(.int .u8),(.int .i64)]),[],none⟩]
noncomputable def qkB:=qe [] [(150,Tryz.f150)] [] 0
noncomputable def q2y:=qm qkB 150 Tryz.f150 true q9h q9d
theorem qf7:qM Tryz.prog qa 150 (q9 q9h q9d q2y):=sk qkB qc q8 aln aln (b1 Tryz.func150) Tryz.func150
def yg:FIn:=⟨[.str],[]⟩
def jY:List FOut:=[⟨.str,[],none⟩]
def qew:Tmpl:={ t:=(.str::qz 13 []),h:=[] }
def qe8:List Out:=[⟨(.exit 0),{ t:=(.str::qz 13 []),h:=[] }⟩]
noncomputable def q8Z:=qe [] [(151,Tryz.f151)] [] 0
noncomputable def q5d:=wk q8Z 151 Tryz.f151 2 qew qe8
theorem qp7:ql Tryz.prog qa q8Z.nimp (qy Tryz.prog q8Z.iter 151) (z6 Tryz.f151 2) (qj qew qe8 (qf q5d)):=
 gk q8Z qc q8 aln aln (b1 Tryz.func151) Tryz.func151
noncomputable def qpX:=qe [] [(151,Tryz.f151)] [((151,2),qj qew qe8 (qf q5d))] 0
noncomputable def zS:=qm qpX 151 Tryz.f151 true yg jY
theorem j6:qM Tryz.prog qa 151 (q9 yg jY zS):=sk qpX qc q8 aln (alc (lk Tryz.func151 qp7) aln) (b1 Tryz.func151) Tryz.func151
def q3Y:FIn:=⟨[.str,.str,.bool],[]⟩
def q44:List FOut:=[⟨.str,[],none⟩]
def qcz:Tmpl:={ t:=(.str::.str::.bool::qz 5 ((.vec 0)::(.int .i64)::(.int .i64)::qz 38 [])),h:=[.vec 5 [(.int .u8)]] }
def qd4:List Out:=[⟨(.exit 0),{ t:=(qz 8 ((.vec 0)::qz 40 [])),h:=[.vec 5 [(.int .u8)]] }⟩]
noncomputable def q7C:=qe [(149,q9 qdr qdp q3t),(150,q9 q9h q9d q2y),(151,q9 yg jY zS)] [(110,Tryz.f110)] [] 0
noncomputable def q1j:=wk q7C 110 Tryz.f110 7 qcz qd4
theorem qnN:ql Tryz.prog qa q7C.nimp (qy Tryz.prog q7C.iter 110) (z6 Tryz.f110 7) (qj qcz qd4 (qf q1j)):=
 gk q7C qc q8 (alc qiO (alc qf7 (alc j6 aln))) aln (b1 Tryz.func110) Tryz.func110
noncomputable def qos:=qe [(149,q9 qdr qdp q3t),(150,q9 q9h q9d q2y),(151,q9 yg jY zS)] [(110,Tryz.f110)] [((110,7),qj qcz qd4 (qf q1j))] 0
noncomputable def j0:=qm qos 110 Tryz.f110 true q3Y q44
theorem q5I:qM Tryz.prog qa 110 (q9 q3Y q44 j0):=sk qos qc q8 (alc qiO (alc qf7 (alc j6 aln))) (alc (lk Tryz.func110 qnN) aln) (b1 Tryz.func110) Tryz.func110
def q6w:FIn:=⟨[.str,.str],[]⟩
def q6x:List FOut:=[⟨.bool,[],none⟩]
noncomputable def qq6:=qe [] [(111,Tryz.f111)] [] 0
noncomputable def kV:=qm qq6 111 Tryz.f111 true q6w q6x
theorem q7j:qM Tryz.prog qa 111 (q9 q6w q6x kV):=sk qq6 qc q8 aln aln (b1 Tryz.func111) Tryz.func111
def qdZ:FIn:=⟨[.str,.str],[]⟩
def qdl:List FOut:=[⟨.str,[],none⟩]
noncomputable def qqg:=qe [(73,q9 q2E q2z ze),(104,q9 jC jz qF),(107,q9 kM q04 wF),(108,q9 wQ wR qx),(109,q9 jA jD qN),(110,q9 q3Y q44 j0),(111,q9 q6w q6x kV)] [(72,Tryz.f72)] [] 0
noncomputable def q3n:=qm qqg 72 Tryz.f72 true qdZ qdl
theorem qin:qM Tryz.prog qa 72 (q9 qdZ qdl q3n):=sk qqg qc q8 (alc q05 (alc jj (alc kz (alc zG (alc js (alc q5I (alc q7j aln))))))) aln (b1 Tryz.func72) Tryz.func72
def q6L:FIn:=⟨[.str,.str],[]⟩
def q7X:List FOut:=[⟨.str,[],none⟩]
noncomputable def qmK:=qe [(72,q9 qdZ qdl q3n),(105,q9 uC uA zP)] [(96,Tryz.f96)] [] 0
noncomputable def vz:=qm qmK 96 Tryz.f96 true q6L q7X
theorem qas:qM Tryz.prog qa 96 (q9 q6L q7X vz):=sk qmK qc q8 (alc qin (alc uG aln)) aln (b1 Tryz.func96) Tryz.func96
def q6F:FIn:=⟨[.str,.str],[]⟩
def q7W:List FOut:=[⟨(.int .i64),[],none⟩]
noncomputable def qnC:=qe [(96,q9 q6L q7X vz),(104,q9 jC jz qF)] [(94,Tryz.f94)] [] 0
noncomputable def ua:=qm qnC 94 Tryz.f94 true q6F q7W
theorem qaG:qM Tryz.prog qa 94 (q9 q6F q7W ua):=sk qnC qc q8 (alc qas (alc jj aln)) aln (b1 Tryz.func94) Tryz.func94
def qcf:FIn:=⟨[.str,.str],[]⟩
def qcI:List FOut:=[⟨.str,[],none⟩]
def q8w:Tmpl:={ t:=(.str::.str::.any::.any::.any::(.vec 0)::(.int .i64)::(.int .i64)::qz 69 []),h:=[.vec 3 [(.int .i64)]] }
def q8z:List Out:=[⟨(.exit 2),{ t:=(.str::.str::.any::.any::.any::(.vec 0)::(.int .i64)::qz 70 []),h:=[.vec 3 [(.int .i64)]] }⟩]
noncomputable def q4a:=qe [(151,q9 yg jY zS)] [(146,Tryz.f146)] [] 0
noncomputable def uJ:=wk q4a 146 Tryz.f146 9 q8w q8z
theorem qk4:ql Tryz.prog qa q4a.nimp (qy Tryz.prog q4a.iter 146) (z6 Tryz.f146 9) (qj q8w q8z (qf uJ)):=
 gk q4a qc q8 (alc j6 aln) aln (b1 Tryz.func146) Tryz.func146
def q8c:Tmpl:={ t:=(.str::.str::.any::.any::.any::(.vec 0)::(.int .i64)::qz 70 []),h:=[.vec 3 [(.int .i64)]] }
def q8x:List Out:=[⟨(.exit 0),{ t:=(qz 5 ((.vec 0)::qz 71 [])),h:=[.vec 3 [(.int .i64)]] }⟩]
noncomputable def q4w:=qe [(151,q9 yg jY zS)] [(146,Tryz.f146)] [((146,9),qj q8w q8z (qf uJ))] 0
noncomputable def uK:=wk q4w 146 Tryz.f146 4 q8c q8x
theorem qk7:ql Tryz.prog qa q4w.nimp (qy Tryz.prog q4w.iter 146) (z6 Tryz.f146 4) (qj q8c q8x (qf uK)):=
 gk q4w qc q8 (alc j6 aln) (alc (lk Tryz.func146 qk4) aln) (b1 Tryz.func146) Tryz.func146
def q7r:Tmpl:={ t:=(qz 5 ((.vec 0)::.any::.any::(.vec 1)::(.int .i64)::(.int .i64)::qz 66 [])),h:=[.vec 3 [(.int .i64)],.vec 5 [(.int .u8)]] }
def q7H:List Out:=[⟨(.exit 4),{ t:=(qz 8 ((.vec 1)::qz 68 [])),h:=[.dead,.vec 5 [(.int .u8)]] }⟩]
noncomputable def q37:=qe [(151,q9 yg jY zS)] [(146,Tryz.f146)] [] 0
noncomputable def yC:=wk q37 146 Tryz.f146 17 q7r q7H
theorem qju:ql Tryz.prog qa q37.nimp (qy Tryz.prog q37.iter 146) (z6 Tryz.f146 17) (qj q7r q7H (qf yC)):=
 gk q37 qc q8 (alc j6 aln) aln (b1 Tryz.func146) Tryz.func146
noncomputable def qiz:=qe [(151,q9 yg jY zS)] [(146,Tryz.f146)] [((146,4),qj q8c q8x (qf uK)),((146,17),qj q7r q7H (qf yC))] 0
noncomputable def q13:=qm qiz 146 Tryz.f146 true qcf qcI
theorem qmx:qM Tryz.prog qa 146 (q9 qcf qcI q13):=sk qiz qc q8 (alc j6 aln) (alc (lk Tryz.func146 qk7) (alc (lk Tryz.func146 qju) aln)) (b1 Tryz.func146) Tryz.func146
def qb8:FIn:=⟨[.str,.str],[]⟩
def qbe:List FOut:=[⟨.str,[],none⟩]
noncomputable def qnI:=qe [(73,q9 q2E q2z ze),(104,q9 jC jz qF),(107,q9 kM q04 wF),(108,q9 wQ wR qx),(109,q9 jA jD qN),(146,q9 qcf qcI q13)] [(103,Tryz.f103)] [] 0
noncomputable def wz:=qm qnI 103 Tryz.f103 true qb8 qbe
theorem qhy:qM Tryz.prog qa 103 (q9 qb8 qbe wz):=sk qnI qc q8 (alc q05 (alc jj (alc kz (alc zG (alc js (alc qmx aln)))))) aln (b1 Tryz.func103) Tryz.func103
def qcY:FIn:=⟨[.str,.str],[]⟩
def qbT:List FOut:=[⟨(.tuple [.str,.str]),[],none⟩]
def q6M:Tmpl:={ t:=(.str::.str::qz 4 (.str::.str::(.int .i64)::(.int .u8)::qz 31 [])),h:=[] }
def q7o:List Out:=[⟨(.exit 2),{ t:=(.str::.str::qz 4 (.str::.str::(.int .i64)::(.int .u8)::qz 31 [])),h:=[] }⟩]
noncomputable def q33:=qe [(110,q9 q3Y q44 j0),(111,q9 q6w q6x kV),(151,q9 yg jY zS)] [(147,Tryz.f147)] [] 0
noncomputable def yl:=wk q33 147 Tryz.f147 11 q6M q7o
theorem qj5:ql Tryz.prog qa q33.nimp (qy Tryz.prog q33.iter 147) (z6 Tryz.f147 11) (qj q6M q7o (qf yl)):=
 gk q33 qc q8 (alc q5I (alc q7j (alc j6 aln))) aln (b1 Tryz.func147) Tryz.func147
def q8l:Tmpl:={ t:=(.str::.str::qz 4 (.str::.str::(.int .i64)::qz 32 [])),h:=[] }
def q8v:List Out:=[⟨(.exit 0),{ t:=(qz 6 (.str::.str::qz 33 [])),h:=[] }⟩]
noncomputable def q4k:=qe [(110,q9 q3Y q44 j0),(111,q9 q6w q6x kV),(151,q9 yg jY zS)] [(147,Tryz.f147)] [((147,11),qj q6M q7o (qf yl))] 0
noncomputable def q1x:=wk q4k 147 Tryz.f147 4 q8l q8v
theorem qka:ql Tryz.prog qa q4k.nimp (qy Tryz.prog q4k.iter 147) (z6 Tryz.f147 4) (qj q8l q8v (qf q1x)):=
 gk q4k qc q8 (alc q5I (alc q7j (alc j6 aln))) (alc (lk Tryz.func147 qj5) aln) (b1 Tryz.func147) Tryz.func147
noncomputable def qie:=qe [(110,q9 q3Y q44 j0),(111,q9 q6w q6x kV),(151,q9 yg jY zS)] [(147,Tryz.f147)] [((147,4),qj q8l q8v (qf q1x))] 0
noncomputable def q3S:=qm qie 147 Tryz.f147 true qcY qbT
theorem qnS:qM Tryz.prog qa 147 (q9 qcY qbT q3S):=sk qie qc q8 (alc q5I (alc q7j (alc j6 aln))) (alc (lk Tryz.func147 qka) aln) (b1 Tryz.func147) Tryz.func147
def q2D:FIn:=⟨[.str,.str],[]⟩
def q2x:List FOut:=[⟨(.tuple [.str,.str]),[],none⟩]
noncomputable def qky:=qe [(73,q9 q2E q2z ze),(96,q9 q6L q7X vz),(103,q9 qb8 qbe wz),(104,q9 jC jz qF),(107,q9 kM q04 wF),(108,q9 wQ wR qx),(109,q9 jA jD qN),(147,q9 qcY qbT q3S)] [(106,Tryz.f106)] [] 0
noncomputable def wy:=qm qky 106 Tryz.f106 true q2D q2x
theorem q41:qM Tryz.prog qa 106 (q9 q2D q2x wy):=sk qky qc q8 (alc q05 (alc qas (alc qhy (alc jj (alc kz (alc zG (alc js (alc qnS aln)))))))) aln (b1 Tryz.func106) Tryz.func106
def q8W:FIn:=⟨[.str,.str],[]⟩
def q8U:List FOut:=[⟨.str,[],none⟩]
def q8i:Tmpl:={ t:=(qz 5 ((.int .i64)::(.int .i64)::qz 36 [])),h:=[] }
def q8J:List Out:=[⟨(.exit 2),{ t:=(qz 5 ((.int .i64)::qz 37 [])),h:=[] }⟩]
noncomputable def q4C:=qe [(73,q9 q2E q2z ze),(106,q9 q2D q2x wy),(107,q9 kM q04 wF),(108,q9 wQ wR qx),(109,q9 jA jD qN)] [(95,Tryz.f95)] [] 0
noncomputable def uI:=wk q4C 95 Tryz.f95 10 q8i q8J
theorem qkm:ql Tryz.prog qa q4C.nimp (qy Tryz.prog q4C.iter 95) (z6 Tryz.f95 10) (qj q8i q8J (qf uI)):=
 gk q4C qc q8 (alc q05 (alc q41 (alc kz (alc zG (alc js aln))))) aln (b1 Tryz.func95) Tryz.func95
def qaj:Tmpl:={ t:=(.str::.str::qz 41 []),h:=[] }
def qal:List Out:=[⟨(.exit 0),{ t:=(.str::qz 42 []),h:=[] }⟩,⟨.ret,{ t:=(qz 4 (.str::qz 38 [])),h:=[] }⟩]
noncomputable def q5J:=qe [(73,q9 q2E q2z ze),(106,q9 q2D q2x wy),(107,q9 kM q04 wF),(108,q9 wQ wR qx),(109,q9 jA jD qN)] [(95,Tryz.f95)] [((95,10),qj q8i q8J (qf uI))] 0
noncomputable def q24:=wk q5J 95 Tryz.f95 3 qaj qal
theorem qm0:ql Tryz.prog qa q5J.nimp (qy Tryz.prog q5J.iter 95) (z6 Tryz.f95 3) (qj qaj qal (qf q24)):=
 gk q5J qc q8 (alc q05 (alc q41 (alc kz (alc zG (alc js aln))))) (alc (lk Tryz.func95 qkm) aln) (b1 Tryz.func95) Tryz.func95
noncomputable def qkP:=qe [(73,q9 q2E q2z ze),(106,q9 q2D q2x wy),(107,q9 kM q04 wF),(108,q9 wQ wR qx),(109,q9 jA jD qN)] [(95,Tryz.f95)] [((95,3),qj qaj qal (qf q24))] 0
noncomputable def q0B:=qm qkP 95 Tryz.f95 true q8W q8U
theorem qfc:qM Tryz.prog qa 95 (q9 q8W q8U q0B):=sk qkP qc q8 (alc q05 (alc q41 (alc kz (alc zG (alc js aln))))) (alc (lk Tryz.func95 qm0) aln) (b1 Tryz.func95) Tryz.func95
def q4n:FIn:=⟨[.str],[]⟩
def q4e:List FOut:=[⟨(.int .i64),[],none⟩]
noncomputable def qo2:=qe [(86,q9 q4l q4o wB),(92,q9 qga qgy q4g),(93,q9 qbF qbt q1X),(94,q9 q6F q7W ua),(95,q9 q8W q8U q0B)] [(54,Tryz.f54)] [] 0
noncomputable def vA:=qm qo2 54 Tryz.f54 true q4n q4e
theorem q5L:qM Tryz.prog qa 54 (q9 q4n q4e vA):=sk qo2 qc q8 (alc q5X (alc qqZ (alc qhr (alc qaG (alc qfc aln))))) aln (b1 Tryz.func54) Tryz.func54
def q2w:FIn:=⟨[.str],[]⟩
def q2s:List FOut:=[⟨(.int .i64),[],none⟩]
noncomputable def qkL:=qe [(86,q9 q4l q4o wB),(94,q9 q6F q7W ua)] [(144,Tryz.f144)] [] 0
noncomputable def ww:=qm qkL 144 Tryz.f144 true q2w q2s
theorem q42:qM Tryz.prog qa 144 (q9 q2w q2s ww):=sk qkL qc q8 (alc q5X (alc qaG aln)) aln (b1 Tryz.func144) Tryz.func144
def qaR:FIn:=⟨[(.agg [.str,.str,.str])],[]⟩
def qby:List FOut:=[⟨(.int .i64),[],none⟩]
def qcL:Tmpl:={ t:=(.any::(.ptr 0 0)::qz 12 ((.vec 1)::(.int .i64)::(.int .i64)::qz 13 [])),h:=[.cells [.str,.str,.str],.vec 36 [.str]] }
def qcn:List Out:=[⟨(.exit 0),{ t:=(.any::(.ptr 0 0)::qz 28 []),h:=[.cells [.str,.str,.str]] }⟩,⟨.ret,{ t:=(.any::.any::(.int .i64)::qz 27 []),h:=[] }⟩]
noncomputable def q71:=qe [(54,q9 q4n q4e vA),(144,q9 q2w q2s ww)] [(101,Tryz.f101)] [] 0
noncomputable def q3Q:=wk q71 101 Tryz.f101 3 qcL qcn
theorem qn4:ql Tryz.prog qa q71.nimp (qy Tryz.prog q71.iter 101) (z6 Tryz.f101 3) (qj qcL qcn (qf q3Q)):=
 gk q71 qc q8 (alc q5L (alc q42 aln)) aln (b1 Tryz.func101) Tryz.func101
noncomputable def qou:=qe [(54,q9 q4n q4e vA),(144,q9 q2w q2s ww)] [(101,Tryz.f101)] [((101,3),qj qcL qcn (qf q3Q))] 0
noncomputable def q47:=qm qou 101 Tryz.f101 true qaR qby
theorem qhp:qM Tryz.prog qa 101 (q9 qaR qby q47):=sk qou qc q8 (alc q5L (alc q42 aln)) (alc (lk Tryz.func101 qn4) aln) (b1 Tryz.func101) Tryz.func101
def qdx:FIn:=⟨[(.imm [.str,.str,.str])],[]⟩
def qdy:List FOut:=[⟨(.int .i64),[],none⟩]
def qeR:Tmpl:={ t:=((.imm [.str,.str,.str])::.any::.any::(.int .i64)::qz 21 []),h:=[] }
def qeb:List Out:=[⟨(.exit 0),{ t:=((.imm [.str,.str,.str])::qz 24 []),h:=[] }⟩,⟨.ret,{ t:=(.any::.any::(.int .i64)::qz 22 []),h:=[] }⟩]
noncomputable def q9i:=qe [(101,q9 qaR qby q47)] [(65,Tryz.f65)] [] 0
noncomputable def q58:=wk q9i 65 Tryz.f65 6 qeR qeb
theorem qpm:ql Tryz.prog qa q9i.nimp (qy Tryz.prog q9i.iter 65) (z6 Tryz.f65 6) (qj qeR qeb (qf q58)):=
 gk q9i qc q8 (alc qhp aln) aln (b1 Tryz.func65) Tryz.func65
noncomputable def qpQ:=qe [(101,q9 qaR qby q47)] [(65,Tryz.f65)] [((65,6),qj qeR qeb (qf q58))] 0
noncomputable def q3u:=qm qpQ 65 Tryz.f65 true qdx qdy
theorem qiN:qM Tryz.prog qa 65 (q9 qdx qdy q3u):=sk qpQ qc q8 (alc qhp aln) (alc (lk Tryz.func65 qpm) aln) (b1 Tryz.func65) Tryz.func65
def uT:FIn:=⟨[.str,.str],[]⟩
def uS:List FOut:=[⟨(.imm [.str]),[],none⟩]
noncomputable def qjC:=qe [(86,q9 q4l q4o wB),(103,q9 qb8 qbe wz)] [(70,Tryz.f70)] [] 0
noncomputable def zr:=qm qjC 70 Tryz.f70 true uT uS
theorem q08:qM Tryz.prog qa 70 (q9 uT uS zr):=sk qjC qc q8 (alc q5X (alc qhy aln)) aln (b1 Tryz.func70) Tryz.func70
def q0f:FIn:=⟨[.str,.str],[]⟩
def q0x:List FOut:=[⟨.str,[],none⟩]
noncomputable def qli:=qe [(95,q9 q8W q8U q0B),(104,q9 jC jz qF),(105,q9 uC uA zP),(106,q9 q2D q2x wy)] [(71,Tryz.f71)] [] 0
noncomputable def zM:=qm qli 71 Tryz.f71 true q0f q0x
theorem q1p:qM Tryz.prog qa 71 (q9 q0f q0x zM):=sk qli qc q8 (alc qfc (alc jj (alc uG (alc q41 aln)))) aln (b1 Tryz.func71) Tryz.func71
def q9k:FIn:=⟨[.str,.str],[]⟩
def q9R:List FOut:=[⟨.str,[],none⟩]
noncomputable def qq3:=qe [(70,q9 uT uS zr),(71,q9 q0f q0x zM),(72,q9 qdZ qdl q3n)] [(26,Tryz.f26)] [] 0
noncomputable def yd:=qm qq3 26 Tryz.f26 true q9k q9R
theorem qc0:qM Tryz.prog qa 26 (q9 q9k q9R yd):=sk qq3 qc q8 (alc q08 (alc q1p (alc qin aln))) aln (b1 Tryz.func26) Tryz.func26
def q4x:FIn:=⟨[.str,.str],[]⟩
def q4p:List FOut:=[⟨.str,[],none⟩]
noncomputable def qmD:=qe [(70,q9 uT uS zr),(71,q9 q0f q0x zM),(96,q9 q6L q7X vz)] [(55,Tryz.f55)] [] 0
noncomputable def wD:=qm qmD 55 Tryz.f55 true q4x q4p
theorem q5V:qM Tryz.prog qa 55 (q9 q4x q4p wD):=sk qmD qc q8 (alc q08 (alc q1p (alc qas aln))) aln (b1 Tryz.func55) Tryz.func55
def q1H:FIn:=⟨[.str,.str],[]⟩
def q1J:List FOut:=[⟨.str,[],none⟩]
noncomputable def qmz:=qe [(70,q9 uT uS zr),(71,q9 q0f q0x zM)] [(171,Tryz.f171)] [] 0
noncomputable def qR:=qm qmz 171 Tryz.f171 true q1H q1J
theorem q23:qM Tryz.prog qa 171 (q9 q1H q1J qR):=sk qmz qc q8 (alc q08 (alc q1p aln)) aln (b1 Tryz.func171) Tryz.func171
def qc9:FIn:=⟨[(.agg [.str,.str]),(.agg [.str,.str])],[]⟩
def qc1:List FOut:=[⟨.str,[],none⟩]
noncomputable def qrN:=qe [(26,q9 q9k q9R yd),(171,q9 q1H q1J qR)] [(176,Tryz.f176)] [] 0
noncomputable def uU:=qm qrN 176 Tryz.f176 true qc9 qc1
theorem qeQ:qM Tryz.prog qa 176 (q9 qc9 qc1 uU):=sk qrN qc q8 (alc qc0 (alc q23 aln)) aln (b1 Tryz.func176) Tryz.func176
def q7E:FIn:=⟨[(.agg [.str,.str]),(.agg [.str,.str])],[]⟩
def q7B:List FOut:=[⟨(.agg [.str,.str]),[],none⟩]
noncomputable def qmV:=qe [(55,q9 q4x q4p wD)] [(177,Tryz.f177)] [] 0
noncomputable def um:=qm qmV 177 Tryz.f177 true q7E q7B
theorem qah:qM Tryz.prog qa 177 (q9 q7E q7B um):=sk qmV qc q8 (alc q5V aln) aln (b1 Tryz.func177) Tryz.func177
def q96:FIn:=⟨[.str],[]⟩
def q99:List FOut:=[⟨.str,[],none⟩]
noncomputable def ql9:=qe [(55,q9 q4x q4p wD)] [(213,Tryz.f213)] [] 0
noncomputable def uo:=qm ql9 213 Tryz.f213 true q96 q99
theorem qfj:qM Tryz.prog qa 213 (q9 q96 q99 uo):=sk ql9 qc q8 (alc q5V aln) aln (b1 Tryz.func213) Tryz.func213
def qoN:FIn:=⟨[.str,.str],[]⟩
def qpw:List FOut:=[⟨.str,[],none⟩]
noncomputable def qv2:=qe [(70,q9 uT uS zr),(71,q9 q0f q0x zM)] [(235,Tryz.f235)] [] 0
noncomputable def qbL:=qm qv2 235 Tryz.f235 true qoN qpw
theorem qw3:qM Tryz.prog qa 235 (q9 qoN qpw qbL):=sk qv2 qc q8 (alc q08 (alc q1p aln)) aln (b1 Tryz.func235) Tryz.func235
def qa1:FIn:=⟨[(.agg [.str,.str,.str]),(.agg [.str,.str,.str])],[]⟩
def qau:List FOut:=[⟨(.tuple [(.agg [.str,.str,.str,.str,.str]),.bool]),[],none⟩]
noncomputable def qhj:=qe [(26,q9 q9k q9R yd),(55,q9 q4x q4p wD),(144,q9 q2w q2s ww),(171,q9 q1H q1J qR),(176,q9 qc9 qc1 uU),(177,q9 q7E q7B um),(213,q9 q96 q99 uo),(235,q9 qoN qpw qbL)] [(212,Tryz.f212)] [] 0
noncomputable def q2o:=qm qhj 212 Tryz.f212 true qa1 qau
theorem qmm:qM Tryz.prog qa 212 (q9 qa1 qau q2o):=sk qhj qc q8 (alc qc0 (alc q5V (alc q42 (alc q23 (alc qeQ (alc qah (alc qfj (alc qw3 aln)))))))) aln (b1 Tryz.func212) Tryz.func212
def q7D:FIn:=⟨[(.imm [.str,.str,.str]),(.agg [(.int .i64),(.int .i64),(.int .i64)])],[]⟩
def q6S:List FOut:=[⟨(.tuple [(.agg [.str,.str,.str,.str,.str]),.bool]),[],none⟩]
noncomputable def qiE:=qe [(212,q9 qa1 qau q2o),(213,q9 q96 q99 uo)] [(178,Tryz.f178)] [] 0
noncomputable def uW:=qm qiE 178 Tryz.f178 true q7D q6S
theorem qdY:qM Tryz.prog qa 178 (q9 q7D q6S uW):=sk qiE qc q8 (alc qmm (alc qfj aln)) aln (b1 Tryz.func178) Tryz.func178
def qbm:FIn:=⟨[.str,.str],[]⟩
def qbC:List FOut:=[⟨(.int .i64),[],none⟩]
noncomputable def qnm:=qe [(70,q9 uT uS zr),(94,q9 q6F q7W ua)] [(133,Tryz.f133)] [] 0
noncomputable def q1E:=qm qnm 133 Tryz.f133 true qbm qbC
theorem qhk:qM Tryz.prog qa 133 (q9 qbm qbC q1E):=sk qnm qc q8 (alc q08 (alc qaG aln)) aln (b1 Tryz.func133) Tryz.func133
def qio:FIn:=⟨[.str,.str,.str],[]⟩
def qjb:List FOut:=[⟨(.int .i64),[],none⟩]
noncomputable def qpS:=qe [(133,q9 qbm qbC q1E),(144,q9 q2w q2s ww),(171,q9 q1H q1J qR)] [(183,Tryz.f183)] [] 0
noncomputable def q9S:=qm qpS 183 Tryz.f183 true qio qjb
theorem qsi:qM Tryz.prog qa 183 (q9 qio qjb q9S):=sk qpS qc q8 (alc qhk (alc q42 (alc q23 aln))) aln (b1 Tryz.func183) Tryz.func183
def qaY:FIn:=⟨[(.agg [.str,.str,.str]),(.agg [.str,.str,.str,.str,.str])],[]⟩
def qbw:List FOut:=[⟨.bool,[],none⟩]
noncomputable def qoj:=qe [(26,q9 q9k q9R yd),(55,q9 q4x q4p wD),(171,q9 q1H q1J qR),(176,q9 qc9 qc1 uU),(177,q9 q7E q7B um),(183,q9 qio qjb q9S)] [(179,Tryz.f179)] [] 0
noncomputable def q43:=qm qoj 179 Tryz.f179 true qaY qbw
theorem qhu:qM Tryz.prog qa 179 (q9 qaY qbw q43):=sk qoj qc q8 (alc qc0 (alc q5V (alc q23 (alc qeQ (alc qah (alc qsi aln)))))) aln (b1 Tryz.func179) Tryz.func179
def jJ:FIn:=⟨[(.imm [.str,.str,.str]),(.agg [(.int .i64),(.int .i64),(.int .i64)])],[]⟩
def jQ:List FOut:=[⟨.bool,[],none⟩]
def qa6:Tmpl:={ t:=((.imm [.str,.str,.str])::qz 4 ((.ptr 1 0)::.any::(.int .i64)::qz 21 [])),h:=[.dead,.cells [.str,.str,.str,.str,.str]] }
def qac:List Out:=[⟨(.exit 0),{ t:=(qz 29 []),h:=[] }⟩,⟨.ret,{ t:=(qz 4 (.bool::qz 24 [])),h:=[] }⟩]
noncomputable def q5S:=qe [(178,q9 q7D q6S uW),(179,q9 qaY qbw q43)] [(135,Tryz.f135)] [] 0
noncomputable def q22:=wk q5S 135 Tryz.f135 7 qa6 qac
theorem qm3:ql Tryz.prog qa q5S.nimp (qy Tryz.prog q5S.iter 135) (z6 Tryz.f135 7) (qj qa6 qac (qf q22)):=
 gk q5S qc q8 (alc qdY (alc qhu aln)) aln (b1 Tryz.func135) Tryz.func135
noncomputable def qkS:=qe [(178,q9 q7D q6S uW),(179,q9 qaY qbw q43)] [(135,Tryz.f135)] [((135,7),qj qa6 qac (qf q22))] 0
noncomputable def zN:=qm qkS 135 Tryz.f135 true jJ jQ
theorem jo:qM Tryz.prog qa 135 (q9 jJ jQ zN):=sk qkS qc q8 (alc qdY (alc qhu aln)) (alc (lk Tryz.func135 qm3) aln) (b1 Tryz.func135) Tryz.func135
def jO:FIn:=⟨[(.imm [.str,.str,.str])],[]⟩
def jy:List FOut:=[⟨(.tuple [(.agg [(.int .i64),(.int .i64),(.int .i64)]),.bool]),[],none⟩]
def qbV:Tmpl:={ t:=((.imm [.str,.str,.str])::.any::(.ptr 0 0)::.any::(.int .i64)::qz 49 []),h:=[.cells [(.int .i64),(.int .i64),(.int .i64)]] }
def qcJ:List Out:=[⟨(.exit 0),{ t:=((.imm [.str,.str,.str])::.any::(.ptr 0 0)::qz 51 []),h:=[.cells [(.int .i64),(.int .i64),(.int .i64)]] }⟩,⟨.ret,{ t:=(.any::.any::(.ptr 0 0)::.bool::qz 50 []),h:=[.cells [(.int .i64),(.int .i64),(.int .i64)]] }⟩]
noncomputable def q6W:=qe [(135,q9 jJ jQ zN)] [(88,Tryz.f88)] [] 0
noncomputable def q3h:=wk q6W 88 Tryz.f88 3 qbV qcJ
theorem qmT:ql Tryz.prog qa q6W.nimp (qy Tryz.prog q6W.iter 88) (z6 Tryz.f88 3) (qj qbV qcJ (qf q3h)):=
 gk q6W qc q8 (alc jo aln) aln (b1 Tryz.func88) Tryz.func88
def qa2:Tmpl:={ t:=((.imm [.str,.str,.str])::.any::(.ptr 0 0)::.any::.any::.any::(.int .i64)::(.int .i64)::qz 30 ((.vec 1)::(.int .i64)::(.int .i64)::qz 13 [])),h:=[.cells [(.int .i64),(.int .i64),(.int .i64)],.vec 3 [(.int .i64)]] }
def q9Z:List Out:=[⟨(.exit 6),{ t:=((.imm [.str,.str,.str])::.any::(.ptr 0 0)::.any::.any::.any::(.int .i64)::(.int .i64)::qz 46 []),h:=[.cells [(.int .i64),(.int .i64),(.int .i64)]] }⟩,⟨.ret,{ t:=(.any::.any::(.ptr 0 0)::.bool::qz 50 []),h:=[.cells [(.int .i64),(.int .i64),(.int .i64)]] }⟩]
noncomputable def q5Q:=qe [(135,q9 jJ jQ zN)] [(88,Tryz.f88)] [] 0
noncomputable def q25:=wk q5Q 88 Tryz.f88 22 qa2 q9Z
theorem qlM:ql Tryz.prog qa q5Q.nimp (qy Tryz.prog q5Q.iter 88) (z6 Tryz.f88 22) (qj qa2 q9Z (qf q25)):=
 gk q5Q qc q8 (alc jo aln) aln (b1 Tryz.func88) Tryz.func88
def qaa:Tmpl:={ t:=((.imm [.str,.str,.str])::.any::(.ptr 0 0)::.any::.any::.any::(.int .i64)::(.int .i64)::qz 46 []),h:=[.cells [(.int .i64),(.int .i64),(.int .i64)]] }
def qab:List Out:=[⟨(.exit 4),{ t:=((.imm [.str,.str,.str])::.any::(.ptr 0 0)::.any::.any::.any::(.int .i64)::qz 47 []),h:=[.cells [(.int .i64),(.int .i64),(.int .i64)]] }⟩,⟨.ret,{ t:=(.any::.any::(.ptr 0 0)::.bool::qz 50 []),h:=[.cells [(.int .i64),(.int .i64),(.int .i64)]] }⟩]
noncomputable def q65:=qe [(135,q9 jJ jQ zN)] [(88,Tryz.f88)] [((88,22),qj qa2 q9Z (qf q25))] 0
noncomputable def q2q:=wk q65 88 Tryz.f88 17 qaa qab
theorem qlB:ql Tryz.prog qa q65.nimp (qy Tryz.prog q65.iter 88) (z6 Tryz.f88 17) (qj qaa qab (qf q2q)):=
 gk q65 qc q8 (alc jo aln) (alc (lk Tryz.func88 qlM) aln) (b1 Tryz.func88) Tryz.func88
def qar:Tmpl:={ t:=((.imm [.str,.str,.str])::.any::(.ptr 0 0)::.any::.any::.any::(.int .i64)::qz 47 []),h:=[.cells [(.int .i64),(.int .i64),(.int .i64)]] }
def qao:List Out:=[⟨(.exit 2),{ t:=(.any::.any::(.ptr 0 0)::qz 51 []),h:=[.cells [(.int .i64),(.int .i64),(.int .i64)]] }⟩,⟨.ret,{ t:=(.any::.any::(.ptr 0 0)::.bool::qz 50 []),h:=[.cells [(.int .i64),(.int .i64),(.int .i64)]] }⟩]
noncomputable def q60:=qe [(135,q9 jJ jQ zN)] [(88,Tryz.f88)] [((88,17),qj qaa qab (qf q2q))] 0
noncomputable def q2h:=wk q60 88 Tryz.f88 12 qar qao
theorem qma:ql Tryz.prog qa q60.nimp (qy Tryz.prog q60.iter 88) (z6 Tryz.f88 12) (qj qar qao (qf q2h)):=
 gk q60 qc q8 (alc jo aln) (alc (lk Tryz.func88 qlB) aln) (b1 Tryz.func88) Tryz.func88
noncomputable def qoh:=qe [(135,q9 jJ jQ zN)] [(88,Tryz.f88)] [((88,3),qj qbV qcJ (qf q3h)),((88,12),qj qar qao (qf q2h))] 0
noncomputable def zF:=qm qoh 88 Tryz.f88 true jO jy
theorem jc:qM Tryz.prog qa 88 (q9 jO jy zF):=sk qoh qc q8 (alc jo aln) (alc (lk Tryz.func88 qmT) (alc (lk Tryz.func88 qma) aln)) (b1 Tryz.func88) Tryz.func88
def qgP:FIn:=⟨[(.imm [.str,.str,.str])],[]⟩
def qhh:List FOut:=[⟨(.imm [(.int .i64)]),[],none⟩]
def qcU:Tmpl:={ t:=((.imm [.str,.str,.str])::.any::.any::(.int .i64)::(.int .i64)::qz 84 []),h:=[] }
def qc5:List Out:=[⟨(.exit 2),{ t:=((.imm [.str,.str,.str])::.any::.any::(.int .i64)::qz 85 []),h:=[] }⟩,⟨.ret,{ t:=(.any::.any::(.vec 2)::qz 86 []),h:=[.dead,.dead,.vec 3 [(.int .i64)]] }⟩]
noncomputable def q7n:=qe [(88,q9 jO jy zF)] [(66,Tryz.f66)] [] 0
noncomputable def q3X:=wk q7n 66 Tryz.f66 8 qcU qc5
theorem qmI:ql Tryz.prog qa q7n.nimp (qy Tryz.prog q7n.iter 66) (z6 Tryz.f66 8) (qj qcU qc5 (qf q3X)):=
 gk q7n qc q8 (alc jc aln) aln (b1 Tryz.func66) Tryz.func66
def qbU:Tmpl:={ t:=((.imm [.str,.str,.str])::.any::.any::(.int .i64)::qz 85 []),h:=[] }
def qd2:List Out:=[⟨(.exit 0),{ t:=((.imm [.str,.str,.str])::qz 88 []),h:=[] }⟩,⟨.ret,{ t:=(.any::.any::(.vec 2)::qz 86 []),h:=[.dead,.dead,.vec 3 [(.int .i64)]] }⟩]
noncomputable def q7p:=qe [(88,q9 jO jy zF)] [(66,Tryz.f66)] [((66,8),qj qcU qc5 (qf q3X))] 0
noncomputable def q3o:=wk q7p 66 Tryz.f66 3 qbU qd2
theorem qmy:ql Tryz.prog qa q7p.nimp (qy Tryz.prog q7p.iter 66) (z6 Tryz.f66 3) (qj qbU qd2 (qf q3o)):=
 gk q7p qc q8 (alc jc aln) (alc (lk Tryz.func66 qmI) aln) (b1 Tryz.func66) Tryz.func66
def qag:Tmpl:={ t:=((.imm [.str,.str,.str])::qz 6 ((.int .i64)::(.int .i64)::(.int .i64)::qz 79 [])),h:=[] }
def qaz:List Out:=[⟨(.exit 8),{ t:=((.imm [.str,.str,.str])::qz 6 ((.int .i64)::(.int .i64)::qz 80 [])),h:=[] }⟩,⟨.ret,{ t:=(.any::.any::(.vec 2)::qz 86 []),h:=[.dead,.dead,.vec 3 [(.int .i64)]] }⟩]
noncomputable def q5R:=qe [(88,q9 jO jy zF)] [(66,Tryz.f66)] [] 0
noncomputable def q2l:=wk q5R 66 Tryz.f66 27 qag qaz
theorem qlF:ql Tryz.prog qa q5R.nimp (qy Tryz.prog q5R.iter 66) (z6 Tryz.f66 27) (qj qag qaz (qf q2l)):=
 gk q5R qc q8 (alc jc aln) aln (b1 Tryz.func66) Tryz.func66
def qaF:Tmpl:={ t:=((.imm [.str,.str,.str])::qz 6 ((.int .i64)::(.int .i64)::qz 80 [])),h:=[] }
def qat:List Out:=[⟨(.exit 6),{ t:=((.imm [.str,.str,.str])::qz 6 ((.int .i64)::qz 81 [])),h:=[] }⟩,⟨.ret,{ t:=(.any::.any::(.vec 2)::qz 86 []),h:=[.dead,.dead,.vec 3 [(.int .i64)]] }⟩]
noncomputable def q64:=qe [(88,q9 jO jy zF)] [(66,Tryz.f66)] [((66,27),qj qag qaz (qf q2l))] 0
noncomputable def q26:=wk q64 66 Tryz.f66 22 qaF qat
theorem qlS:ql Tryz.prog qa q64.nimp (qy Tryz.prog q64.iter 66) (z6 Tryz.f66 22) (qj qaF qat (qf q26)):=
 gk q64 qc q8 (alc jc aln) (alc (lk Tryz.func66 qlF) aln) (b1 Tryz.func66) Tryz.func66
def q9W:Tmpl:={ t:=((.imm [.str,.str,.str])::qz 6 ((.int .i64)::qz 81 [])),h:=[] }
def qaC:List Out:=[⟨(.exit 4),{ t:=(qz 89 []),h:=[] }⟩,⟨.ret,{ t:=(.any::.any::(.vec 2)::qz 86 []),h:=[.dead,.dead,.vec 3 [(.int .i64)]] }⟩]
noncomputable def q5M:=qe [(88,q9 jO jy zF)] [(66,Tryz.f66)] [((66,22),qj qaF qat (qf q26))] 0
noncomputable def q2j:=wk q5M 66 Tryz.f66 17 q9W qaC
theorem qmj:ql Tryz.prog qa q5M.nimp (qy Tryz.prog q5M.iter 66) (z6 Tryz.f66 17) (qj q9W qaC (qf q2j)):=
 gk q5M qc q8 (alc jc aln) (alc (lk Tryz.func66 qlS) aln) (b1 Tryz.func66) Tryz.func66
noncomputable def qms:=qe [(88,q9 jO jy zF)] [(66,Tryz.f66)] [((66,3),qj qbU qd2 (qf q3o)),((66,17),qj q9W qaC (qf q2j))] 0
noncomputable def q7c:=qm qms 66 Tryz.f66 true qgP qhh
theorem qqH:qM Tryz.prog qa 66 (q9 qgP qhh q7c):=sk qms qc q8 (alc jc aln) (alc (lk Tryz.func66 qmy) (alc (lk Tryz.func66 qmj) aln)) (b1 Tryz.func66) Tryz.func66
def qlv:FIn:=⟨[(.agg [.str,.str]),(.agg [.str,.str])],[]⟩
def qmf:List FOut:=[⟨.str,[],none⟩]
noncomputable def qse:=qe [(176,q9 qc9 qc1 uU),(177,q9 q7E q7B um)] [(134,Tryz.f134)] [] 0
noncomputable def qcc:=qm qse 134 Tryz.f134 true qlv qmf
theorem qtW:qM Tryz.prog qa 134 (q9 qlv qmf qcc):=sk qse qc q8 (alc qeQ (alc qah aln)) aln (b1 Tryz.func134) Tryz.func134
def qgZ:FIn:=⟨[(.int .i64)],[]⟩
def qg6:List FOut:=[⟨.str,[],none⟩]
noncomputable def qnX:=qe [(73,q9 q2E q2z ze)] [(27,Tryz.f27)] [] 0
noncomputable def q4A:=qm qnX 27 Tryz.f27 true qgZ qg6
theorem qqs:qM Tryz.prog qa 27 (q9 qgZ qg6 q4A):=sk qnX qc q8 (alc q05 aln) aln (b1 Tryz.func27) Tryz.func27
def q2n:FIn:=⟨[(.agg [.str,.str,.str]),(.agg [.str,.str])],[]⟩
def q21:List FOut:=[⟨(.tuple [.bool,(.int .i64)]),[],none⟩]
def q79:Tmpl:={ t:=(.any::.any::(.ptr 0 0)::(.ptr 1 0)::qz 17 ((.vec 2)::(.int .i64)::(.int .i64)::qz 33 [])),h:=[.cells [.str,.str,.str],.cells [.str,.str],.vec 36 [.str]] }
def q74:List Out:=[⟨(.exit 0),{ t:=(.any::.any::(.ptr 0 0)::(.ptr 1 0)::qz 53 []),h:=[.cells [.str,.str,.str],.cells [.str,.str]] }⟩,⟨.ret,{ t:=(qz 4 (.bool::(.int .i64)::qz 51 [])),h:=[] }⟩]
noncomputable def q2V:=qe [(74,q9 q4h q4q uk),(75,q9 j5 j4 qD),(76,q9 q3a q30 yD),(77,q9 q5P q5K yK)] [(28,Tryz.f28)] [] 0
noncomputable def ym:=wk q2V 28 Tryz.f28 7 q79 q74
theorem qib:ql Tryz.prog qa q2V.nimp (qy Tryz.prog q2V.iter 28) (z6 Tryz.f28 7) (qj q79 q74 (qf ym)):=
 gk q2V qc q8 (alc q5G (alc vw (alc q9p (alc qbW aln)))) aln (b1 Tryz.func28) Tryz.func28
noncomputable def qhq:=qe [(74,q9 q4h q4q uk),(75,q9 j5 j4 qD),(76,q9 q3a q30 yD),(77,q9 q5P q5K yK)] [(28,Tryz.f28)] [((28,7),qj q79 q74 (qf ym))] 0
noncomputable def wx:=qm qhq 28 Tryz.f28 true q2n q21
theorem q6i:qM Tryz.prog qa 28 (q9 q2n q21 wx):=sk qhq qc q8 (alc q5G (alc vw (alc q9p (alc qbW aln)))) (alc (lk Tryz.func28 qib) aln) (b1 Tryz.func28) Tryz.func28
def q8j:FIn:=⟨[(.imm [(.int .i64),(.int .i64),(.int .i64),(.int .i64),(.int .i64),(.int .i64),.bool]),(.imm [(.int .i64),(.int .i64),(.int .i64)])],[]⟩
def q8o:List FOut:=[⟨.bool,[],none⟩]
noncomputable def qtz:=qe [] [(34,Tryz.f34)] [] 0
noncomputable def uX:=qm qtz 34 Tryz.f34 true q8j q8o
theorem q8O:qM Tryz.prog qa 34 (q9 q8j q8o uX):=sk qtz qc q8 aln aln (b1 Tryz.func34) Tryz.func34
def qjU:FIn:=⟨[(.int .i64)],[]⟩
def qjH:List FOut:=[⟨.bool,[],none⟩]
noncomputable def qvh:=qe [] [(172,Tryz.f172)] [] 0
noncomputable def uO:=qm qvh 172 Tryz.f172 true qjU qjH
theorem qnq:qM Tryz.prog qa 172 (q9 qjU qjH uO):=sk qvh qc q8 aln aln (b1 Tryz.func172) Tryz.func172
def qdB:FIn:=⟨[(.int .i64)],[]⟩
def qdF:List FOut:=[⟨.bool,[],none⟩]
noncomputable def qqk:=qe [] [(173,Tryz.f173)] [] 0
noncomputable def ya:=qm qqk 173 Tryz.f173 true qdB qdF
theorem qje:qM Tryz.prog qa 173 (q9 qdB qdF ya):=sk qqk qc q8 aln aln (b1 Tryz.func173) Tryz.func173
def q4m:FIn:=⟨[(.agg [(.int .i64),(.int .i64),(.int .i64),(.int .i64),(.int .i64),(.int .i64),.bool])],[]⟩
def q4v:List FOut:=[⟨(.int .i64),[],none⟩]
noncomputable def qmO:=qe [(172,q9 qjU qjH uO),(173,q9 qdB qdF ya)] [(129,Tryz.f129)] [] 0
noncomputable def ub:=qm qmO 129 Tryz.f129 true q4m q4v
theorem q5T:qM Tryz.prog qa 129 (q9 q4m q4v ub):=sk qmO qc q8 (alc qnq (alc qje aln)) aln (b1 Tryz.func129) Tryz.func129
end Go.Eng

namespace Go.Eng
open Go.Proofs
def q9l:FIn:=⟨[(.agg [(.int .i64),(.int .i64),(.int .i64)])],[]⟩
def q9E:List FOut:=[⟨(.int .i64),[],none⟩]
noncomputable def qqj:=qe [(172,q9 qjU qjH uO),(173,q9 qdB qdF ya)] [(130,Tryz.f130)] [] 0
noncomputable def q3G:=qm qqj 130 Tryz.f130 true q9l q9E
theorem qcj:qM Tryz.prog qa 130 (q9 q9l q9E q3G):=sk qqj qc q8 (alc qnq (alc qje aln)) aln (b1 Tryz.func130) Tryz.func130
def yI:FIn:=⟨[(.imm [(.int .i64),(.int .i64),(.int .i64),(.int .i64),(.int .i64),(.int .i64),.bool]),(.imm [(.int .i64),(.int .i64),(.int .i64)])],[]⟩
def yo:List FOut:=[⟨(.int .i64),[],none⟩]
def q4O:Tmpl:={ t:=((.imm [(.int .i64),(.int .i64),(.int .i64),(.int .i64),(.int .i64),(.int .i64),.bool])::(.imm [(.int .i64),(.int .i64),(.int .i64)])::qz 12 ((.imm [(.int .i64),(.int .i64),(.int .i64),(.int .i64),(.int .i64),(.int .i64),.bool])::(.int .i64)::(.int .i64)::qz 26 [])),h:=[] }
def q4Y:List Out:=[⟨(.exit 0),{ t:=((.imm [(.int .i64),(.int .i64),(.int .i64),(.int .i64),(.int .i64),(.int .i64),.bool])::(.imm [(.int .i64),(.int .i64),(.int .i64)])::qz 41 []),h:=[] }⟩,⟨.ret,{ t:=(qz 4 ((.int .i64)::qz 38 [])),h:=[] }⟩]
noncomputable def q0O:=qe [(129,q9 q4m q4v ub),(130,q9 q9l q9E q3G)] [(83,Tryz.f83)] [] 0
noncomputable def yX:=wk q0O 83 Tryz.f83 6 q4O q4Y
theorem qgo:ql Tryz.prog qa q0O.nimp (qy Tryz.prog q0O.iter 83) (z6 Tryz.f83 6) (qj q4O q4Y (qf yX)):=
 gk q0O qc q8 (alc q5T (alc qcj aln)) aln (b1 Tryz.func83) Tryz.func83
def q3J:Tmpl:={ t:=(qz 31 ((.imm [(.int .i64),(.int .i64),(.int .i64)])::(.int .i64)::(.int .i64)::qz 9 [])),h:=[] }
def q3A:List Out:=[⟨(.exit 2),{ t:=(qz 43 []),h:=[] }⟩,⟨.ret,{ t:=(qz 4 ((.int .i64)::qz 38 [])),h:=[] }⟩]
noncomputable def kZ:=qe [(129,q9 q4m q4v ub),(130,q9 q9l q9E q3G)] [(83,Tryz.f83)] [] 0
noncomputable def yh:=wk kZ 83 Tryz.f83 19 q3J q3A
theorem qfh:ql Tryz.prog qa kZ.nimp (qy Tryz.prog kZ.iter 83) (z6 Tryz.f83 19) (qj q3J q3A (qf yh)):=
 gk kZ qc q8 (alc q5T (alc qcj aln)) aln (b1 Tryz.func83) Tryz.func83
noncomputable def qdR:=qe [(129,q9 q4m q4v ub),(130,q9 q9l q9E q3G)] [(83,Tryz.f83)] [((83,6),qj q4O q4Y (qf yX)),((83,19),qj q3J q3A (qf yh))] 0
noncomputable def zY:=qm qdR 83 Tryz.f83 true yI yo
theorem q01:qM Tryz.prog qa 83 (q9 yI yo zY):=sk qdR qc q8 (alc q5T (alc qcj aln)) (alc (lk Tryz.func83 qgo) (alc (lk Tryz.func83 qfh) aln)) (b1 Tryz.func83) Tryz.func83
def q7t:FIn:=⟨[(.agg [(.imm [(.int .i64),(.int .i64),(.int .i64),(.int .i64),(.int .i64),(.int .i64),.bool]),(.imm [(.int .i64),(.int .i64),(.int .i64)]),(.int .i64)])],[]⟩
def q6Q:List FOut:=[⟨(.int .i64),[],none⟩]
def qap:Tmpl:={ t:=(.any::(.ptr 0 0)::qz 18 ((.imm [(.int .i64),(.int .i64),(.int .i64),(.int .i64),(.int .i64),(.int .i64),.bool])::(.int .i64)::(.int .i64)::qz 31 [])),h:=[.cells [(.imm [(.int .i64),(.int .i64),(.int .i64),(.int .i64),(.int .i64),(.int .i64),.bool]),(.imm [(.int .i64),(.int .i64),(.int .i64)]),(.int .i64)]] }
def qa8:List Out:=[⟨(.exit 0),{ t:=(.any::(.ptr 0 0)::qz 52 []),h:=[.cells [(.imm [(.int .i64),(.int .i64),(.int .i64),(.int .i64),(.int .i64),(.int .i64),.bool]),(.imm [(.int .i64),(.int .i64),(.int .i64)]),(.int .i64)]] }⟩,⟨.ret,{ t:=(.any::.any::(.int .i64)::qz 51 []),h:=[] }⟩]
noncomputable def q5O:=qe [(83,q9 yI yo zY)] [(39,Tryz.f39)] [] 0
noncomputable def q2m:=wk q5O 39 Tryz.f39 10 qap qa8
theorem qlP:ql Tryz.prog qa q5O.nimp (qy Tryz.prog q5O.iter 39) (z6 Tryz.f39 10) (qj qap qa8 (qf q2m)):=
 gk q5O qc q8 (alc q01 aln) aln (b1 Tryz.func39) Tryz.func39
noncomputable def qn6:=qe [(83,q9 yI yo zY)] [(39,Tryz.f39)] [((39,10),qj qap qa8 (qf q2m))] 0
noncomputable def uh:=qm qn6 39 Tryz.f39 true q7t q6Q
theorem qaw:qM Tryz.prog qa 39 (q9 q7t q6Q uh):=sk qn6 qc q8 (alc q01 aln) (alc (lk Tryz.func39 qlP) aln) (b1 Tryz.func39) Tryz.func39
def qk0:FIn:=⟨[(.agg [(.int .i64),(.int .i64),(.int .i64),(.int .i64),(.int .i64),(.int .i64),.bool])],[]⟩
def qjP:List FOut:=[⟨(.agg [(.int .i64),(.int .i64),(.int .i64),(.int .i64),(.int .i64),(.int .i64),.bool,(.int .i64)]),[],none⟩]
noncomputable def qvy:=qe [] [(138,Tryz.f138)] [] 0
noncomputable def q8L:=qm qvy 138 Tryz.f138 true qk0 qjP
theorem qok:qM Tryz.prog qa 138 (q9 qk0 qjP q8L):=sk qvy qc q8 aln aln (b1 Tryz.func138) Tryz.func138
def q3y:FIn:=⟨[(.agg [(.int .i64),(.int .i64),(.int .i64),(.int .i64),(.int .i64),(.int .i64),.bool,(.int .i64)]),(.int .i64)],[]⟩
def q3C:List FOut:=[⟨(.int .i64),[],none⟩]
noncomputable def q9n:=qe [] [(180,Tryz.f180)] [] 0
noncomputable def yk:=qm q9n 180 Tryz.f180 true q3y q3C
theorem qfU:qM Tryz.prog qa 180 (q9 q3y q3C yk):=sk q9n qc q8 aln aln (b1 Tryz.func180) Tryz.func180
def ue:FIn:=⟨[(.agg [(.int .i64),(.int .i64),(.int .i64),(.int .i64),(.int .i64),(.int .i64),.bool,(.int .i64)]),(.int .i64)],[]⟩
def un:List FOut:=[⟨(.int .i64),[],none⟩]
noncomputable def q7i:=qe [(180,q9 q3y q3C yk)] [(139,Tryz.f139)] [] 0
noncomputable def zB:=qm q7i 139 Tryz.f139 true ue un
theorem q4I:qM Tryz.prog qa 139 (q9 ue un zB):=sk q7i qc q8 (alc qfU aln) aln (b1 Tryz.func139) Tryz.func139
def q95:FIn:=⟨[(.agg [(.int .i64),(.int .i64),(.int .i64),(.int .i64),(.int .i64),(.int .i64),.bool]),(.int .i64)],[]⟩
def q9b:List FOut:=[⟨.bool,[],none⟩]
noncomputable def qkA:=qe [] [(140,Tryz.f140)] [] 0
noncomputable def q0v:=qm qkA 140 Tryz.f140 true q95 q9b
theorem qfi:qM Tryz.prog qa 140 (q9 q95 q9b q0v):=sk qkA qc q8 aln aln (b1 Tryz.func140) Tryz.func140
def qgc:FIn:=⟨[(.agg [(.int .i64),(.int .i64),(.int .i64),(.int .i64),(.int .i64),(.int .i64),.bool]),(.int .i64)],[]⟩
def qhg:List FOut:=[⟨(.tuple [(.int .i64),(.int .i64)]),[],none⟩]
noncomputable def qne:=qe [(129,q9 q4m q4v ub),(138,q9 qk0 qjP q8L),(139,q9 ue un zB),(140,q9 q95 q9b q0v)] [(167,Tryz.f167)] [] 0
noncomputable def q7q:=qm qne 167 Tryz.f167 true qgc qhg
theorem qqR:qM Tryz.prog qa 167 (q9 qgc qhg q7q):=sk qne qc q8 (alc q5T (alc qok (alc q4I (alc qfi aln)))) aln (b1 Tryz.func167) Tryz.func167
def q7v:FIn:=⟨[(.agg [(.int .i64),(.int .i64),(.int .i64),(.int .i64),(.int .i64),(.int .i64),.bool]),(.int .i64)],[]⟩
def q7A:List FOut:=[⟨(.tuple [(.int .i64),(.int .i64)]),[],none⟩]
noncomputable def qjq:=qe [(167,q9 qgc qhg q7q)] [(125,Tryz.f125)] [] 0
noncomputable def uV:=qm qjq 125 Tryz.f125 true q7v q7A
theorem qdo:qM Tryz.prog qa 125 (q9 q7v q7A uV):=sk qjq qc q8 (alc qqR aln) aln (b1 Tryz.func125) Tryz.func125
def qix:FIn:=⟨[.str,.str],[]⟩
def qjk:List FOut:=[⟨(.tuple [.str,(.int .i64)]),[],none⟩]
def qet:Tmpl:={ t:=(.str::.str::qz 11 ((.vec 0)::(.int .i64)::(.int .i64)::qz 27 [])),h:=[.vec 117 [.str]] }
def qeS:List Out:=[⟨(.exit 0),{ t:=(.str::.str::qz 41 []),h:=[] }⟩,⟨.ret,{ t:=(qz 4 (.str::(.int .i64)::qz 37 [])),h:=[] }⟩]
noncomputable def q91:=qe [(113,q9 jP jI qQ),(231,q9 wt wj qG)] [(210,Tryz.f210)] [] 0
noncomputable def q2F:=wk q91 210 Tryz.f210 3 qet qeS
theorem qp2:ql Tryz.prog qa q91.nimp (qy Tryz.prog q91.iter 210) (z6 Tryz.f210 3) (qj qet qeS (qf q2F)):=
 gk q91 qc q8 (alc ji (alc wU aln)) aln (b1 Tryz.func210) Tryz.func210
noncomputable def qqp:=qe [(113,q9 jP jI qQ),(231,q9 wt wj qG)] [(210,Tryz.f210)] [((210,3),qj qet qeS (qf q2F))] 0
noncomputable def q9C:=qm qqp 210 Tryz.f210 true qix qjk
theorem qrB:qM Tryz.prog qa 210 (q9 qix qjk q9C):=sk qqp qc q8 (alc ji (alc wU aln)) (alc (lk Tryz.func210 qp2) aln) (b1 Tryz.func210) Tryz.func210
def qpD:FIn:=⟨[(.int .i64),(.int .i64)],[]⟩
def qpp:List FOut:=[⟨(.tuple [.str,(.int .i64)]),[],none⟩]
noncomputable def qvv:=qe [(159,q9 q3Z q4b zt),(210,q9 qix qjk q9C)] [(168,Tryz.f168)] [] 0
noncomputable def qfV:=qm qvv 168 Tryz.f168 true qpD qpp
theorem qvR:qM Tryz.prog qa 168 (q9 qpD qpp qfV):=sk qvv qc q8 (alc q1Y (alc qrB aln)) aln (b1 Tryz.func168) Tryz.func168
def qg8:FIn:=⟨[(.int .i64)],[]⟩
def qgL:List FOut:=[⟨.str,[],none⟩]
noncomputable def qnb:=qe [(159,q9 q3Z q4b zt)] [(169,Tryz.f169)] [] 0
noncomputable def q4d:=qm qnb 169 Tryz.f169 true qg8 qgL
theorem qqV:qM Tryz.prog qa 169 (q9 qg8 qgL q4d):=sk qnb qc q8 (alc q1Y aln) aln (b1 Tryz.func169) Tryz.func169
def q5o:FIn:=⟨[(.int .i64),(.int .i64),(.int .i64)],[]⟩
def q52:List FOut:=[⟨(.tuple [(.agg [.str,.str,.str]),(.int .i64)]),[],none⟩]
noncomputable def qlc:=qe [(168,q9 qpD qpp qfV),(169,q9 qg8 qgL q4d)] [(126,Tryz.f126)] [] 0
noncomputable def ur:=qm qlc 126 Tryz.f126 true q5o q52
theorem q8K:qM Tryz.prog qa 126 (q9 q5o q52 ur):=sk qlc qc q8 (alc qvR (alc qqV aln)) aln (b1 Tryz.func126) Tryz.func126
def q0N:FIn:=⟨[(.agg [(.imm [(.int .i64),(.int .i64),(.int .i64),(.int .i64),(.int .i64),(.int .i64),.bool]),(.imm [(.int .i64),(.int .i64),(.int .i64)]),(.int .i64)])],[]⟩
def q0M:List FOut:=[⟨(.tuple [(.imm [.str,.str,.str]),(.int .i64)]),[],none⟩]
def q2G:Tmpl:={ t:=(.any::(.ptr 0 0)::.any::.any::(.vec 1)::qz 7 ((.imm [(.int .i64),(.int .i64),(.int .i64),(.int .i64),(.int .i64),(.int .i64),.bool])::(.int .i64)::(.int .i64)::qz 47 [])),h:=[.cells [(.imm [(.int .i64),(.int .i64),(.int .i64),(.int .i64),(.int .i64),(.int .i64),.bool]),(.imm [(.int .i64),(.int .i64),(.int .i64)]),(.int .i64)],.vec 40 [.str,.str,.str]],pro:=[(4,40,[.str,.str,.str])] }
def q2H:List Out:=[⟨(.exit 0),{ t:=(qz 4 ((.vec 1)::qz 57 [])),h:=[.dead,.vec 40 [.str,.str,.str]] }⟩,⟨.ret,{ t:=(.any::.any::.nils::(.int .i64)::qz 58 []),h:=[] }⟩]
noncomputable def ko:=qe [(125,q9 q7v q7A uV),(126,q9 q5o q52 ur)] [(80,Tryz.f80)] [] 0
noncomputable def wV:=wk ko 80 Tryz.f80 4 q2G q2H
theorem qeM:ql Tryz.prog qa ko.nimp (qy Tryz.prog ko.iter 80) (z6 Tryz.f80 4) (qj q2G q2H (qf wV)):=
 gk ko qc q8 (alc qdo (alc q8K aln)) aln (b1 Tryz.func80) Tryz.func80
noncomputable def qaK:=qe [(125,q9 q7v q7A uV),(126,q9 q5o q52 ur)] [(80,Tryz.f80)] [((80,4),qj q2G q2H (qf wV))] 0
noncomputable def wN:=qm qaK 80 Tryz.f80 true q0N q0M
theorem q7z:qM Tryz.prog qa 80 (q9 q0N q0M wN):=sk qaK qc q8 (alc qdo (alc q8K aln)) (alc (lk Tryz.func80 qeM) aln) (b1 Tryz.func80) Tryz.func80
def q7Z:FIn:=⟨[(.imm [.str,.str,.str]),(.int .i64)],[]⟩
def q6J:List FOut:=[⟨(.tuple [(.imm [.str,.str,.str]),(.int .i64)]),[],none⟩]
noncomputable def qiP:=qe [(126,q9 q5o q52 ur)] [(81,Tryz.f81)] [] 0
noncomputable def uZ:=qm qiP 81 Tryz.f81 true q7Z q6J
theorem qdK:qM Tryz.prog qa 81 (q9 q7Z q6J uZ):=sk qiP qc q8 (alc q8K aln) aln (b1 Tryz.func81) Tryz.func81
def jM:FIn:=⟨[(.agg [(.imm [(.int .i64),(.int .i64),(.int .i64),(.int .i64),(.int .i64),(.int .i64),.bool]),(.imm [(.int .i64),(.int .i64),(.int .i64)]),(.int .i64)])],[]⟩
def jN:List FOut:=[⟨(.tuple [(.imm [.str,.str,.str]),(.int .i64)]),[],none⟩]
noncomputable def qog:=qe [(39,q9 q7t q6Q uh),(80,q9 q0N q0M wN),(81,q9 q7Z q6J uZ)] [(36,Tryz.f36)] [] 0
noncomputable def zg:=qm qog 36 Tryz.f36 true jM jN
theorem jh:qM Tryz.prog qa 36 (q9 jM jN zg):=sk qog qc q8 (alc qaw (alc q7z (alc qdK aln))) aln (b1 Tryz.func36) Tryz.func36
def qdA:FIn:=⟨[(.agg [(.imm [(.int .i64),(.int .i64),(.int .i64),(.int .i64),(.int .i64),(.int .i64),.bool]),(.imm [(.int .i64),(.int .i64),(.int .i64)]),(.int .i64)]),(.agg [.str,.str])],[]⟩
def qdU:List FOut:=[⟨(.tuple [.bool,(.int .i64)]),[],none⟩]
def qeF:Tmpl:={ t:=(.any::.any::.any::(.ptr 1 0)::.any::.any::(.imm [.str,.str,.str])::qz 20 ((.vec 2)::(.int .i64)::(.int .i64)::qz 29 [])),h:=[.dead,.cells [.str,.str],.vec 36 [.str]] }
def qe3:List Out:=[⟨(.exit 0),{ t:=(.any::.any::.any::(.ptr 1 0)::.any::.any::(.imm [.str,.str,.str])::qz 52 []),h:=[.dead,.cells [.str,.str]] }⟩,⟨.ret,{ t:=(qz 4 (.bool::(.int .i64)::qz 53 [])),h:=[] }⟩]
noncomputable def q98:=qe [(28,q9 q2n q21 wx),(36,q9 jM jN zg),(75,q9 j5 j4 qD)] [(43,Tryz.f43)] [] 0
noncomputable def uu:=wk q98 43 Tryz.f43 7 qeF qe3
theorem qpj:ql Tryz.prog qa q98.nimp (qy Tryz.prog q98.iter 43) (z6 Tryz.f43 7) (qj qeF qe3 (qf uu)):=
 gk q98 qc q8 (alc q6i (alc jh (alc vw aln))) aln (b1 Tryz.func43) Tryz.func43
def qcg:Tmpl:={ t:=(.any::.any::.any::(.ptr 1 0)::qz 35 ((.imm [.str,.str,.str])::(.int .i64)::(.int .i64)::qz 17 [])),h:=[.dead,.cells [.str,.str]] }
def qcM:List Out:=[⟨(.exit 2),{ t:=(qz 59 []),h:=[] }⟩,⟨.ret,{ t:=(qz 4 (.bool::(.int .i64)::qz 53 [])),h:=[] }⟩]
noncomputable def q77:=qe [(28,q9 q2n q21 wx),(36,q9 jM jN zg),(75,q9 j5 j4 qD)] [(43,Tryz.f43)] [] 0
noncomputable def q1k:=wk q77 43 Tryz.f43 17 qcg qcM
theorem qnj:ql Tryz.prog qa q77.nimp (qy Tryz.prog q77.iter 43) (z6 Tryz.f43 17) (qj qcg qcM (qf q1k)):=
 gk q77 qc q8 (alc q6i (alc jh (alc vw aln))) aln (b1 Tryz.func43) Tryz.func43
noncomputable def qpK:=qe [(28,q9 q2n q21 wx),(36,q9 jM jN zg),(75,q9 j5 j4 qD)] [(43,Tryz.f43)] [((43,7),qj qeF qe3 (qf uu)),((43,17),qj qcg qcM (qf q1k))] 0
noncomputable def uw:=qm qpK 43 Tryz.f43 true qdA qdU
theorem qiJ:qM Tryz.prog qa 43 (q9 qdA qdU uw):=sk qpK qc q8 (alc q6i (alc jh (alc vw aln))) (alc (lk Tryz.func43 qpj) (alc (lk Tryz.func43 qnj) aln)) (b1 Tryz.func43) Tryz.func43
def kH:FIn:=⟨[(.agg [(.imm [(.int .i64),(.int .i64),(.int .i64),(.int .i64),(.int .i64),(.int .i64),.bool]),(.imm [(.int .i64),(.int .i64),(.int .i64)]),(.int .i64)])],[]⟩
def kE:List FOut:=[⟨(.tuple [.bool,(.agg [(.int .i64),(.int .i64),(.int .i64)]),(.int .i64)]),[],none⟩]
noncomputable def qhU:=qe [(23,q9 q90 q8P q0s),(36,q9 jM jN zg)] [(46,Tryz.f46)] [] 0
noncomputable def qw:=qm qhU 46 Tryz.f46 true kH kE
theorem q1D:qM Tryz.prog qa 46 (q9 kH kE qw):=sk qhU qc q8 (alc qfu (alc jh aln)) aln (b1 Tryz.func46) Tryz.func46
def q09:FIn:=⟨[(.agg [(.imm [(.int .i64),(.int .i64),(.int .i64),(.int .i64),(.int .i64),(.int .i64),.bool]),(.imm [(.int .i64),(.int .i64),(.int .i64)]),(.int .i64)])],[]⟩
def kQ:List FOut:=[⟨(.tuple [(.imm [(.int .i64)]),(.int .i64)]),[],none⟩]
noncomputable def q9O:=qe [(17,q9 q3c q3V ye),(36,q9 jM jN zg)] [(48,Tryz.f48)] [] 0
noncomputable def wi:=qm q9O 48 Tryz.f48 true q09 kQ
theorem q6t:qM Tryz.prog qa 48 (q9 q09 kQ wi):=sk q9O qc q8 (alc qfJ (alc jh aln)) aln (b1 Tryz.func48) Tryz.func48
def jZ:FIn:=⟨[(.ptr 0 0),(.int .i64)],[.cells [(.imm [.str,.str,.str]),(.int .i64)]]⟩
def yb:List FOut:=[⟨.bool,[.cells [(.imm [.str,.str,.str]),(.int .i64)]],none⟩]
noncomputable def q9H:=qe [(23,q9 q90 q8P q0s),(81,q9 q7Z q6J uZ)] [(89,Tryz.f89)] [] 1
noncomputable def zy:=qm q9H 89 Tryz.f89 true jZ yb
theorem q10:qM Tryz.prog qa 89 (q9 jZ yb zy):=sk q9H qc q8 (alc qfu (alc qdK aln)) aln (b1 Tryz.func89) Tryz.func89
def qgE:FIn:=⟨[(.int .i64),(.int .i64),(.fn 89 [(.ptr 0 0)] [])],[.cells [(.imm [.str,.str,.str]),(.int .i64)]]⟩
def qgs:List FOut:=[⟨(.int .i64),[.cells [(.imm [.str,.str,.str]),(.int .i64)]],none⟩]
def qcX:Tmpl:={ t:=((.int .i64)::(.int .i64)::(.fn 89 [(.ptr 0 0)] [])::qz 19 []),h:=[.cells [(.imm [.str,.str,.str]),(.int .i64)]] }
def qcw:List Out:=[⟨(.exit 0),{ t:=((.int .i64)::qz 21 []),h:=[.cells [(.imm [.str,.str,.str]),(.int .i64)]] }⟩]
noncomputable def q6P:=qe [(89,q9 jZ yb zy)] [(90,Tryz.f90)] [] 1
noncomputable def q3m:=wk q6P 90 Tryz.f90 2 qcX qcw
theorem qnz:ql Tryz.prog qa q6P.nimp (qy Tryz.prog q6P.iter 90) (z6 Tryz.f90 2) (qj qcX qcw (qf q3m)):=
 gk q6P qc q8 (alc q10 aln) aln (b1 Tryz.func90) Tryz.func90
noncomputable def qnx:=qe [(89,q9 jZ yb zy)] [(90,Tryz.f90)] [((90,2),qj qcX qcw (qf q3m))] 1
noncomputable def q7b:=qm qnx 90 Tryz.f90 true qgE qgs
theorem qqF:qM Tryz.prog qa 90 (q9 qgE qgs q7b):=sk qnx qc q8 (alc q10 aln) (alc (lk Tryz.func90 qnz) aln) (b1 Tryz.func90) Tryz.func90
def q5w:FIn:=⟨[(.agg [(.imm [(.int .i64),(.int .i64),(.int .i64),(.int .i64),(.int .i64),(.int .i64),.bool]),(.imm [(.int .i64),(.int .i64),(.int .i64)]),(.int .i64)])],[]⟩
def q54:List FOut:=[⟨(.tuple [(.int .i64),(.int .i64)]),[],none⟩]
noncomputable def qkW:=qe [(39,q9 q7t q6Q uh),(80,q9 q0N q0M wN),(89,q9 jZ yb zy),(90,q9 qgE qgs q7b)] [(51,Tryz.f51)] [] 0
noncomputable def zQ:=qm qkW 51 Tryz.f51 true q5w q54
theorem q8p:qM Tryz.prog qa 51 (q9 q5w q54 zQ):=sk qkW qc q8 (alc qaw (alc q7z (alc q10 (alc qqF aln)))) aln (b1 Tryz.func51) Tryz.func51
def qlD:FIn:=⟨[(.int .i64),(.int .i64),(.int .i64)],[]⟩
def qml:List FOut:=[⟨(.agg [(.imm [(.int .i64),(.int .i64),(.int .i64),(.int .i64),(.int .i64),(.int .i64),.bool]),(.imm [(.int .i64),(.int .i64),(.int .i64)]),(.int .i64)]),[],none⟩]
noncomputable def qro:=qe [] [(79,Tryz.f79)] [] 0
noncomputable def q6b:=qm qro 79 Tryz.f79 true qlD qml
theorem qu6:qM Tryz.prog qa 79 (q9 qlD qml q6b):=sk qro qc q8 aln aln (b1 Tryz.func79) Tryz.func79
def u9:FIn:=⟨[],[]⟩
def ul:List FOut:=[⟨.bool,[],none⟩]
noncomputable def qnf:=qe [(36,q9 jM jN zg),(43,q9 qdA qdU uw),(46,q9 kH kE qw),(48,q9 q09 kQ wi),(50,q9 kl km zW),(51,q9 q5w q54 zQ),(79,q9 qlD qml q6b)] [(35,Tryz.f35)] [] 0
noncomputable def qo:=qm qnf 35 Tryz.f35 true u9 ul
theorem yN:qM Tryz.prog qa 35 (q9 u9 ul qo):=sk qnf qc q8 (alc jh (alc qiJ (alc q1D (alc q6t (alc q5v (alc q8p (alc qu6 aln))))))) aln (b1 Tryz.func35) Tryz.func35
def qpf:FIn:=⟨[(.int .i64)],[]⟩
def qoU:List FOut:=[⟨.bool,[],none⟩]
noncomputable def quW:=qe [] [(211,Tryz.f211)] [] 0
noncomputable def q6A:=qm quW 211 Tryz.f211 true qpf qoU
theorem qwV:qM Tryz.prog qa 211 (q9 qpf qoU q6A):=sk quW qc q8 aln aln (b1 Tryz.func211) Tryz.func211
def qaZ:FIn:=⟨[(.agg [(.int .i64),(.int .i64)])],[]⟩
def qbz:List FOut:=[⟨.bool,[],none⟩]
noncomputable def qnD:=qe [(211,q9 qpf qoU q6A)] [(174,Tryz.f174)] [] 0
noncomputable def uf:=qm qnD 174 Tryz.f174 true qaZ qbz
theorem qhm:qM Tryz.prog qa 174 (q9 qaZ qbz uf):=sk qnD qc q8 (alc qwV aln) aln (b1 Tryz.func174) Tryz.func174
def qdO:FIn:=⟨[(.int .i64)],[]⟩
def qdP:List FOut:=[⟨.bool,[],none⟩]
noncomputable def qqn:=qe [] [(175,Tryz.f175)] [] 0
noncomputable def jV:=qm qqn 175 Tryz.f175 true qdO qdP
theorem qjg:qM Tryz.prog qa 175 (q9 qdO qdP jV):=sk qqn qc q8 aln aln (b1 Tryz.func175) Tryz.func175
def q7O:FIn:=⟨[(.agg [(.int .i64),(.int .i64),(.int .i64),(.int .i64),(.int .i64),(.int .i64),.bool])],[]⟩
def q6V:List FOut:=[⟨(.int .i64),[],none⟩]
noncomputable def qnk:=qe [(174,q9 qaZ qbz uf),(175,q9 qdO qdP jV)] [(131,Tryz.f131)] [] 0
noncomputable def q1U:=qm qnk 131 Tryz.f131 true q7O q6V
theorem qaI:qM Tryz.prog qa 131 (q9 q7O q6V q1U):=sk qnk qc q8 (alc qhm (alc qjg aln)) aln (b1 Tryz.func131) Tryz.func131
def q9M:FIn:=⟨[(.agg [(.int .i64),(.int .i64),(.int .i64)])],[]⟩
def q9t:List FOut:=[⟨(.int .i64),[],none⟩]
noncomputable def qqi:=qe [(174,q9 qaZ qbz uf),(175,q9 qdO qdP jV)] [(132,Tryz.f132)] [] 0
noncomputable def q3q:=qm qqi 132 Tryz.f132 true q9M q9t
theorem qd1:qM Tryz.prog qa 132 (q9 q9M q9t q3q):=sk qqi qc q8 (alc qhm (alc qjg aln)) aln (b1 Tryz.func132) Tryz.func132
def q2Z:FIn:=⟨[(.imm [(.int .i64),(.int .i64),(.int .i64),(.int .i64),(.int .i64),(.int .i64),.bool]),(.imm [(.int .i64),(.int .i64),(.int .i64)])],[]⟩
def q2X:List FOut:=[⟨(.int .i64),[],none⟩]
def q4T:Tmpl:={ t:=((.imm [(.int .i64),(.int .i64),(.int .i64),(.int .i64),(.int .i64),(.int .i64),.bool])::(.imm [(.int .i64),(.int .i64),(.int .i64)])::.any::.any::.any::(.int .i64)::qz 39 []),h:=[] }
def q4P:List Out:=[⟨(.exit 0),{ t:=((.imm [(.int .i64),(.int .i64),(.int .i64),(.int .i64),(.int .i64),(.int .i64),.bool])::(.imm [(.int .i64),(.int .i64),(.int .i64)])::qz 43 []),h:=[] }⟩,⟨.ret,{ t:=(qz 4 ((.int .i64)::qz 40 [])),h:=[] }⟩]
noncomputable def q0J:=qe [(131,q9 q7O q6V q1U),(132,q9 q9M q9t q3q)] [(84,Tryz.f84)] [] 0
noncomputable def u4:=wk q0J 84 Tryz.f84 6 q4T q4P
theorem qgk:ql Tryz.prog qa q0J.nimp (qy Tryz.prog q0J.iter 84) (z6 Tryz.f84 6) (qj q4T q4P (qf u4)):=
 gk q0J qc q8 (alc qaI (alc qd1 aln)) aln (b1 Tryz.func84) Tryz.func84
def q3k:Tmpl:={ t:=(.any::(.imm [(.int .i64),(.int .i64),(.int .i64)])::qz 5 ((.int .i64)::qz 37 [])),h:=[] }
def q3f:List Out:=[⟨(.exit 2),{ t:=(qz 45 []),h:=[] }⟩,⟨.ret,{ t:=(qz 4 ((.int .i64)::qz 40 [])),h:=[] }⟩]
noncomputable def kR:=qe [(131,q9 q7O q6V q1U),(132,q9 q9M q9t q3q)] [(84,Tryz.f84)] [] 0
noncomputable def jW:=wk kR 84 Tryz.f84 18 q3k q3f
theorem qfI:ql Tryz.prog qa kR.nimp (qy Tryz.prog kR.iter 84) (z6 Tryz.f84 18) (qj q3k q3f (qf jW)):=
 gk kR qc q8 (alc qaI (alc qd1 aln)) aln (b1 Tryz.func84) Tryz.func84
noncomputable def qdi:=qe [(131,q9 q7O q6V q1U),(132,q9 q9M q9t q3q)] [(84,Tryz.f84)] [((84,6),qj q4T q4P (qf u4)),((84,18),qj q3k q3f (qf jW))] 0
noncomputable def yq:=qm qdi 84 Tryz.f84 true q2Z q2X
theorem q9J:qM Tryz.prog qa 84 (q9 q2Z q2X yq):=sk qdi qc q8 (alc qaI (alc qd1 aln)) (alc (lk Tryz.func84 qgk) (alc (lk Tryz.func84 qfI) aln)) (b1 Tryz.func84) Tryz.func84
def q9f:FIn:=⟨[(.agg [(.int .i64),(.int .i64),(.int .i64),(.int .i64),(.int .i64),(.int .i64),.bool]),(.int .i64)],[]⟩
def q92:List FOut:=[⟨.bool,[],none⟩]
noncomputable def qkH:=qe [] [(85,Tryz.f85)] [] 0
noncomputable def q2u:=qm qkH 85 Tryz.f85 true q9f q92
theorem qfv:qM Tryz.prog qa 85 (q9 q9f q92 q2u):=sk qkH qc q8 aln aln (b1 Tryz.func85) Tryz.func85
def wG:FIn:=⟨[(.agg [(.imm [(.int .i64),(.int .i64),(.int .i64),(.int .i64),(.int .i64),(.int .i64),.bool]),(.imm [(.int .i64),(.int .i64),(.int .i64)]),(.int .i64)])],[]⟩
def wE:List FOut:=[⟨(.int .i64),[],none⟩]
def qa4:Tmpl:={ t:=(.any::(.ptr 0 0)::.any::.any::(.int .i64)::qz 40 []),h:=[.cells [(.imm [(.int .i64),(.int .i64),(.int .i64),(.int .i64),(.int .i64),(.int .i64),.bool]),(.imm [(.int .i64),(.int .i64),(.int .i64)]),(.int .i64)]] }
def qai:List Out:=[⟨(.exit 0),{ t:=(.any::(.ptr 0 0)::qz 43 []),h:=[.cells [(.imm [(.int .i64),(.int .i64),(.int .i64),(.int .i64),(.int .i64),(.int .i64),.bool]),(.imm [(.int .i64),(.int .i64),(.int .i64)]),(.int .i64)]] }⟩,⟨.ret,{ t:=(.any::.any::(.int .i64)::qz 42 []),h:=[] }⟩]
noncomputable def q5H:=qe [(84,q9 q2Z q2X yq),(85,q9 q9f q92 q2u)] [(40,Tryz.f40)] [] 0
noncomputable def q2d:=wk q5H 40 Tryz.f40 10 qa4 qai
theorem qlJ:ql Tryz.prog qa q5H.nimp (qy Tryz.prog q5H.iter 40) (z6 Tryz.f40 10) (qj qa4 qai (qf q2d)):=
 gk q5H qc q8 (alc q9J (alc qfv aln)) aln (b1 Tryz.func40) Tryz.func40
noncomputable def qmv:=qe [(84,q9 q2Z q2X yq),(85,q9 q9f q92 q2u)] [(40,Tryz.f40)] [((40,10),qj qa4 qai (qf q2d))] 0
noncomputable def qE:=qm qmv 40 Tryz.f40 true wG wE
theorem zJ:qM Tryz.prog qa 40 (q9 wG wE qE):=sk qmv qc q8 (alc q9J (alc qfv aln)) (alc (lk Tryz.func40 qlJ) aln) (b1 Tryz.func40) Tryz.func40
def qiB:FIn:=⟨[(.int .i64),(.int .i64)],[]⟩
def qiH:List FOut:=[⟨.str,[],none⟩]
noncomputable def qpT:=qe [(71,q9 q0f q0x zM),(73,q9 q2E q2z ze)] [(170,Tryz.f170)] [] 0
noncomputable def q9z:=qm qpT 170 Tryz.f170 true qiB qiH
theorem qrE:qM Tryz.prog qa 170 (q9 qiB qiH q9z):=sk qpT qc q8 (alc q1p (alc q05 aln)) aln (b1 Tryz.func170) Tryz.func170
def q93:FIn:=⟨[(.int .i64),(.int .i64),(.int .i64)],[]⟩
def q9a:List FOut:=[⟨(.agg [.str,.str,.str]),[],none⟩]
noncomputable def qkv:=qe [(27,q9 qgZ qg6 q4A),(170,q9 qiB qiH q9z),(171,q9 q1H q1J qR)] [(127,Tryz.f127)] [] 0
noncomputable def q0E:=qm qkv 127 Tryz.f127 true q93 q9a
theorem qfl:qM Tryz.prog qa 127 (q9 q93 q9a q0E):=sk qkv qc q8 (alc qqs (alc qrE (alc q23 aln))) aln (b1 Tryz.func127) Tryz.func127
def qb4:FIn:=⟨[(.agg [(.int .i64),(.int .i64),(.int .i64),(.int .i64),(.int .i64),(.int .i64),.bool]),(.int .i64)],[]⟩
def qaU:List FOut:=[⟨(.int .i64),[],none⟩]
noncomputable def qn7:=qe [] [(128,Tryz.f128)] [] 0
noncomputable def q1R:=qm qn7 128 Tryz.f128 true qb4 qaU
theorem qhx:qM Tryz.prog qa 128 (q9 qb4 qaU q1R):=sk qn7 qc q8 aln aln (b1 Tryz.func128) Tryz.func128
def q1V:FIn:=⟨[(.agg [(.imm [(.int .i64),(.int .i64),(.int .i64),(.int .i64),(.int .i64),(.int .i64),.bool]),(.imm [(.int .i64),(.int .i64),(.int .i64)]),(.int .i64)])],[]⟩
def q1Q:List FOut:=[⟨(.imm [.str,.str,.str]),[],none⟩]
def qgK:Tmpl:={ t:=(.any::(.ptr 0 0)::.any::(.vec 1)::(.int .i64)::qz 54 []),h:=[.cells [(.imm [(.int .i64),(.int .i64),(.int .i64),(.int .i64),(.int .i64),(.int .i64),.bool]),(.imm [(.int .i64),(.int .i64),(.int .i64)]),(.int .i64)],.vec 40 [.str,.str,.str]],pro:=[(3,40,[.str,.str,.str])] }
def qgl:List Out:=[⟨(.exit 0),{ t:=(.any::(.ptr 0 0)::.any::(.vec 1)::qz 55 []),h:=[.cells [(.imm [(.int .i64),(.int .i64),(.int .i64),(.int .i64),(.int .i64),(.int .i64),.bool]),(.imm [(.int .i64),(.int .i64),(.int .i64)]),(.int .i64)],.vec 40 [.str,.str,.str]] }⟩]
noncomputable def qbs:=qe [(127,q9 q93 q9a q0E),(128,q9 qb4 qaU q1R)] [(82,Tryz.f82)] [] 0
noncomputable def q46:=wk qbs 82 Tryz.f82 4 qgK qgl
theorem qqD:ql Tryz.prog qa qbs.nimp (qy Tryz.prog qbs.iter 82) (z6 Tryz.f82 4) (qj qgK qgl (qf q46)):=
 gk qbs qc q8 (alc qfl (alc qhx aln)) aln (b1 Tryz.func82) Tryz.func82
noncomputable def qs6:=qe [(127,q9 q93 q9a q0E),(128,q9 qb4 qaU q1R)] [(82,Tryz.f82)] [((82,4),qj qgK qgl (qf q46))] 0
noncomputable def wM:=qm qs6 82 Tryz.f82 true q1V q1Q
theorem q0d:qM Tryz.prog qa 82 (q9 q1V q1Q wM):=sk qs6 qc q8 (alc qfl (alc qhx aln)) (alc (lk Tryz.func82 qqD) aln) (b1 Tryz.func82) Tryz.func82
def qgU:FIn:=⟨[(.agg [(.imm [(.int .i64),(.int .i64),(.int .i64),(.int .i64),(.int .i64),(.int .i64),.bool]),(.imm [(.int .i64),(.int .i64),(.int .i64)]),(.int .i64)])],[]⟩
def qhb:List FOut:=[⟨(.tuple [(.imm [.str,.str,.str]),(.int .i64)]),[],none⟩]
noncomputable def qn1:=qe [(40,q9 wG wE qE),(82,q9 q1V q1Q wM)] [(37,Tryz.f37)] [] 0
noncomputable def q7L:=qm qn1 37 Tryz.f37 true qgU qhb
theorem qqu:qM Tryz.prog qa 37 (q9 qgU qhb q7L):=sk qn1 qc q8 (alc zJ (alc q0d aln)) aln (b1 Tryz.func37) Tryz.func37
def q3W:FIn:=⟨[(.agg [(.imm [(.int .i64),(.int .i64),(.int .i64),(.int .i64),(.int .i64),(.int .i64),.bool]),(.imm [(.int .i64),(.int .i64),(.int .i64)]),(.int .i64)])],[]⟩
def q3F:List FOut:=[⟨(.agg [(.imm [(.int .i64),(.int .i64),(.int .i64),(.int .i64),(.int .i64),(.int .i64),.bool]),(.imm [(.int .i64),(.int .i64),(.int .i64)]),(.int .i64)]),[],none⟩]
noncomputable def qsC:=qe [] [(38,Tryz.f38)] [] 0
noncomputable def vD:=qm qsC 38 Tryz.f38 true q3W q3F
theorem q2C:qM Tryz.prog qa 38 (q9 q3W q3F vD):=sk qsC qc q8 aln aln (b1 Tryz.func38) Tryz.func38
def jl:FIn:=⟨[(.imm [.str,.str,.str]),(.imm [.str,.str,.str])],[]⟩
def jk:List FOut:=[⟨.bool,[],none⟩]
def vW:Tmpl:={ t:=((.imm [.str,.str,.str])::(.imm [.str,.str,.str])::qz 10 ((.int .i64)::(.int .i64)::qz 12 [])),h:=[] }
def vV:List Out:=[⟨(.exit 0),{ t:=(qz 26 []),h:=[] }⟩,⟨.ret,{ t:=(qz 4 (.bool::qz 21 [])),h:=[] }⟩]
noncomputable def zL:=qe [] [(41,Tryz.f41)] [] 0
noncomputable def z8:=wk zL 41 Tryz.f41 6 vW vV
theorem q50:ql Tryz.prog qa zL.nimp (qy Tryz.prog zL.iter 41) (z6 Tryz.f41 6) (qj vW vV (qf z8)):=
 gk zL qc q8 aln aln (b1 Tryz.func41) Tryz.func41
noncomputable def q0F:=qe [] [(41,Tryz.f41)] [((41,6),qj vW vV (qf z8))] 0
noncomputable def zn:=qm q0F 41 Tryz.f41 true jl jk
theorem q6c:qM Tryz.prog qa 41 (q9 jl jk zn):=sk q0F qc q8 aln (alc (lk Tryz.func41 q50) aln) (b1 Tryz.func41) Tryz.func41
def q72:FIn:=⟨[(.agg [(.imm [(.int .i64),(.int .i64),(.int .i64),(.int .i64),(.int .i64),(.int .i64),.bool]),(.imm [(.int .i64),(.int .i64),(.int .i64)]),(.int .i64)])],[]⟩
def q7x:List FOut:=[⟨.bool,[],none⟩]
noncomputable def yu:=qe [(34,q9 q8j q8o uX),(35,q9 u9 ul qo),(36,q9 jM jN zg),(37,q9 qgU qhb q7L),(38,q9 q3W q3F vD),(39,q9 q7t q6Q uh),(40,q9 wG wE qE),(41,q9 jl jk zn)] [(6,Tryz.f6)] [] 0
noncomputable def q07:=qm yu 6 Tryz.f6 true q72 q7x
theorem qiu:qM Tryz.prog qa 6 (q9 q72 q7x q07):=sk yu qc q8 (alc q8O (alc yN (alc jh (alc qqu (alc q2C (alc qaw (alc zJ (alc q6c aln)))))))) aln (b1 Tryz.func6) Tryz.func6
def qh9:FIn:=⟨[.str],[]⟩
def qgT:List FOut:=[⟨.bool,[],none⟩]
noncomputable def qnM:=qe [(86,q9 q4l q4o wB)] [(42,Tryz.f42)] [] 0
noncomputable def q45:=qm qnM 42 Tryz.f42 true qh9 qgT
theorem qqO:qM Tryz.prog qa 42 (q9 qh9 qgT q45):=sk qnM qc q8 (alc q5X aln) aln (b1 Tryz.func42) Tryz.func42
def qgr:FIn:=⟨[(.agg [.str,.str,.str]),(.agg [.str,.str])],[]⟩
def qgO:List FOut:=[⟨.bool,[],none⟩]
noncomputable def qtd:=qe [(133,q9 qbm qbC q1E),(134,q9 qlv qmf qcc)] [(87,Tryz.f87)] [] 0
noncomputable def q6n:=qm qtd 87 Tryz.f87 true qgr qgO
theorem qks:qM Tryz.prog qa 87 (q9 qgr qgO q6n):=sk qtd qc q8 (alc qhk (alc qtW aln)) aln (b1 Tryz.func87) Tryz.func87
def qj9:FIn:=⟨[(.agg [(.imm [(.int .i64),(.int .i64),(.int .i64),(.int .i64),(.int .i64),(.int .i64),.bool]),(.imm [(.int .i64),(.int .i64),(.int .i64)]),(.int .i64)]),(.agg [.str,.str])],[]⟩
def qj7:List FOut:=[⟨(.tuple [.bool,(.int .i64)]),[],none⟩]
def qcW:Tmpl:={ t:=(.any::.any::.any::(.ptr 1 0)::qz 5 ((.imm [.str,.str,.str])::(.int .i64)::qz 32 [])),h:=[.dead,.cells [.str,.str]] }
def qbR:List Out:=[⟨(.exit 0),{ t:=(qz 43 []),h:=[] }⟩,⟨.ret,{ t:=(qz 4 (.bool::(.int .i64)::qz 37 [])),h:=[] }⟩]
noncomputable def q7T:=qe [(40,q9 wG wE qE),(54,q9 q4n q4e vA),(82,q9 q1V q1Q wM),(87,q9 qgr qgO q6n)] [(44,Tryz.f44)] [] 0
noncomputable def uR:=wk q7T 44 Tryz.f44 16 qcW qbR
theorem qon:ql Tryz.prog qa q7T.nimp (qy Tryz.prog q7T.iter 44) (z6 Tryz.f44 16) (qj qcW qbR (qf uR)):=
 gk q7T qc q8 (alc zJ (alc q5L (alc q0d (alc qks aln)))) aln (b1 Tryz.func44) Tryz.func44
noncomputable def qqb:=qe [(40,q9 wG wE qE),(54,q9 q4n q4e vA),(82,q9 q1V q1Q wM),(87,q9 qgr qgO q6n)] [(44,Tryz.f44)] [((44,16),qj qcW qbR (qf uR))] 0
noncomputable def q3i:=qm qqb 44 Tryz.f44 true qj9 qj7
theorem qsK:qM Tryz.prog qa 44 (q9 qj9 qj7 q3i):=sk qqb qc q8 (alc zJ (alc q5L (alc q0d (alc qks aln)))) (alc (lk Tryz.func44 qon) aln) (b1 Tryz.func44) Tryz.func44
def q8B:FIn:=⟨[(.agg [(.imm [(.int .i64),(.int .i64),(.int .i64),(.int .i64),(.int .i64),(.int .i64),.bool]),(.imm [(.int .i64),(.int .i64),(.int .i64)]),(.int .i64)]),(.agg [.str,.str])],[]⟩
def q8E:List FOut:=[⟨.bool,[],none⟩]
noncomputable def vN:=qe [(34,q9 q8j q8o uX),(35,q9 u9 ul qo),(38,q9 q3W q3F vD),(42,q9 qh9 qgT q45),(43,q9 qdA qdU uw),(44,q9 qj9 qj7 q3i)] [(7,Tryz.f7)] [] 0
noncomputable def q17:=qm vN 7 Tryz.f7 true q8B q8E
theorem qkd:qM Tryz.prog qa 7 (q9 q8B q8E q17):=sk vN qc q8 (alc q8O (alc yN (alc q2C (alc qqO (alc qiJ (alc qsK aln)))))) aln (b1 Tryz.func7) Tryz.func7
def qcP:FIn:=⟨[(.agg [(.imm [(.int .i64),(.int .i64),(.int .i64),(.int .i64),(.int .i64),(.int .i64),.bool]),(.imm [(.int .i64),(.int .i64),(.int .i64)]),(.int .i64)])],[]⟩
def qbQ:List FOut:=[⟨.bool,[],none⟩]
noncomputable def qsN:=qe [(34,q9 q8j q8o uX),(40,q9 wG wE qE)] [(45,Tryz.f45)] [] 0
noncomputable def q1I:=qm qsN 45 Tryz.f45 true qcP qbQ
theorem qeK:qM Tryz.prog qa 45 (q9 qcP qbQ q1I):=sk qsN qc q8 (alc q8O (alc zJ aln)) aln (b1 Tryz.func45) Tryz.func45
def qad:FIn:=⟨[(.agg [(.imm [(.int .i64),(.int .i64),(.int .i64),(.int .i64),(.int .i64),(.int .i64),.bool]),(.imm [(.int .i64),(.int .i64),(.int .i64)]),(.int .i64)])],[]⟩
def q9X:List FOut:=[⟨(.tuple [.bool,(.agg [(.int .i64),(.int .i64),(.int .i64)]),(.int .i64)]),[],none⟩]
noncomputable def qhl:=qe [(40,q9 wG wE qE),(82,q9 q1V q1Q wM),(88,q9 jO jy zF)] [(47,Tryz.f47)] [] 0
noncomputable def q2e:=qm qhl 47 Tryz.f47 true qad q9X
theorem qll:qM Tryz.prog qa 47 (q9 qad q9X q2e):=sk qhl qc q8 (alc zJ (alc q0d (alc jc aln))) aln (b1 Tryz.func47) Tryz.func47
def q3T:FIn:=⟨[(.agg [(.imm [(.int .i64),(.int .i64),(.int .i64),(.int .i64),(.int .i64),(.int .i64),.bool]),(.imm [(.int .i64),(.int .i64),(.int .i64)]),(.int .i64)])],[]⟩
def q3D:List FOut:=[⟨(.tuple [(.imm [(.int .i64)]),(.int .i64)]),[],none⟩]
noncomputable def q9V:=qe [(40,q9 wG wE qE),(66,q9 qgP qhh q7c),(82,q9 q1V q1Q wM)] [(49,Tryz.f49)] [] 0
noncomputable def jT:=qm q9V 49 Tryz.f49 true q3T q3D
theorem qfH:qM Tryz.prog qa 49 (q9 q3T q3D jT):=sk q9V qc q8 (alc zJ (alc qqH (alc q0d aln))) aln (b1 Tryz.func49) Tryz.func49
def q7M:FIn:=⟨[(.agg [(.imm [(.int .i64),(.int .i64),(.int .i64),(.int .i64),(.int .i64),(.int .i64),.bool]),(.imm [(.int .i64),(.int .i64),(.int .i64)]),(.int .i64)])],[]⟩
def q75:List FOut:=[⟨.bool,[],none⟩]
noncomputable def yE:=qe [(35,q9 u9 ul qo),(38,q9 q3W q3F vD),(45,q9 qcP qbQ q1I),(46,q9 kH kE qw),(47,q9 qad q9X q2e),(48,q9 q09 kQ wi),(49,q9 q3T q3D jT),(50,q9 kl km zW)] [(8,Tryz.f8)] [] 0
noncomputable def kP:=qm yE 8 Tryz.f8 true q7M q75
theorem qjs:qM Tryz.prog qa 8 (q9 q7M q75 kP):=sk yE qc q8 (alc yN (alc q2C (alc qeK (alc q1D (alc qll (alc q6t (alc qfH (alc q5v aln)))))))) aln (b1 Tryz.func8) Tryz.func8
def qj2:FIn:=⟨[(.agg [(.imm [(.int .i64),(.int .i64),(.int .i64),(.int .i64),(.int .i64),(.int .i64),.bool]),(.imm [(.int .i64),(.int .i64),(.int .i64)]),(.int .i64)]),(.int .i64)],[]⟩
def qiM:List FOut:=[⟨(.agg [(.imm [(.int .i64),(.int .i64),(.int .i64),(.int .i64),(.int .i64),(.int .i64),.bool]),(.imm [(.int .i64),(.int .i64),(.int .i64)]),(.int .i64)]),[],none⟩]
noncomputable def qpY:=qe [] [(136,Tryz.f136)] [] 0
noncomputable def qdu:=qm qpY 136 Tryz.f136 true qj2 qiM
theorem qsZ:qM Tryz.prog qa 136 (q9 qj2 qiM qdu):=sk qpY qc q8 aln aln (b1 Tryz.func136) Tryz.func136
def q66:FIn:=⟨[(.agg [(.imm [(.int .i64),(.int .i64),(.int .i64),(.int .i64),(.int .i64),(.int .i64),.bool]),(.imm [(.int .i64),(.int .i64),(.int .i64)]),(.int .i64)]),(.int .i64)],[]⟩
def q63:List FOut:=[⟨.bool,[],none⟩]
noncomputable def qhP:=qe [(82,q9 q1V q1Q wM),(88,q9 jO jy zF),(136,q9 qj2 qiM qdu)] [(91,Tryz.f91)] [] 0
noncomputable def yR:=qm qhP 91 Tryz.f91 true q66 q63
theorem qcu:qM Tryz.prog qa 91 (q9 q66 q63 yR):=sk qhP qc q8 (alc q0d (alc jc (alc qsZ aln))) aln (b1 Tryz.func91) Tryz.func91
def qek:FIn:=⟨[(.agg [(.imm [(.int .i64),(.int .i64),(.int .i64),(.int .i64),(.int .i64),(.int .i64),.bool]),(.imm [(.int .i64),(.int .i64),(.int .i64)]),(.int .i64)])],[]⟩
def qej:List FOut:=[⟨(.tuple [(.int .i64),(.int .i64)]),[],none⟩]
def q8h:Tmpl:={ t:=(.any::(.ptr 0 0)::.any::.any::.any::(.int .i64)::(.int .i64)::qz 29 []),h:=[.cells [(.imm [(.int .i64),(.int .i64),(.int .i64),(.int .i64),(.int .i64),(.int .i64),.bool]),(.imm [(.int .i64),(.int .i64),(.int .i64)]),(.int .i64)]] }
def q8s:List Out:=[⟨(.exit 0),{ t:=(qz 5 ((.int .i64)::qz 30 [])),h:=[] }⟩]
noncomputable def q4y:=qe [(40,q9 wG wE qE),(91,q9 q66 q63 yR)] [(52,Tryz.f52)] [] 0
noncomputable def uM:=wk q4y 52 Tryz.f52 10 q8h q8s
theorem qkc:ql Tryz.prog qa q4y.nimp (qy Tryz.prog q4y.iter 52) (z6 Tryz.f52 10) (qj q8h q8s (qf uM)):=
 gk q4y qc q8 (alc zJ (alc qcu aln)) aln (b1 Tryz.func52) Tryz.func52
noncomputable def qkp:=qe [(40,q9 wG wE qE),(91,q9 q66 q63 yR)] [(52,Tryz.f52)] [((52,10),qj q8h q8s (qf uM))] 0
noncomputable def ut:=qm qkp 52 Tryz.f52 true qek qej
theorem qph:qM Tryz.prog qa 52 (q9 qek qej ut):=sk qkp qc q8 (alc zJ (alc qcu aln)) (alc (lk Tryz.func52 qkc) aln) (b1 Tryz.func52) Tryz.func52
def q7N:FIn:=⟨[(.agg [(.imm [(.int .i64),(.int .i64),(.int .i64),(.int .i64),(.int .i64),(.int .i64),.bool]),(.imm [(.int .i64),(.int .i64),(.int .i64)]),(.int .i64)])],[]⟩
def q7d:List FOut:=[⟨.bool,[],none⟩]
noncomputable def yp:=qe [(35,q9 u9 ul qo),(38,q9 q3W q3F vD),(45,q9 qcP qbQ q1I),(51,q9 q5w q54 zQ),(52,q9 qek qej ut)] [(9,Tryz.f9)] [] 0
noncomputable def kW:=qm yp 9 Tryz.f9 true q7N q7d
theorem qih:qM Tryz.prog qa 9 (q9 q7N q7d kW):=sk yp qc q8 (alc yN (alc q2C (alc qeK (alc q8p (alc qph aln))))) aln (b1 Tryz.func9) Tryz.func9
def qbk:FIn:=⟨[(.agg [(.imm [(.int .i64),(.int .i64),(.int .i64),(.int .i64),(.int .i64),(.int .i64),.bool]),(.imm [(.int .i64),(.int .i64),(.int .i64)]),(.int .i64)])],[]⟩
def qbd:List FOut:=[⟨.bool,[],none⟩]
noncomputable def qnB:=qe [(38,q9 q3W q3F vD),(40,q9 wG wE qE),(45,q9 qcP qbQ q1I)] [(53,Tryz.f53)] [] 0
noncomputable def vo:=qm qnB 53 Tryz.f53 true qbk qbd
theorem qhI:qM Tryz.prog qa 53 (q9 qbk qbd vo):=sk qnB qc q8 (alc q2C (alc zJ (alc qeK aln))) aln (b1 Tryz.func53) Tryz.func53
def q6g:FIn:=⟨[(.agg [(.imm [(.int .i64),(.int .i64),(.int .i64),(.int .i64),(.int .i64),(.int .i64),.bool]),(.imm [(.int .i64),(.int .i64),(.int .i64)]),(.int .i64)])],[]⟩
def q6l:List FOut:=[⟨.bool,[],none⟩]
noncomputable def jq:=qe [(35,q9 u9 ul qo),(46,q9 kH kE qw),(51,q9 q5w q54 zQ),(53,q9 qbk qbd vo)] [(11,Tryz.f11)] [] 0
noncomputable def uY:=qm jq 11 Tryz.f11 true q6g q6l
theorem qi0:qM Tryz.prog qa 11 (q9 q6g q6l uY):=sk jq qc q8 (alc yN (alc q1D (alc q8p (alc qhI aln)))) aln (b1 Tryz.func11) Tryz.func11
def qeC:FIn:=⟨[(.imm [.str,.str,.str]),(.agg [(.int .i64),(.int .i64),(.int .i64)])],[]⟩
def qeg:List FOut:=[⟨(.tuple [.bool,(.int .i64)]),[],none⟩]
noncomputable def qld:=qe [(62,q9 je jf zx),(78,q9 wl wh qS)] [(29,Tryz.f29)] [] 0
noncomputable def q5r:=qm qld 29 Tryz.f29 true qeC qeg
theorem qpi:qM Tryz.prog qa 29 (q9 qeC qeg q5r):=sk qld qc q8 (alc v7 (alc wW aln)) aln (b1 Tryz.func29) Tryz.func29
def qeT:FIn:=⟨[(.agg [(.imm [(.int .i64),(.int .i64),(.int .i64),(.int .i64),(.int .i64),(.int .i64),.bool]),(.imm [(.int .i64),(.int .i64),(.int .i64)]),(.int .i64)]),(.agg [(.int .i64),(.int .i64),(.int .i64)])],[]⟩
def qem:List FOut:=[⟨(.tuple [.bool,(.int .i64)]),[],none⟩]
noncomputable def qkZ:=qe [(29,q9 qeC qeg q5r),(36,q9 jM jN zg)] [(56,Tryz.f56)] [] 0
noncomputable def q55:=qm qkZ 56 Tryz.f56 true qeT qem
theorem qpq:qM Tryz.prog qa 56 (q9 qeT qem q55):=sk qkZ qc q8 (alc qpi (alc jh aln)) aln (b1 Tryz.func56) Tryz.func56
def qen:FIn:=⟨[(.imm [.str,.str,.str]),(.agg [(.int .i64),(.int .i64),(.int .i64)])],[]⟩
def qe1:List FOut:=[⟨(.tuple [.bool,(.int .i64)]),[],none⟩]
def qam:Tmpl:={ t:=((.imm [.str,.str,.str])::.any::.any::(.ptr 0 0)::qz 14 ((.vec 1)::(.int .i64)::(.int .i64)::qz 28 [])),h:=[.cells [(.int .i64),(.int .i64),(.int .i64)],.vec 3 [(.int .i64)]] }
def qaD:List Out:=[⟨(.exit 0),{ t:=((.imm [.str,.str,.str])::.any::.any::(.ptr 0 0)::qz 45 []),h:=[.cells [(.int .i64),(.int .i64),(.int .i64)]] }⟩,⟨.ret,{ t:=(qz 4 (.bool::(.int .i64)::qz 43 [])),h:=[] }⟩]
noncomputable def q5Z:=qe [(65,q9 qdx qdy q3u),(135,q9 jJ jQ zN)] [(97,Tryz.f97)] [] 0
noncomputable def q2k:=wk q5Z 97 Tryz.f97 7 qam qaD
theorem qlE:ql Tryz.prog qa q5Z.nimp (qy Tryz.prog q5Z.iter 97) (z6 Tryz.f97 7) (qj qam qaD (qf q2k)):=
 gk q5Z qc q8 (alc qiN (alc jo aln)) aln (b1 Tryz.func97) Tryz.func97
noncomputable def qkQ:=qe [(65,q9 qdx qdy q3u),(135,q9 jJ jQ zN)] [(97,Tryz.f97)] [((97,7),qj qam qaD (qf q2k))] 0
noncomputable def q56:=qm qkQ 97 Tryz.f97 true qen qe1
theorem qpn:qM Tryz.prog qa 97 (q9 qen qe1 q56):=sk qkQ qc q8 (alc qiN (alc jo aln)) (alc (lk Tryz.func97 qlE) aln) (b1 Tryz.func97) Tryz.func97
def qed:FIn:=⟨[(.agg [(.imm [(.int .i64),(.int .i64),(.int .i64),(.int .i64),(.int .i64),(.int .i64),.bool]),(.imm [(.int .i64),(.int .i64),(.int .i64)]),(.int .i64)]),(.agg [(.int .i64),(.int .i64),(.int .i64)])],[]⟩
def qe9:List FOut:=[⟨(.tuple [.bool,(.int .i64)]),[],none⟩]
noncomputable def ql0:=qe [(40,q9 wG wE qE),(82,q9 q1V q1Q wM),(97,q9 qen qe1 q56)] [(57,Tryz.f57)] [] 0
noncomputable def q5a:=qm ql0 57 Tryz.f57 true qed qe9
theorem qp6:qM Tryz.prog qa 57 (q9 qed qe9 q5a):=sk ql0 qc q8 (alc zJ (alc q0d (alc qpn aln))) aln (b1 Tryz.func57) Tryz.func57
def q3p:FIn:=⟨[(.agg [(.imm [(.int .i64),(.int .i64),(.int .i64),(.int .i64),(.int .i64),(.int .i64),.bool]),(.imm [(.int .i64),(.int .i64),(.int .i64)]),(.int .i64)]),(.agg [(.int .i64),(.int .i64),(.int .i64)])],[]⟩
def q3M:List FOut:=[⟨.bool,[],none⟩]
noncomputable def zw:=qe [(34,q9 q8j q8o uX),(35,q9 u9 ul qo),(38,q9 q3W q3F vD),(56,q9 qeT qem q55),(57,q9 qed qe9 q5a)] [(12,Tryz.f12)] [] 0
noncomputable def jX:=qm zw 12 Tryz.f12 true q3p q3M
theorem qfs:qM Tryz.prog qa 12 (q9 q3p q3M jX):=sk zw qc q8 (alc q8O (alc yN (alc q2C (alc qpq (alc qp6 aln))))) aln (b1 Tryz.func12) Tryz.func12
def qm6:FIn:=⟨[(.agg [(.int .i64),(.int .i64),(.int .i64),(.int .i64),(.int .i64),(.int .i64),.bool]),(.agg [(.int .i64),(.int .i64),(.int .i64)])],[]⟩
def qlV:List FOut:=[⟨(.tuple [(.int .i64),(.int .i64)]),[],none⟩]
noncomputable def qsw:=qe [] [(137,Tryz.f137)] [] 0
noncomputable def qgD:=qm qsw 137 Tryz.f137 true qm6 qlV
theorem qu4:qM Tryz.prog qa 137 (q9 qm6 qlV qgD):=sk qsw qc q8 aln aln (b1 Tryz.func137) Tryz.func137
def qdV:FIn:=⟨[(.agg [(.int .i64),(.int .i64),(.int .i64),(.int .i64),(.int .i64),(.int .i64),.bool]),(.agg [(.int .i64),(.int .i64),(.int .i64)])],[]⟩
def qdL:List FOut:=[⟨.bool,[],none⟩]
noncomputable def qqh:=qe [(137,q9 qm6 qlV qgD),(138,q9 qk0 qjP q8L),(139,q9 ue un zB),(140,q9 q95 q9b q0v)] [(98,Tryz.f98)] [] 0
noncomputable def q6r:=qm qqh 98 Tryz.f98 true qdV qdL
theorem qiw:qM Tryz.prog qa 98 (q9 qdV qdL q6r):=sk qqh qc q8 (alc qu4 (alc qok (alc q4I (alc qfi aln)))) aln (b1 Tryz.func98) Tryz.func98
def qay:FIn:=⟨[(.imm [(.int .i64),(.int .i64),(.int .i64),(.int .i64),(.int .i64),(.int .i64),.bool]),(.imm [(.int .i64),(.int .i64),(.int .i64)])],[]⟩
def qa3:List FOut:=[⟨(.tuple [(.imm [(.int .i64)]),(.int .i64)]),[],none⟩]
def q7U:Tmpl:={ t:=(.any::(.imm [(.int .i64),(.int .i64),(.int .i64)])::qz 5 ((.vec 0)::qz 8 ((.imm [(.int .i64),(.int .i64),(.int .i64),(.int .i64),(.int .i64),(.int .i64),.bool])::(.int .i64)::(.int .i64)::qz 17 []))),h:=[.vec 3 [(.int .i64)]],pro:=[(7,3,[(.int .i64)])] }
def q7l:List Out:=[⟨(.exit 0),{ t:=(qz 7 ((.vec 0)::qz 28 [])),h:=[.vec 3 [(.int .i64)]] }⟩]
noncomputable def q31:=qe [(83,q9 yI yo zY),(98,q9 qdV qdL q6r)] [(58,Tryz.f58)] [] 0
noncomputable def kU:=wk q31 58 Tryz.f58 8 q7U q7l
theorem qja:ql Tryz.prog qa q31.nimp (qy Tryz.prog q31.iter 58) (z6 Tryz.f58 8) (qj q7U q7l (qf kU)):=
 gk q31 qc q8 (alc q01 (alc qiw aln)) aln (b1 Tryz.func58) Tryz.func58
noncomputable def qhK:=qe [(83,q9 yI yo zY),(98,q9 qdV qdL q6r)] [(58,Tryz.f58)] [((58,8),qj q7U q7l (qf kU))] 0
noncomputable def q2a:=qm qhK 58 Tryz.f58 true qay qa3
theorem qlA:qM Tryz.prog qa 58 (q9 qay qa3 q2a):=sk qhK qc q8 (alc q01 (alc qiw aln)) (alc (lk Tryz.func58 qja) aln) (b1 Tryz.func58) Tryz.func58
def vd:FIn:=⟨[(.imm [(.int .i64),(.int .i64),(.int .i64),(.int .i64),(.int .i64),(.int .i64),.bool])],[]⟩
def v6:List FOut:=[⟨(.vec 0),[.vec 97 [(.int .i64),(.int .i64),(.int .i64),(.int .i64),(.int .i64),(.int .i64),.bool]],none⟩]
noncomputable def uy:=qe [] [(59,Tryz.f59)] [] 0
noncomputable def qJ:=qm uy 59 Tryz.f59 false vd v6
theorem q3E:qM Tryz.prog qa 59 (q9 vd v6 qJ):=qp1 (E:=uy) qc ⟨yj q8,aln,aln,(b1 Tryz.func59)⟩ Tryz.func59 (by kernel_rfl) (by kernel_rfl) (fun _=>rfl)
def q6G:FIn:=⟨[(.agg [(.imm [(.int .i64),(.int .i64),(.int .i64),(.int .i64),(.int .i64),(.int .i64),.bool]),(.imm [(.int .i64),(.int .i64),(.int .i64)]),(.int .i64)]),(.int .u8)],[]⟩
def q6I:List FOut:=[⟨.bool,[],none⟩]
noncomputable def wS:=qe [(35,q9 u9 ul qo),(46,q9 kH kE qw),(53,q9 qbk qbd vo),(58,q9 qay qa3 q2a),(59,q9 vd v6 qJ)] [(14,Tryz.f14)] [] 0
noncomputable def q03:=qm wS 14 Tryz.f14 true q6G q6I
theorem qig:qM Tryz.prog qa 14 (q9 q6G q6I q03):=sk wS qc q8 (alc yN (alc q1D (alc qhI (alc qlA (alc q3E aln))))) aln (b1 Tryz.func14) Tryz.func14
end Go.Eng

