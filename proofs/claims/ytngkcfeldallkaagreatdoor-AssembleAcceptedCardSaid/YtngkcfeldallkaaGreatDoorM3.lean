/- Texts of the proof, merged: what the code computes, and plain laws. No statement stands here. -/
import Derived.KernelRfl
import Derived.Shelf.Strings.SlTrimAscii
import Derived.Shelf.Strings.Search2
import Derived.Shelf.Small.Strs
import Derived.Shelf.Strconv.Itoa3
import Derived.Shelf.Strconv.Atoi
import Derived.Shelf.Strings.BuilderK
import Derived.Shelf.LaysM
import Derived.Test.YtngkcfeldallkaaGreatDoorProg
import Derived.WalkKit
import Derived.BigCall
import Derived.Deep.RegionWith
import Derived.Laws.Externs
import Derived.Lib.Builder
import Derived.Lib.AppendStr
import Derived.Test.YtngkcfeldallkaaGreatDoorM2
namespace Go.Eng
inductive PK where
 | i|b|s|r
inductive PV where
 | i (n:Int)|b (x:Bool)|s (l:List UInt8)|r (l:R)
def PV.kind:PV→PK|.i _=>.i|.b _=>.b|.s _=>.s|.r _=>.r
def PV.toI:PV→Int|.i n=>n|_=>0
def PV.toB:PV→Bool|.b x=>x|_=>false
def PV.toS:PV→List UInt8|.s x=>x|_=>[]
def PV.toR:PV→R|.r x=>x|_=>[]
inductive AP where
 | any|yld
 | int (k:IntKind)|bool|str|blit (b:Bool)
 | nilp|ptr (b off:Nat)|eptr (sh:List Sh) (off:Nat)|mptr (sh:List Sh) (off:Nat)|vptr (b off:Nat)
 | nils|imm (sh:List Sh)|vec (b:Nat)
 | nilf|fn (f:FuncId) (first caps:List AP)
 | agg (l:List AP)|tuple (l:List AP)
def qL:Nat→List AP→List AP
 | 0,l=>l
 | n+1,l=>.any::qL n l
def qxX:Option (List PV)→Option (List PV)→Option (List PV)
 | some a,some b=>some (a++b)
 | _,_=>none
mutual
def AP.take:AP→AV→Option (List PV)
 | .any,_=>some []
 | .yld,.yld=>some []
 | .int k,.int k' n=>if k=k' then some [.i n] else none
 | .int k,.ilit k' n=>if k=k' then some [.i n] else none
 | .bool,.bool b=>some [.b b]
 | .bool,.blit b=>some [.b b]
 | .str,.str s=>some [.s s]
 | .blit b,.blit b'=>if b=b' then some [] else none
 | .nilp,.nilp=>some []
 | .ptr b off,.ptr b' off'=>if b=b'∧off=off' then some [] else none
 | .eptr sh off,.eptr sh' l i off'=>if Sh.beqL sh sh'=true∧off=off' then some [.r l,.i i] else none
 | .mptr _ _,.nilp=>some [.b false,.r [],.i 0]
 | .mptr sh off,.eptr sh' l i off'=>if Sh.beqL sh sh'=true∧off=off' then some [.b true,.r l,.i i] else none
 | .mptr sh off,.mptr c sh' l i off'=>if Sh.beqL sh sh'=true∧off=off' then some [.b c,.r l,.i i] else none
 | .vptr b off,.vptr b' i off'=>if b=b'∧off=off' then some [.i i] else none
 | .nils,.nils=>some []
 | .imm sh,.imm sh' l=>if Sh.beqL sh sh'=true then some [.r l] else none
 | .imm _,.nils=>some [.r []]
 | .vec b,.vec b'=>if b=b' then some [] else none
 | .nilf,.nilf=>some []
 | .fn f p q,.fn g a c=>if f=g then qxX (AP.takeL p a) (AP.takeL q c) else none
 | .agg l,.agg a=>AP.takeL l a
 | .tuple l,.tuple a=>AP.takeL l a
 | _,_=>none
def AP.takeL:List AP→List AV→Option (List PV)
 | [],[]=>some []
 | p::l,a::azz=>qxX (p.take a) (AP.takeL l azz)
 | _,_=>none
end
mutual
def AP.make:AP→List PV→AV×List PV
 | .any,ps=>(.undef,ps)
 | .yld,ps=>(.yld,ps)
 | .int k,.i n::ps=>(.int k n,ps)
 | .bool,.b x::ps=>(.bool x,ps)
 | .str,.s x::ps=>(.str x,ps)
 | .blit b,ps=>(.blit b,ps)
 | .nilp,ps=>(.nilp,ps)
 | .ptr b off,ps=>(.ptr b off,ps)
 | .eptr sh off,.r l::.i i::ps=>(.eptr sh l i off,ps)
 | .mptr sh off,.b c::.r l::.i i::ps=>(.mptr c sh l i off,ps)
 | .vptr b off,.i i::ps=>(.vptr b i off,ps)
 | .nils,ps=>(.nils,ps)
 | .imm sh,.r l::ps=>(.imm sh l,ps)
 | .vec b,ps=>(.vec b,ps)
 | .nilf,ps=>(.nilf,ps)
 | .fn f p q,ps=>let x:=AP.makeL p ps;let y:=AP.makeL q x.2;(.fn f x.1 y.1,y.2)
 | .agg l,ps=>let x:=AP.makeL l ps;(.agg x.1,x.2)
 | .tuple l,ps=>let x:=AP.makeL l ps;(.tuple x.1,x.2)
 | _,ps=>(.undef,ps)
def AP.makeL:List AP→List PV→List AV×List PV
 | [],ps=>([],ps)
 | p::l,ps=>let x:=p.make ps;let y:=AP.makeL l x.2;(x.1::y.1,y.2)
end
mutual
def AP.kinds:AP→List PK
 | .int _=>[.i]|.bool=>[.b]|.str=>[.s]
 | .eptr _ _=>[.r,.i]|.mptr _ _=>[.b,.r,.i]|.vptr _ _=>[.i]|.imm _=>[.r]
 | .fn _ p q=>AP.kindsL p++AP.kindsL q
 | .agg l=>AP.kindsL l
 | .tuple l=>AP.kindsL l
 | _=>[]
def AP.kindsL:List AP→List PK
 | []=>[]
 | p::l=>p.kinds++AP.kindsL l
end
theorem q3G{a b:Option (List PV)}{c:List PV}(h:qxX a b=some c):∃x y,a=some x∧b=some y∧c=x++y:=by
 cases a<;>cases b<;>simp[qxX] at h
 exact⟨_,_,rfl,rfl,h.symm⟩
mutual
theorem AP.take_ok{X:Ctx}:∀(p:AP) (a:AV) (ps rest:List PV),p.take a=some ps→(p.make (ps++rest)).2=rest∧ps.map PV.kind=p.kinds∧∀v,Rep X a v→Rep X (p.make (ps++rest)).1 v
 | .any,a,ps,rest,h=>by simp only[AP.take,Option.some.injEq] at h;subst h;exact⟨rfl,rfl,fun v _=>.undef v⟩
 | .yld,a,ps,rest,h=>by
  cases a<;>simp only[AP.take] at h<;>first|(cases h;done)|skip
  cases h;exact⟨rfl,rfl,fun v hv=>hv⟩
 | .int k,a,ps,rest,h=>by
  cases a<;>simp only[AP.take] at h<;>first|(cases h;done)|skip
  all_goals
   split at h
   ·rename_i hk;cases h;subst hk
    refine⟨rfl,rfl,fun v hv=>?_⟩
    cases hv
    exact .int _ _
   ·cases h
 | .bool,a,ps,rest,h=>by
  cases a<;>simp only[AP.take] at h<;>first|(cases h;done)|skip
  all_goals
   cases h
   refine⟨rfl,rfl,fun v hv=>?_⟩
   cases hv
   exact .bool _
 | .str,a,ps,rest,h=>by
  cases a<;>simp only[AP.take] at h<;>first|(cases h;done)|skip
  cases h
  exact⟨rfl,rfl,fun v hv=>hv⟩
 | .blit b,a,ps,rest,h=>by
  cases a<;>simp only[AP.take] at h<;>first|(cases h;done)|skip
  split at h
  ·rename_i hb;cases h;subst hb;exact⟨rfl,rfl,fun v hv=>hv⟩
  ·cases h
 | .nilp,a,ps,rest,h=>by
  cases a<;>simp only[AP.take] at h<;>first|(cases h;done)|skip
  cases h;exact⟨rfl,rfl,fun v hv=>hv⟩
 | .ptr b off,a,ps,rest,h=>by
  cases a<;>simp only[AP.take] at h<;>first|(cases h;done)|skip
  split at h
  ·rename_i hb;cases h;obtain⟨rfl,rfl⟩:=hb;exact⟨rfl,rfl,fun v hv=>hv⟩
  ·cases h
 | .eptr sh off,a,ps,rest,h=>by
  cases a<;>simp only[AP.take] at h<;>first|(cases h;done)|skip
  split at h
  ·rename_i hb;cases h;obtain⟨hb,rfl⟩:=hb;have:=Sh.beqL_eq _ _ hb;subst this;exact⟨rfl,rfl,fun v hv=>hv⟩
  ·cases h
 | .mptr sh off,a,ps,rest,h=>by
  cases a<;>simp only[AP.take] at h<;>first|(cases h;done)|skip
  ·cases h
   refine⟨rfl,rfl,fun v hv=>?_⟩
   cases hv
   exact .mnil _ _ _ _
  ·split at h
   ·rename_i hb;cases h;obtain⟨hb,rfl⟩:=hb;have:=Sh.beqL_eq _ _ hb;subst this
    refine⟨rfl,rfl,fun v hv=>?_⟩
    cases hv with
    | eptr _ _ _ _ a h1 h2 h3 h4=>exact .mptr _ _ _ _ a h1 h2 h3 h4
   ·cases h
  ·split at h
   ·rename_i hb;cases h;obtain⟨hb,rfl⟩:=hb;have:=Sh.beqL_eq _ _ hb;subst this;exact⟨rfl,rfl,fun v hv=>hv⟩
   ·cases h
 | .vptr b off,a,ps,rest,h=>by
  cases a<;>simp only[AP.take] at h<;>first|(cases h;done)|skip
  split at h
  ·rename_i hb;cases h;obtain⟨rfl,rfl⟩:=hb;exact⟨rfl,rfl,fun v hv=>hv⟩
  ·cases h
 | .nils,a,ps,rest,h=>by
  cases a<;>simp only[AP.take] at h<;>first|(cases h;done)|skip
  cases h;exact⟨rfl,rfl,fun v hv=>hv⟩
 | .imm sh,a,ps,rest,h=>by
  cases a<;>simp only[AP.take] at h<;>first|(cases h;done)|skip
  ·cases h
   refine⟨rfl,rfl,fun v hv=>?_⟩
   cases hv
   exact .imm _ _ _ (.inl ⟨rfl,rfl⟩)
  ·split at h
   ·rename_i hb;cases h;have:=Sh.beqL_eq _ _ hb;subst this;exact⟨rfl,rfl,fun v hv=>hv⟩
   ·cases h
 | .vec b,a,ps,rest,h=>by
  cases a<;>simp only[AP.take] at h<;>first|(cases h;done)|skip
  split at h
  ·rename_i hb;cases h;subst hb;exact⟨rfl,rfl,fun v hv=>hv⟩
  ·cases h
 | .nilf,a,ps,rest,h=>by
  cases a<;>simp only[AP.take] at h<;>first|(cases h;done)|skip
  cases h;exact⟨rfl,rfl,fun v hv=>hv⟩
 | .fn f p q,a,ps,rest,h=>by
  cases a<;>simp only[AP.take] at h<;>first|(cases h;done)|skip
  rename_i g a c
  split at h
  ·rename_i hf;subst hf
   obtain⟨x,y,h1,h2,rfl⟩:=q3G h
   obtain⟨a1,a2,a3⟩:=AP.takeL_ok (X:=X) p a x (y++rest) h1
   obtain⟨b1,b2,b3⟩:=AP.takeL_ok (X:=X) q c y rest h2
   simp only[AP.make,List.append_assoc,a1,b1,AP.kinds,List.map_append,a2,b2,true_and]
   intro v hv
   cases hv with
   | fn _ _ _ vf vc g1 g2=>exact .fn _ _ _ vf vc (a3 _ g1) (b3 _ g2)
  ·cases h
 | .agg l,a,ps,rest,h=>by
  cases a<;>simp only[AP.take] at h<;>first|(cases h;done)|skip
  obtain⟨a1,a2,a3⟩:=AP.takeL_ok (X:=X) l _ ps rest h
  simp only[AP.make,a1,AP.kinds,a2,true_and]
  intro v hv
  cases hv with
  | agg _ vs g=>exact .agg _ vs (a3 _ g)
 | .tuple l,a,ps,rest,h=>by
  cases a<;>simp only[AP.take] at h<;>first|(cases h;done)|skip
  obtain⟨a1,a2,a3⟩:=AP.takeL_ok (X:=X) l _ ps rest h
  simp only[AP.make,a1,AP.kinds,a2,true_and]
  intro v hv
  cases hv with
  | tuple _ vs g=>exact .tuple _ vs (a3 _ g)
theorem AP.takeL_ok{X:Ctx}:∀(p:List AP) (a:List AV) (ps rest:List PV),AP.takeL p a=some ps→(AP.makeL p (ps++rest)).2=rest∧ps.map PV.kind=AP.kindsL p∧∀v,RepL X a v→RepL X (AP.makeL p (ps++rest)).1 v
 | [],a,ps,rest,h=>by
  cases a<;>simp only[AP.takeL] at h<;>cases h
  exact⟨rfl,rfl,fun v hv=>hv⟩
 | p::l,a,ps,rest,h=>by
  cases a with
  | nil=>simp only[AP.takeL] at h;cases h
  | cons a azz=>
   simp only[AP.takeL] at h
   obtain⟨x,y,h1,h2,rfl⟩:=q3G h
   obtain⟨a1,a2,a3⟩:=AP.take_ok (X:=X) p a x (y++rest) h1
   obtain⟨b1,b2,b3⟩:=AP.takeL_ok (X:=X) l azz y rest h2
   simp only[AP.makeL,List.append_assoc,a1,b1,AP.kindsL,List.map_append,a2,b2,true_and]
   intro v hv
   cases hv with
   | cons g1 g2=>exact .cons (a3 _ g1) (b3 _ g2)
end
def AP.takeLL:List (List AP)→List (List AV)→Option (List PV)
 | [],[]=>some []
 | p::l,a::azz=>qxX (AP.takeL p a) (AP.takeLL l azz)
 | _,_=>none
def AP.makeLL:List (List AP)→List PV→List (List AV)×List PV
 | [],ps=>([],ps)
 | p::l,ps=>let x:=AP.makeL p ps;let y:=AP.makeLL l x.2;(x.1::y.1,y.2)
def AP.kindsLL:List (List AP)→List PK
 | []=>[]
 | p::l=>AP.kindsL p++AP.kindsLL l
theorem AP.takeLL_ok{X:Ctx}:∀(p:List (List AP)) (a:List (List AV)) (ps rest:List PV),AP.takeLL p a=some ps→(AP.makeLL p (ps++rest)).2=rest∧ps.map PV.kind=AP.kindsLL p∧∀v,RepLL X a v→RepLL X (AP.makeLL p (ps++rest)).1 v
 | [],a,ps,rest,h=>by
  cases a<;>simp only[AP.takeLL] at h<;>cases h
  exact⟨rfl,rfl,fun v hv=>hv⟩
 | p::l,a,ps,rest,h=>by
  cases a with
  | nil=>simp only[AP.takeLL] at h;cases h
  | cons a azz=>
   simp only[AP.takeLL] at h
   obtain⟨x,y,h1,h2,rfl⟩:=q3G h
   obtain⟨a1,a2,a3⟩:=AP.takeL_ok (X:=X) p a x (y++rest) h1
   obtain⟨b1,b2,b3⟩:=AP.takeLL_ok (X:=X) l azz y rest h2
   simp only[AP.makeLL,List.append_assoc,a1,b1,AP.kindsLL,List.map_append,a2,b2,true_and]
   intro v hv
   cases hv with
   | cons g1 g2=>exact .cons (a3 _ g1) (b3 _ g2)
inductive BP where
 | cells (l:List AP)|big (l:List AP) (k:IntKind) (n:Nat)|vec (e:TypeId) (sh:List Sh)|frz (e:TypeId) (sh:List Sh)|dead
def BP.take:BP→Blk→Option (List PV)
 | .cells l,.cells cs=>AP.takeL l cs
 | .big l k n,.big cs k' n' r=>if k=k'∧n=n' then qxX (AP.takeL l cs) (some [.r r]) else none
 | .vec e sh,.vec e' sh' l=>if e=e'∧Sh.beqL sh sh'=true then some [.r l] else none
 | .frz e sh,.frz e' sh' l=>if e=e'∧Sh.beqL sh sh'=true then some [.r l] else none
 | .dead,_=>some []
 | _,_=>none
def BP.make:BP→List PV→Blk×List PV
 | .cells l,ps=>let x:=AP.makeL l ps;(.cells x.1,x.2)
 | .big l k n,ps=>let x:=AP.makeL l ps;match x.2 with
  | .r r::qs=>(.big x.1 k n r,qs)
  | qs=>(.dead,qs)
 | .vec e sh,.r l::ps=>(.vec e sh l,ps)
 | .frz e sh,.r l::ps=>(.frz e sh l,ps)
 | _,ps=>(.dead,ps)
def BP.kinds:BP→List PK
 | .cells l=>AP.kindsL l
 | .big l _ _=>AP.kindsL l++[.r]
 | .vec _ _=>[.r]
 | .frz _ _=>[.r]
 | .dead=>[]
def BP.takeL:List BP→List Blk→Option (List PV)
 | [],[]=>some []
 | p::l,b::bs=>qxX (p.take b) (BP.takeL l bs)
 | _,_=>none
def BP.makeL:List BP→List PV→List Blk×List PV
 | [],ps=>([],ps)
 | p::l,ps=>let x:=p.make ps;let y:=BP.makeL l x.2;(x.1::y.1,y.2)
def BP.kindsL:List BP→List PK
 | []=>[]
 | p::l=>p.kinds++BP.kindsL l
def BP.isCells:BP→Bool
 | .cells _|.big _ _ _=>true
 | _=>false
theorem BP.take_ok{X:Ctx}(p:BP)(k:Blk)(ps rest:List PV)(h:p.take k=some ps):(p.make (ps++rest)).2=rest∧ps.map PV.kind=p.kinds∧Wk X k (p.make (ps++rest)).1 ∧
  (p.isCells=true→(p.make (ps++rest)).1.solid=true):=by
 cases p with
 | cells l=>
  cases k<;>simp only[BP.take] at h<;>first|(cases h;done)|skip
  obtain⟨a1,a2,a3⟩:=AP.takeL_ok (X:=X) l _ ps rest h
  simp only[BP.make,a1,BP.kinds,a2,true_and]
  exact⟨.inr (.inr (.inl ⟨_,_,rfl,rfl,a3⟩)),fun _=>rfl⟩
 | big l kk n=>
  cases k<;>simp only[BP.take] at h<;>first|(cases h;done)|skip
  split at h
  ·rename_i hb;obtain⟨rfl,rfl⟩:=hb
   obtain⟨x,y,h1,h2,rfl⟩:=q3G h
   cases h2
   rename_i cs r
   obtain⟨a1,a2,a3⟩:=AP.takeL_ok (X:=X) l _ x ([.r r]++rest) h1
   simp only[List.cons_append,List.nil_append] at a1 a3
   simp only[BP.make,List.append_assoc,a1,List.cons_append,List.nil_append,BP.kinds,List.map_append,a2,List.map_cons,List.map_nil,PV.kind,true_and]
   exact⟨.inr (.inr (.inr ⟨_,_,_,_,_,rfl,rfl,a3⟩)),fun _=>rfl⟩
  ·cases h
 | vec e sh=>
  cases k<;>simp only[BP.take] at h<;>first|(cases h;done)|skip
  split at h
  ·rename_i hb;cases h;obtain⟨rfl,hb⟩:=hb;have:=Sh.beqL_eq _ _ hb;subst this;exact⟨rfl,rfl,.inr (.inl rfl),fun h=>by cases h⟩
  ·cases h
 | frz e sh=>
  cases k<;>simp only[BP.take] at h<;>first|(cases h;done)|skip
  split at h
  ·rename_i hb;cases h;obtain⟨rfl,hb⟩:=hb;have:=Sh.beqL_eq _ _ hb;subst this;exact⟨rfl,rfl,.inr (.inl rfl),fun h=>by cases h⟩
  ·cases h
 | dead=>
  have:ps=[]:=by cases k<;>simp[BP.take] at h<;>exact h
  subst this
  exact⟨rfl,rfl,.inl rfl,fun h=>by cases h⟩
theorem BP.takeL_ok{X:Ctx}:∀(p:List BP) (k:List Blk) (ps rest:List PV),BP.takeL p k=some ps→(BP.makeL p (ps++rest)).2=rest∧ps.map PV.kind=BP.kindsL p ∧
  (BP.makeL p (ps++rest)).1.length=k.length∧p.length=k.length∧∀(b:Nat) (k':Blk),(BP.makeL p (ps++rest)).1[b]?=some k'→∃k0,k[b]?=some k0∧Wk X k0 k'∧∀q:BP,p[b]?=some q→q.isCells=true→k'.solid=true
 | [],k,ps,rest,h=>by
  cases k<;>simp only[BP.takeL] at h<;>cases h
  exact⟨rfl,rfl,rfl,rfl,fun b k' hb=>by simp[BP.makeL] at hb⟩
 | p::l,k,ps,rest,h=>by
  cases k with
  | nil=>simp only[BP.takeL] at h;cases h
  | cons k ks=>
   simp only[BP.takeL] at h
   obtain⟨x,y,h1,h2,rfl⟩:=q3G h
   obtain⟨a1,a2,a3,a4⟩:=BP.take_ok (X:=X) p k x (y++rest) h1
   obtain⟨b1,b2,b3,b4,b5⟩:=BP.takeL_ok (X:=X) l ks y rest h2
   simp only[BP.makeL,List.append_assoc,a1,b1,BP.kindsL,List.map_append,a2,b2,List.length_cons,b3,b4,true_and]
   intro b k' hb
   cases b with
   | zero=>
    simp only[List.getElem?_cons_zero,Option.some.injEq] at hb
    subst hb
    exact⟨k,rfl,a3,fun q hq hc=>by simp only[List.getElem?_cons_zero,Option.some.injEq] at hq;subst hq;exact a4 hc⟩
   | succ b=>
    simp only[List.getElem?_cons_succ] at hb ⊢
    exact b5 b k' hb
def qsR(n:Nat):Nat→Option Nat:=fun b=>if Nat.blt b n then some b else none
theorem qyl{n b b':Nat}(h:qsR n b=some b'):b'=b∧b<n:=by
 unfold qsR at h
 split at h
 ·rename_i hb;cases h;exact⟨rfl,by simpa[Nat.blt_eq] using hb⟩
 ·cases h
def Ctx.cut(X:Ctx)(n:Nat):Ctx:={ X with h:=(X.h.take n).map (Blk.ren (qsR n)) }
theorem Ctx.cut_get{X:Ctx}{n b:Nat}{k:Blk}(h:(X.cut n).h[b]?=some k):b<n∧∃k0,X.h[b]?=some k0∧k=k0.ren (qsR n):=by
 have h':((X.h.take n).map (Blk.ren (qsR n)))[b]?=some k:=h
 rw[List.getElem?_map,List.getElem?_take] at h'
 split at h'
 ·rename_i hb
  refine⟨hb,?_⟩
  cases hk:X.h[b]? with
  | none=>rw[hk] at h';cases h'
  | some k0=>rw[hk] at h';exact⟨k0,rfl,(Option.some.inj h').symm⟩
 ·cases h'
theorem qvn{B:Base}{X:Ctx}(hs:HSim B X){n:Nat}(hn:B.imps.length≤n):HSim B (X.cut n)∧Move X (X.cut n) (qsR n):=by
 have hvec:∀b sh m,(X.cut n).isVec b sh m→X.isVec b sh m:=by
  intro b sh m ⟨e,l,h1,h2⟩
  refine⟨e,l,?_,h2⟩
  rcases h1 with h1|h1
  ·obtain⟨_,k0,h3,h4⟩:=Ctx.cut_get h1
   cases k0<;>simp[Blk.ren] at h4
   obtain⟨rfl,rfl,rfl⟩:=h4;exact .inl h3
  ·obtain⟨_,k0,h3,h4⟩:=Ctx.cut_get h1
   cases k0<;>simp[Blk.ren] at h4
   obtain⟨rfl,rfl,rfl⟩:=h4;exact .inr h3
 have hm:Move X (X.cut n) (qsR n):=by
  refine Move.of (fun _ h=>h) (fun _ _=>rfl) (fun b b' hb hf=>?_)
  obtain⟨rfl,hlt⟩:=qyl hf
  exact⟨by simp[Ctx.cut];omega,rfl,hvec b',fun sh m _ k hk c T fr hc=>⟨c,T,fr,hc,rfl⟩⟩
 have hown:∀b m,(X.cut n).own b m→X.own b m:=by
  intro b m ⟨h1,k,h2,h3⟩
  obtain⟨_,k0,h4,h5⟩:=Ctx.cut_get h2
  exact⟨h1,k0,h4,by rw[h5,Blk.mut_ren] at h3;exact h3⟩
 refine⟨⟨?_,fun b b' m h h'=>hs.inj b b' m (hown _ _ h) (hown _ _ h'),fun b m h=>hs.notM b m (hown _ _ h),hs.ltM,hs.M0,hs.newM,hs.os,hs.tape,hs.output,hs.size,hs.frame,hs.imps,?_,fun b m h=>hs.fresh b m (hown _ _ h),hs.kept⟩,hm⟩
 ·intro b k hk
  obtain⟨_,k0,h1,h2⟩:=Ctx.cut_get hk
  rw[h2]
  exact yJ.move hm.toMove0 rfl (fun _ _=>rfl) (hs.blk b k0 h1)
 ·intro b hb
  obtain⟨cs,h1,h2⟩:=hs.impc b hb
  refine⟨cs.ren (qsR n),?_,by rw[Blk.solid_ren];exact h2⟩
  show ((X.h.take n).map (Blk.ren (qsR n)))[b]?=_
  rw[List.getElem?_map,List.getElem?_take,if_pos (by omega),h1]
  rfl
end Go.Eng

namespace Go.Eng
def Ex.beq:Ex→Ex→Bool
 | .normal,.normal=>true
 | .ret,.ret=>true
 | .exit i,.exit j=>Nat.beq i j
 | _,_=>false
theorem Ex.beq_eq{x y:Ex}(h:x.beq y=true):x=y:=by
 cases x<;>cases y<;>simp[Ex.beq] at h ⊢
 exact h
def peq:Option Ex→Option Ex→Bool
 | none,none=>true
 | some x,some y=>x.beq y
 | _,_=>false
theorem qCk{x y:Option Ex}(h:peq x y=true):x=y:=by
 cases x<;>cases y<;>simp[peq] at h ⊢
 exact Ex.beq_eq h
structure Tmpl where
 t:List AP
 h:List BP
 pro:List (Nat×TypeId×List Sh):=[]
 fs:List (List AP):=[[]]
 pend:Option Ex:=none
 sw:List (Nat×Nat):=[]
 swn:Nat:=0
 prc:List (Nat×Nat×TypeId×List Sh):=[]
def qws:List (Nat×TypeId×List Sh)→St→St
 | [],st=>st
 | (i,e,sh)::l,st=>match st.t[i]? with
  | some .nils=>qws l { st with t:=st.t.set i (.vec st.h.length),h:=st.h++[.vec e sh []] }
  | _=>qws l st
def ql7:List (Nat×Nat×TypeId×List Sh)→St→St
 | [],st=>st
 | (i,off,e,sh)::l,st=>match st.t[i]? with
  | some (.ptr b _)=>(match st.h[b]? with
   | some (.cells cs)=>(match cs[off]? with
    | some .nils=>ql7 l { st with h:=(st.h++[Blk.vec e sh []]).set b (.cells (cs.set off (.vec st.h.length))) }
    | _=>ql7 l st)
   | _=>ql7 l st)
  | _=>ql7 l st
def qaH(n:Nat)(h:List BP):Bool:=Nat.ble n h.length&&(h.take n).all BP.isCells
def swp(b c x:Nat):Nat:=if Nat.beq x b then c else if Nat.beq x c then b else x
def swB(b c:Nat):Nat→Option Nat:=fun x=>some (swp b c x)
def qtS(b c:Nat)(h:List Blk):List Blk:=(h.set b (h.getD c .dead)).set c (h.getD b .dead)
def St.swap(b c:Nat)(st:St):St:={ t:=AV.renL (swB b c) st.t,fs:=st.fs.map (AV.renL (swB b c)),h:=(qtS b c st.h).map (Blk.ren (swB b c)),pend:=st.pend }
def qBM:AV→Option Nat
 | .ptr b _=>some b
 | .vec b=>some b
 | _=>none
def qCz(st:St)(i:Nat):Option Nat:=match Nat.blt i 1000000 with
 | true=>(st.t[i]?).bind qBM
 | false=>match st.t[i%1000000]? with
  | some (.ptr b _)=>(match st.h[b]? with
   | some (.cells cs)=>(cs[i/1000000-1]?).bind qBM
   | _=>none)
  | _=>none
def qlW(n:Nat):List (Nat×Nat)→St→St
 | [],st=>st
 | (i,b)::l,st=>match qCz st i with
  | some c=>(match Nat.ble n b&&Nat.ble n c&&Nat.blt b st.h.length&&Nat.blt c st.h.length&&!(Nat.beq b c) with
   | true=>qlW n l (st.swap b c)
   | false=>qlW n l st)
  | none=>qlW n l st
def Tmpl.take1(tm:Tmpl)(st:St):Option (List PV):=match peq tm.pend st.pend with
 | true=>qxX (AP.takeL tm.t (AV.renL (qsR tm.h.length) st.t)) (qxX (AP.takeLL tm.fs (st.fs.map (AV.renL (qsR tm.h.length)))) (BP.takeL tm.h ((st.h.take tm.h.length).map (Blk.ren (qsR tm.h.length)))))
 | false=>none
def Tmpl.take(tm:Tmpl)(st:St):Option (List PV):=tm.take1 (qlW tm.swn tm.sw (ql7 tm.prc (qws tm.pro st)))
def Tmpl.ok(n:Nat)(tm:Tmpl):Bool:=qaH n tm.h&&(tm.sw.isEmpty||Nat.ble n tm.swn)
def Tmpl.make(tm:Tmpl)(ps:List PV):St:=let x:=AP.makeL tm.t ps;let y:=AP.makeLL tm.fs x.2;{ t:=x.1,fs:=y.1,h:=(BP.makeL tm.h y.2).1,pend:=tm.pend }
def Tmpl.kinds(tm:Tmpl):List PK:=AP.kindsL tm.t++(AP.kindsLL tm.fs++BP.kindsL tm.h)
theorem qnR{n:Nat}{h:List BP}(hc:qaH n h=true):n≤h.length∧∀b,b<n→∃q,h[b]?=some q∧q.isCells=true:=by
 simp only[qaH,Bool.and_eq_true,Nat.ble_eq,List.all_eq_true] at hc
 refine⟨hc.1,fun b hb=>?_⟩
 have hlt:b<h.length:=by omega
 refine⟨h[b],List.getElem?_eq_getElem hlt,hc.2 _ ?_⟩
 rw[List.mem_take_iff_getElem]
 exact⟨b,by omega,rfl⟩
theorem qmY{E:Env}{X X':Ctx}(hM:∀n,X.M n→X'.M n)(hw:X'.w=X.w)(hy:X'.y=X.y)
  (h:∀x,x∈E.glob→(∃sh l i off,x.2=.eptr sh l i off)∧qzG X x) :
  ∀x,x∈E.glob→(∃sh l i off,x.2=.eptr sh l i off)∧qzG X' x:=by
 intro x hx
 obtain⟨⟨sh,l,i,off,he⟩,hr⟩:=h x hx
 refine⟨⟨sh,l,i,off,he⟩,hr.move hM (fun _ _=>by rw[hw]) ?_⟩
 have hr:=hr.1
 rw[he] at hr ⊢
 exact hr.noMen rfl hM (fun _ _=>by rw[hw]) hy
theorem qjN{E:Env}{B:Base}{a:Act}:∀(l:List (Nat×TypeId×List Sh)) {X:Ctx} {st:St},Sim E B X st a→∃X',X'.w=X.w∧Sim E B X' (qws l st) a
 | [],X,st,hs=>⟨X,rfl,hs⟩
 | (i,e,sh)::l,X,st,hs=>by
  simp only[qws]
  split
  ·rename_i hi
   have hw:=PushW.same X
   have hk:yJ (X.pushW (.vec e sh []) none X.w) X.h.length (.vec e sh []):=.inl ⟨by simp[Ctx.pushW],rfl⟩
   have hs1:=HSim.push hs.hs hw hk
   have hx:=Ctx.push_ext hs.hs (.vec e sh []) hw
   have hsim:=hs.ext hx hs1
   obtain⟨v,g1,g2⟩:=hs.t.get i _ hi
   have hv:v=.slice none 0 0:=by cases g2;rfl
   subst hv
   have hrep:Rep (X.pushW (.vec e sh []) none X.w) (.vec st.h.length) (.slice none 0 0):=by
    rw[←hs.h]
    refine .vec _ _ _ _ (by simp[Ctx.pushW]) fun sh' m hv=>?_
    unfold qsQ
    simp[Ctx.pushW]
   have hset:=RepL.set hrep hsim.t i
   have he:a.tmps.toList.set i (.slice none 0 0)=a.tmps.toList:=by
    apply List.ext_getElem?
    intro j
    by_cases hj:j=i
    ·subst hj;rw[List.getElem?_set_self (qo g1),g1]
    ·rw[List.getElem?_set_ne (Ne.symm hj)]
   rw[he] at hset
   obtain⟨X2,q1,q2⟩:=qjN l (X:=X.pushW (.vec e sh []) none X.w) (st:={ st with t:=st.t.set i (.vec st.h.length),h:=st.h++[.vec e sh []] })
    ⟨hs1,by simp[Ctx.pushW,hs.h],hset,hsim.fs,hsim.glob,hsim.df,hsim.ni,hsim.y,hsim.pin⟩
   exact⟨X2,q1,q2⟩
  ·exact qjN l hs
theorem q9h{E:Env}{B:Base}{a:Act}:∀(l:List (Nat×Nat×TypeId×List Sh)) {X:Ctx} {st:St},Sim E B X st a→∃X',X'.w=X.w∧Sim E B X' (ql7 l st) a
 | [],X,st,hs=>⟨X,rfl,hs⟩
 | (i,off,e,sh)::l,X,st,hs=>by
  simp only[ql7]
  split
  ·rename_i b o hi
   split
   ·rename_i cs hb
    split
    ·rename_i hc
     have hw:=PushW.same X
     have hk:yJ (X.pushW (.vec e sh []) none X.w) X.h.length (.vec e sh []):=.inl ⟨by simp[Ctx.pushW],rfl⟩
     have hs1:=HSim.push hs.hs hw hk
     have hx:=Ctx.push_ext hs.hs (.vec e sh []) hw
     have hsim:=hs.ext hx hs1
     have hbX:X.h[b]?=some (.cells cs):=by rw[hs.h];exact hb
     have hbl:=qo hbX
     obtain⟨n,c,T,g1,g2,g3⟩:=hs.hs.blk b _ hbX
     have hb1:(X.pushW (.vec e sh []) none X.w).h[b]?=some (.cells cs):=by
      show (X.h++[Blk.vec e sh []])[b]?=_
      rw[List.getElem?_append_left hbl];exact hbX
     have g1':(X.pushW (.vec e sh []) none X.w).σ b=some n:=by
      show (if b=X.h.length then none else X.σ b)=_
      rw[if_neg (by omega)];exact g1
     have g3':=g3.ext hx
     have hrep:Rep (X.pushW (.vec e sh []) none X.w) (.vec st.h.length) (.slice none 0 0):=by
      rw[←hs.h]
      refine .vec _ _ _ _ (by simp[Ctx.pushW]) fun sh' m hv=>?_
      unfold qsQ
      simp[Ctx.pushW]
     obtain⟨v,k1,k2⟩:=g3'.get off _ hc
     have hv:v=.slice none 0 0:=by cases k2;rfl
     subst hv
     have hset:=RepL.set hrep g3' off
     have he:c.toList.set off (.slice none 0 0)=c.toList:=by
      apply List.ext_getElem?
      intro j
      by_cases hj:j=off
      ·subst hj;rw[List.getElem?_set_self (qo k1),k1]
      ·rw[List.getElem?_set_ne (Ne.symm hj)]
     rw[he] at hset
     have hup:UpdW (X.pushW (.vec e sh []) none X.w) n c c T X.w:=⟨g2,g2,rfl,fun _ _=>rfl,rfl,rfl,rfl,rfl⟩
     have hown:(X.pushW (.vec e sh []) none X.w).own b n:=⟨g1',_,hb1,rfl⟩
     have hx2:=Ctx.upd_ext (k':=.cells (cs.set off (.vec st.h.length))) hs1 hb1 hown hup trivial
     have hs2:=hs1.upd (k':=.cells (cs.set off (.vec st.h.length))) hb1 hown hup trivial ⟨n,c,T,g1',g2,hset.ext hx2⟩
     have hsim2:=hsim.ext hx2 hs2
     have hh:((X.pushW (.vec e sh []) none X.w).upd b (.cells (cs.set off (.vec st.h.length))) X.w).h=(st.h++[Blk.vec e sh []]).set b (.cells (cs.set off (.vec st.h.length))):=by
      show (X.h++[Blk.vec e sh []]).set b _=_
      rw[hs.h]
     obtain⟨X3,q1,q2⟩:=q9h l hsim2
     refine⟨X3,q1,?_⟩
     rw[hh] at q2
     exact q2
    ·exact q9h l hs
   ·exact q9h l hs
  ·exact q9h l hs
theorem qmf(b c x:Nat):swp b c (swp b c x)=x:=by
 unfold swp
 simp only[Nat.beq_eq]
 by_cases h1:x=b
 ·subst h1
  by_cases h2:c=x
  ·simp[h2]
  ·simp[h2]
 ·by_cases h2:x=c
  ·subst h2;simp[h1]
  ·simp[h1,h2]
theorem qBy{b c x n:Nat}(hb:n≤b)(hc:n≤c):n≤swp b c x↔n≤x:=by
 unfold swp
 simp only[Nat.beq_eq]
 split
 ·rename_i h;subst h;exact⟨fun _=>hb,fun _=>hc⟩
 ·split
  ·rename_i h;subst h;exact⟨fun _=>hc,fun _=>hb⟩
  ·exact Iff.rfl
theorem qBH{b c x n:Nat}(hb:b<n)(hc:c<n):swp b c x<n↔x<n:=by
 unfold swp
 simp only[Nat.beq_eq]
 split
 ·rename_i h;subst h;exact⟨fun _=>hb,fun _=>hc⟩
 ·split
  ·rename_i h;subst h;exact⟨fun _=>hc,fun _=>hb⟩
  ·exact Iff.rfl
theorem qA8{b c x n:Nat}(hb:n≤b)(hc:n≤c)(hx:x<n):swp b c x=x:=by
 unfold swp
 simp only[Nat.beq_eq]
 rw[if_neg (by omega),if_neg (by omega)]
theorem qyE{b c:Nat}{h:List Blk}(hb:b<h.length)(hc:c<h.length)(hbc:b≠c)(i:Nat):(qtS b c h)[i]?=h[swp b c i]?:=by
 have e1:h.getD c .dead=h[c]:=by simp[List.getD_eq_getElem?_getD,hc]
 have e2:h.getD b .dead=h[b]:=by simp[List.getD_eq_getElem?_getD,hb]
 unfold qtS swp
 simp only[Nat.beq_eq]
 rw[e1,e2]
 by_cases h1:i=b
 ·subst h1
  rw[if_pos rfl,List.getElem?_set_ne (Ne.symm hbc),List.getElem?_set_self hb,List.getElem?_eq_getElem hc]
 ·by_cases h2:i=c
  ·subst h2
   rw[if_neg h1,if_pos rfl,List.getElem?_set_self (by simpa using hc),List.getElem?_eq_getElem hb]
  ·rw[if_neg h1,if_neg h2,List.getElem?_set_ne (Ne.symm h2),List.getElem?_set_ne (Ne.symm h1)]
def Ctx.swap(X:Ctx)(b c:Nat):Ctx:={ X with σ:=fun x=>X.σ (swp b c x),h:=(qtS b c X.h).map (Blk.ren (swB b c)) }
theorem qyH{B:Base}{X:Ctx}(hs:HSim B X){b c:Nat}(hb:B.imps.length≤b)(hc:B.imps.length≤c)(hbl:b<X.h.length)(hcl:c<X.h.length)(hbc:b≠c) :
  HSim B (X.swap b c)∧Move X (X.swap b c) (swB b c):=by
 have hget:∀i,(X.swap b c).h[i]?=(X.h[swp b c i]?).map (Blk.ren (swB b c)):=fun i=>by
  show ((qtS b c X.h).map _)[i]?=_
  rw[List.getElem?_map,qyE hbl hcl hbc]
 have hget':∀i k,(X.swap b c).h[i]?=some k→∃k0,X.h[swp b c i]?=some k0∧k=k0.ren (swB b c):=by
  intro i k h
  rw[hget] at h
  cases hk:X.h[swp b c i]? with
  | none=>rw[hk] at h;cases h
  | some k0=>rw[hk] at h;exact⟨k0,rfl,(Option.some.inj h).symm⟩
 have hσ:∀i,(X.swap b c).σ i=X.σ (swp b c i):=fun _=>rfl
 have hm:Move X (X.swap b c) (swB b c):=by
  refine Move.of (fun _ h=>h) (fun _ _=>rfl) (fun b1 b2 hb1 hf=>?_)
  have hf':b2=swp b c b1:=(Option.some.inj hf).symm
  subst hf'
  refine⟨?_,by rw[hσ,qmf],fun sh m ⟨e,l,h1,h2⟩=>⟨e,l,?_,h2⟩,fun sh m _ n hn c T fr hc=>⟨c,T,fr,hc,rfl⟩⟩
  ·show _<((qtS b c X.h).map _).length
   simp only[qtS,List.length_map,List.length_set]
   exact(qBH hbl hcl).2 hb1
  ·rcases h1 with h1|h1
   ·obtain⟨k0,h3,h4⟩:=hget' _ _ h1
    rw[qmf] at h3
    rcases qjR (.inl h4) with rfl|rfl
    ·exact .inl h3
    ·exact .inr h3
   ·obtain⟨k0,h3,h4⟩:=hget' _ _ h1
    rw[qmf] at h3
    rcases qjR (.inr h4) with rfl|rfl
    ·exact .inl h3
    ·exact .inr h3
 have hown:∀i n,(X.swap b c).own i n→X.own (swp b c i) n:=by
  intro i n ⟨h1,k,h2,h3⟩
  obtain⟨k0,h4,h5⟩:=hget' i k h2
  exact⟨h1,k0,h4,by rw[h5,Blk.mut_ren] at h3;exact h3⟩
 refine⟨⟨?_,?_,fun i n h=>hs.notM _ n (hown _ _ h),hs.ltM,hs.M0,hs.newM,hs.os,hs.tape,hs.output,hs.size,hs.frame,?_,?_,?_,hs.kept⟩,hm⟩
 ·intro i k hk
  obtain⟨k0,h1,h2⟩:=hget' i k hk
  rw[h2]
  exact yJ.move hm.toMove0 (hσ i) (fun _ _=>rfl) (hs.blk _ k0 h1)
 ·intro i j n h1 h2
  have:=hs.inj _ _ n (hown _ _ h1) (hown _ _ h2)
  rw[←qmf b c i,this,qmf]
 ·intro i hi
  rw[hσ,qA8 hb hc hi];exact hs.imps i hi
 ·intro i hi
  obtain⟨k,h1,h2⟩:=hs.impc i hi
  exact⟨k.ren (swB b c),by rw[hget,qA8 hb hc hi,h1];rfl,by rw[Blk.solid_ren];exact h2⟩
 ·intro i n h1 h2
  exact hs.fresh _ n (hown _ _ h1) ((qBy hb hc).2 h2)
theorem qd3{E:Env}{B:Base}{a:Act}{n:Nat}(hn:B.imps.length≤n):∀(l:List (Nat×Nat)) {X:Ctx} {st:St},Sim E B X st a→∃X',X'.w=X.w∧Sim E B X' (qlW n l st) a
 | [],X,st,hs=>⟨X,rfl,hs⟩
 | (i,b)::l,X,st,hs=>by
  simp only[qlW]
  split
  ·rename_i c hc
   split
   ·rename_i hcond
    simp only[Bool.and_eq_true,Nat.ble_eq,Nat.blt_eq,Bool.not_eq_true'] at hcond
    obtain⟨⟨⟨⟨c1,c2⟩,c3⟩,c4⟩,c5⟩:=hcond
    have hne:b≠c:=fun e=>by subst e;simp at c5
    obtain⟨g1,g2⟩:=qyH hs.hs (b:=b) (c:=c) (by omega) (by omega) (by rw[hs.h];exact c3) (by rw[hs.h];exact c4) hne
    obtain⟨X2,q1,q2⟩:=qd3 hn l (X:=X.swap b c) (st:=st.swap b c) ⟨g1,by simp[Ctx.swap,St.swap,hs.h],hs.t.ren g2.toMove0,hs.fs.ren g2.toMove0,qmY (X:=X) (fun _ h=>h) rfl rfl hs.glob,hs.df,hs.ni,hs.y,hs.pin⟩
    exact⟨X2,q1,q2⟩
   ·exact qd3 hn l hs
  ·exact qd3 hn l hs
theorem Tmpl.weaken1{tm:Tmpl}{E:Env}{B:Base}{X:Ctx}{st:St}{a:Act}{ps:List PV}(hk:qaH E.nimp tm.h=true)(h:tm.take1 st=some ps)(hs:Sim E B X st a) :
  ps.map PV.kind=tm.kinds∧∃X',X'.w=X.w∧Sim E B X' (tm.make ps) a:=by
 unfold Tmpl.take1 at h
 split at h
 ·rename_i hpe
  have hpe':=qCk hpe
  obtain⟨x,yz,h1,h0,rfl⟩:=q3G h
  obtain⟨y,z,h2,h3,rfl⟩:=q3G h0
  obtain⟨hc1,hc2⟩:=qnR hk
  obtain⟨c1,c2⟩:=qvn hs.hs (n:=tm.h.length) (Nat.le_trans hs.ni hc1)
  obtain⟨a1,a2,a3⟩:=AP.takeL_ok (X:=X.cut tm.h.length) _ _ x (y++z) h1
  obtain⟨d1,d2,d3⟩:=AP.takeLL_ok (X:=X.cut tm.h.length) _ _ y z h2
  obtain⟨b1,b2,b3,b4,b5⟩:=BP.takeL_ok (X:=X.cut tm.h.length) _ _ z [] h3
  have hch:(X.cut tm.h.length).h=(st.h.take tm.h.length).map (Blk.ren (qsR tm.h.length)):=by rw[←hs.h];rfl
  rw[←hch] at b3 b5
  rw[List.append_nil] at b3 b5
  obtain⟨e1,e2⟩:=qbD c1 (h':=(BP.makeL tm.h z).1) b3 (fun b k' hb=>by obtain⟨k0,e1,e2,_⟩:=b5 b k' hb;exact⟨k0,e1,e2⟩)
   (fun b hb k' hk'=>by
    obtain⟨q,q1,q2⟩:=hc2 b (by have:=hs.ni;omega)
    obtain⟨k0,_,_,e3⟩:=b5 b k' hk'
    exact e3 q q1 q2)
  refine⟨by simp[Tmpl.kinds,a2,d2,b2],{ X.cut tm.h.length with h:=(BP.makeL tm.h z).1 },rfl,⟨e1,?_,?_,?_,?_,?_,hs.ni,hs.y,?_⟩⟩
  ·simp only[Tmpl.make,a1,d1]
  ·simp only[Tmpl.make]
   exact(a3 _ (hs.t.ren c2.toMove0)).ext e2
  ·simp only[Tmpl.make,a1]
   exact(d3 _ (hs.fs.ren c2.toMove0)).ext e2
  ·exact qmY (X:=X) (fun _ h=>h) rfl rfl hs.glob
  ·show qtT X.kept (B.pin tm.pend) a.defers
   rw[hpe'];exact hs.df
  ·show ∀p,p∈B.pin tm.pend→p∈X.kept
   rw[hpe'];exact hs.pin
 ·cases h
theorem Tmpl.weaken{tm:Tmpl}{E:Env}{B:Base}{X:Ctx}{st:St}{a:Act}{ps:List PV}(hk:tm.ok E.nimp=true)(h:tm.take st=some ps)(hs:Sim E B X st a) :
  ps.map PV.kind=tm.kinds∧∃X',X'.w=X.w∧Sim E B X' (tm.make ps) a:=by
 unfold Tmpl.ok at hk
 simp only[Bool.and_eq_true,Bool.or_eq_true,List.isEmpty_iff,Nat.ble_eq] at hk
 obtain⟨X0,h0,h2'⟩:=qjN tm.pro hs
 obtain⟨X1,h1',h2⟩:=q9h tm.prc h2'
 have h1:=h1'.trans h0
 have:∃X',X'.w=X1.w∧Sim E B X' (qlW tm.swn tm.sw (ql7 tm.prc (qws tm.pro st))) a:=by
  rcases hk.2 with h0|h0
  ·rw[h0];exact⟨X1,rfl,h2⟩
  ·exact qd3 (Nat.le_trans hs.ni h0) tm.sw h2
 obtain⟨X1',h1',h2'⟩:=this
 obtain⟨g1,X2,g2,g3⟩:=Tmpl.weaken1 hk.1 h h2'
 exact⟨g1,X2,(g2.trans h1').trans h1,g3⟩
structure Out where
 x:Ex
 tm:Tmpl
abbrev TR:=Tree (Nat×List PV)
def qBk:List Out→Nat→Ex×St→TR
 | [],_,_=>.fail
 | o::l,j,r=>match Ex.beq o.x r.1,o.tm.take r.2 with
  | true,some ps=>.leaf (j,ps)
  | _,_=>qBk l (j+1) r
def okR(R:TR):Bool:=R.run.isSome
def jR(R:TR):Nat:=match R.run with|some r=>r.1|none=>0
def pR(R:TR)(i:Nat):PV:=match R.run with|some r=>r.2.getD i (.i 0)|none=>.i 0
def gI(R:TR)(i:Nat):Int:=(pR R i).toI
def gB(R:TR)(i:Nat):Bool:=(pR R i).toB
def gS(R:TR)(i:Nat):List UInt8:=(pR R i).toS
def gR(R:TR)(i:Nat):Go.Eng.R:=(pR R i).toR
def jIs(R:TR)(j:Nat):Bool:=Nat.beq (jR R) j
def qlt(R:TR):List PK→Nat→List PV
 | [],_=>[]
 | .i::l,n=>.i (gI R n)::qlt R l (n+1)
 | .b::l,n=>.b (gB R n)::qlt R l (n+1)
 | .s::l,n=>.s (gS R n)::qlt R l (n+1)
 | .r::l,n=>.r (gR R n)::qlt R l (n+1)
theorem qih{R:TR}{j:Nat}{ps:List PV}(hR:R.run=some (j,ps)):∀(ks:List PK) (n:Nat),(ps.drop n).map PV.kind=ks→qlt R ks n=ps.drop n
 | [],n,h=>by simp at h;simp[qlt];exact h
 | k::ks,n,h=>by
  cases hd:ps.drop n with
  | nil=>rw[hd] at h;cases h
  | cons v rest=>
   rw[hd] at h
   simp only[List.map_cons,List.cons.injEq] at h
   have hn:ps[n]?=some v:=by
    have:(ps.drop n)[0]?=some v:=by rw[hd];rfl
    rwa [List.getElem?_drop,Nat.add_zero] at this
   have hr:ps.drop (n+1)=rest:=by rw[←List.drop_drop,hd];rfl
   have ih:=qih hR ks (n+1) (by rw[hr];exact h.2)
   have hp:pR R n=v:=by simp[pR,hR,List.getD_eq_getElem?_getD,hn]
   rw[hr] at ih
   cases v<;>simp only[PV.kind] at h<;>obtain⟨rfl,_⟩:=h<;>simp only[qlt,ih,gI,gB,gS,gR,hp,PV.toI,PV.toB,PV.toS,PV.toR]
def qBF(R:TR):List Out→Nat→Tree (Ex×St)
 | [],_=>.fail
 | o::l,j=>match l with
  | []=>.leaf (o.x,o.tm.make (qlt R o.tm.kinds 0))
  | _::_=>.br (jIs R j) (.leaf (o.x,o.tm.make (qlt R o.tm.kinds 0))) (qBF R l (j+1))
theorem qvo{R:TR}{j:Nat}{ps:List PV}(hR:R.run=some (j,ps)):∀(outs:List Out) (k:Nat) (o:Out) (r:Ex×St),k≤j→outs[j-k]?=some o→ps.map PV.kind=o.tm.kinds →
  (qBF R outs k).run=some r→r=(o.x,o.tm.make ps)
 | [],k,o,r,_,h,_,_=>by simp at h
 | o'::l,k,o,r,hk,h,hp,hr=>by
  have hj:jR R=j:=by simp[jR,hR]
  simp only[qBF] at hr
  cases l with
  | nil=>
   have:j-k=0:=by
    rcases Nat.eq_zero_or_pos (j-k) with h0|h0
    ·exact h0
    ·rw[List.getElem?_eq_none (by simp;omega)] at h;cases h
   rw[this] at h
   simp only[List.getElem?_cons_zero,Option.some.injEq] at h
   subst h
   simp only[Tree.run,Option.some.injEq] at hr
   rw[←hr,qih hR _ 0 (by simpa using hp)];rfl
  | cons o2 l=>
   simp only[Tree.run] at hr
   by_cases hjk:j=k
   ·have hb:jIs R k=true:=by simp[jIs,hj,hjk]
    rw[hb] at hr
    simp only[Option.some.injEq] at hr
    subst hjk
    simp only[Nat.sub_self,List.getElem?_cons_zero,Option.some.injEq] at h
    subst h
    rw[←hr,qih hR _ 0 (by simpa using hp)];rfl
   ·have hb:jIs R k=false:=by
     simp only[jIs,hj]
     cases hq:Nat.beq j k with
     | false=>rfl
     | true=>exact absurd (Nat.eq_of_beq_eq_true hq) hjk
    rw[hb] at hr
    simp only at hr
    refine qvo hR (o2::l) (k+1) o r (by omega) ?_ hp hr
    rw[show j-k=(j-(k+1))+1 by omega,List.getElem?_cons_succ] at h
    exact h
theorem qv5:∀(outs:List Out) (k:Nat) (r:Ex×St) (j:Nat) (ps:List PV),(qBk outs k r).run=some (j,ps)→k≤j∧∃o,outs[j-k]?=some o∧o.x=r.1∧o.tm.take r.2=some ps
 | [],k,r,j,ps,h=>by simp only[qBk] at h;cases h
 | o::l,k,r,j,ps,h=>by
  simp only[qBk] at h
  split at h
  ·rename_i ps' hb ht
   simp only[Tree.run,Option.some.injEq,Prod.mk.injEq] at h
   obtain⟨rfl,rfl⟩:=h
   exact⟨Nat.le_refl _,o,by simp,Ex.beq_eq hb,ht⟩
  ·obtain⟨h1,o',h2,h3,h4⟩:=qv5 l (k+1) r j ps h
   refine⟨by omega,o',?_,h3,h4⟩
   rw[show j-k=(j-(k+1))+1 by omega,List.getElem?_cons_succ]
   exact h2
def qm(tin:Tmpl)(outs:List Out)(T:List PV→TR):St→Tree (Ex×St):=fun st=>match tin.take st with
 | none=>.fail
 | some ps=>.br (okR (T ps)) (qBF (T ps) outs 0) .fail
theorem qw6{tin:Tmpl}{outs:List Out}{T:List PV→TR}{st:St}{r:Ex×St}(h:(qm tin outs T st).run=some r) :
  ∃ps j qs,tin.take st=some ps∧(T ps).run=some (j,qs)∧(qBF (T ps) outs 0).run=some r:=by
 unfold qm at h
 cases ht:tin.take st with
 | none=>rw[ht] at h;cases h
 | some ps=>
  rw[ht] at h
  simp only[Tree.run] at h
  cases hr:(T ps).run with
  | none=>simp[okR,hr] at h
  | some q=>
   obtain⟨j,qs⟩:=q
   simp only[okR,hr,Option.isSome_some] at h
   exact⟨ps,j,qs,rfl,hr,h⟩
theorem qsX.env{E E':Env}(he:E.glob=E'.glob)(hn:E.nimp=E'.nimp){B:Base}{r:Ex×St}{e:Exit}{a:Act}{w:World}(h:qsX E B r e a w):qsX E' B r e a w:=by
 obtain⟨h1,X',h2,h3⟩:=h
 exact⟨h1,X',h2,h3.env he hn⟩
theorem qBc{ni:Nat}{outs:List Out}(h:(outs.all fun o=>o.tm.ok ni)=true){j:Nat}{o:Out}(ho:outs[j]?=some o):o.tm.ok ni=true:=
 List.all_eq_true.1 h o (List.mem_of_getElem? ho)
theorem qqq{p:Nat→Prop}(h:∃n,p n):∃n,p n∧∀m,p m→n≤m:=by
 obtain⟨n,hn⟩:=h
 induction n using Nat.strongRecOn with
 | _ n ih=>
  by_cases hlt:∃m,m<n∧p m
  ·obtain⟨m,h1,h2⟩:=hlt;exact ih m h1 h2
  ·exact⟨n,hn,fun m hm=>Nat.le_of_not_lt fun h=>hlt ⟨m,h,hm⟩⟩
open Classical in
noncomputable def qqs(p:Nat→Prop):Nat:=if h:∃n,p n then Classical.choose (qqq h) else 0
theorem ql6{p:Nat→Prop}(h:∃n,p n):p (qqs p)∧∀m,p m→qqs p≤m:=by
 unfold qqs
 rw[dif_pos h]
 exact Classical.choose_spec (qqq h)
def qz1(tin:Tmpl)(outs:List Out)(r:Ex×St):TR:=match r.1 with
 | .normal=>match tin.take r.2 with
  | some ps=>.leaf (0,ps)
  | none=>.fail
 | _=>qBk outs 1 r
def qi9(S:List PV→TR):Nat→List PV→TR
 | 0,_=>.fail
 | n+1,ps=>(S ps).bind fun r=>match r.1 with
  | 0=>qi9 S n r.2
  | j+1=>.leaf (j,r.2)
theorem qwP{E:Env}{P:Program}{c:Code}{BO:Base→Prop}{ev:St→Tree (Ex×St)}(hev:∀(n0:Nat) B X st a r,BO B→Sim E B X st a→(ev st).run=some r→c.wpIn (q1w B.ro) n0 P (qsX E B r) a X.w)
  {tin:Tmpl} {outs:List Out} {S T:List PV→TR} (hk:tin.ok E.nimp=true) (hko:(outs.all fun o=>o.tm.ok E.nimp)=true)
  (hS:∀ps r,ps.map PV.kind=tin.kinds→(S ps).run=some r→((ev (tin.make ps)).bind (qz1 tin outs)).run=some r) (hT:∀ps,∃n,T ps=qi9 S n ps) :
  qt P E.glob E.nimp BO (.loop c) (qm tin outs T):=by
 intro E' B X st a r he hn hbo hs h nf
 obtain⟨ps,j,qs,h1,h2,h3⟩:=qw6 h
 obtain⟨hkd,X',hw,hs'⟩:=Tmpl.weaken hk h1 (hs.env he hn)
 obtain⟨n0,hn0⟩:=hT ps
 have hend:∀(o:Out) (X3:Ctx) (a':Act),outs[j]?=some o→qs.map PV.kind=o.tm.kinds→Sim E B X3 (o.tm.make qs) a'→qsX E' B r o.x.out a' X3.w:=by
  intro o X3 a' q1 hkd2 hs3
  have hr:=qvo h2 outs 0 o r (Nat.zero_le _) q1 hkd2 h3
  subst hr
  exact qsX.env he.symm hn.symm ⟨rfl,X3,rfl,hs3⟩
 rw[hn0] at h2
 let I:Nat→Act→World→Prop:=fun n a' w'=>∃X1 ps1,X1.w=w'∧ps1.map PV.kind=tin.kinds∧Sim E B X1 (tin.make ps1) a'∧(qi9 S n ps1).run=some (j,qs)
 have key:∀a' w',(∃n,I n a' w')→c.wpIn (q1w B.ro) nf P (Exit.then (fun a'' w''=>∃n,I n a'' w''∧∀m,I m a' w'→n<m) (qsX E' B r)) a' w':=by
  intro a' w' hex
  have hmin:=qqq hex
  obtain⟨n,⟨X1,ps1,rfl,hk1,hs1,hit⟩,hleast⟩:=hmin
  cases n with
  | zero=>simp only[qi9] at hit;cases hit
  | succ n=>
   simp only[qi9] at hit
   obtain⟨s,g1,g2⟩:=bind_some hit
   obtain⟨r1,g3,g4⟩:=bind_some (hS ps1 s hk1 g1)
   refine wpIn_mono (hev nf B X1 _ a' r1 hbo hs1 g3) fun e a'' w'' ⟨p1,X2,p2,p3⟩=>?_
   subst p1 p2
   obtain⟨x1,s1⟩:=r1
   have other:∀(_:(qBk outs 1 (x1,s1)).run=some s),qsX E' B r x1.out a'' X2.w:=by
    intro hf
    obtain⟨sj,sps⟩:=s
    obtain⟨f1,o,f2,f3,f4⟩:=qv5 _ _ _ _ _ hf
    cases sj with
    | zero=>omega
    | succ sj=>
     simp only[Tree.run,Option.some.injEq,Prod.mk.injEq] at g2
     obtain⟨rfl,rfl⟩:=g2
     simp only[Nat.add_sub_cancel] at f2
     obtain⟨hkd2,X3,hw3,hs3⟩:=Tmpl.weaken (qBc hko f2) f4 p3
     have f3':o.x=x1:=f3
     rw[←f3',←hw3]
     exact hend o X3 a'' f2 hkd2 hs3
   cases x1 with
   | normal=>
    simp only[qz1] at g4
    cases htk:tin.take s1 with
    | none=>rw[htk] at g4;cases g4
    | some ps2=>
     rw[htk] at g4
     simp only[Tree.run,Option.some.injEq] at g4
     subst g4
     obtain⟨hkd2,X3,hw3,hs3⟩:=Tmpl.weaken hk htk p3
     refine⟨n,⟨X3,ps2,hw3,hkd2,hs3,g2⟩,fun m hm=>?_⟩
     have:=hleast m hm
     omega
   | exit i=>exact other g4
   | ret=>exact other g4
 rw[←hw]
 have hI0:∃n,I n a X'.w:=⟨n0,X',ps,rfl,hkd,hs',h2⟩
 refine wpIn_loop (fun a' w'=>∃n,I n a' w') (fun a' w'=>qqs fun n=>I n a' w') hI0 fun a' w' hex=>?_
 refine wpIn_mono (key a' w' hex) fun e a'' w'' hq=>?_
 cases e with
 | normal=>
  obtain⟨n,hn1,hn2⟩:=hq
  exact⟨⟨n,hn1⟩,Nat.lt_of_le_of_lt ((ql6 ⟨n,hn1⟩).2 n hn1) (hn2 _ (ql6 hex).1)⟩
 | exit i=>exact hq
 | goto i=>exact hq
 | ret=>exact hq
 | panic ch=>exact hq
 | outgrown=>exact hq
end Go.Eng

namespace Go.Eng
structure FOut where
 res:AP
 h:List BP
 pro:Option (Nat×TypeId×List Sh):=none
def qBa:Nat→AV→Bool
 | i,.tuple vs=>match vs[i]? with|some .nils=>true|_=>false
 | 0,.nils=>true
 | _,_=>false
def qCx(i:Nat)(v:AV):AV→AV
 | .tuple vs=>.tuple (vs.set i v)
 | .nils=>v
 | x=>x
def qCs(p:Option (Nat×TypeId×List Sh))(r:AV×List Blk):AV×List Blk:=match p with
 | none=>r
 | some (i,e,sh)=>match qBa i r.1 with
  | true=>(qCx i (.vec r.2.length) r.1,r.2++[.vec e sh []])
  | false=>r
def qtm(h:List Blk):Blk→Blk
 | .cells cs=>.cells (AV.lendL h cs)
 | k=>k
def qbF(fz:Bool)(r:AV×List Blk):AV×List Blk:=match fz with
 | false=>r
 | true=>let h1:=zG r.2 (List.range r.2.length);(r.1.lend h1,h1.map (qtm h1))
def FOut.take1(o:FOut)(r:AV×List Blk):Option (List PV):=
 qxX (o.res.take (r.1.ren (qsR o.h.length))) (BP.takeL o.h ((r.2.take o.h.length).map (Blk.ren (qsR o.h.length))))
def FOut.take(o:FOut)(r:AV×List Blk):Option (List PV):=o.take1 (qCs o.pro r)
def FOut.make(o:FOut)(ps:List PV):AV×List Blk:=let x:=o.res.make ps;(x.1,(BP.makeL o.h x.2).1)
def FOut.kinds(o:FOut):List PK:=o.res.kinds++BP.kindsL o.h
def qBm:List FOut→Nat→AV×List Blk→TR
 | [],_,_=>.fail
 | o::l,j,r=>match o.take r with
  | some ps=>.leaf (j,ps)
  | none=>qBm l (j+1) r
def qBn(R:TR):List FOut→Nat→Tree (AV×List Blk)
 | [],_=>.fail
 | o::l,j=>match l with
  | []=>.leaf (o.make (qlt R o.kinds 0))
  | _::_=>.br (jIs R j) (.leaf (o.make (qlt R o.kinds 0))) (qBn R l (j+1))
structure FIn where
 args:List AP
 h:List BP
def FIn.take(i:FIn)(args:List AV)(h:List Blk):Option (List PV):=qxX (AP.takeL i.args args) (BP.takeL i.h h)
def FIn.make(i:FIn)(ps:List PV):List AV×List Blk:=let x:=AP.makeL i.args ps;(x.1,(BP.makeL i.h x.2).1)
def FIn.kinds(i:FIn):List PK:=AP.kindsL i.args++BP.kindsL i.h
def q9(i:FIn)(outs:List FOut)(T:List PV→TR):q15:=fun args h=>match i.take args h with
 | none=>.fail
 | some ps=>.br (okR (T ps)) (qBn (T ps) outs 0) .fail
theorem qqV{R:TR}{j:Nat}{ps:List PV}(hR:R.run=some (j,ps)):∀(outs:List FOut) (k:Nat) (o:FOut) (r:AV×List Blk),k≤j→outs[j-k]?=some o→ps.map PV.kind=o.kinds →
  (qBn R outs k).run=some r→r=o.make ps
 | [],k,o,r,_,h,_,_=>by simp at h
 | o'::l,k,o,r,hk,h,hp,hr=>by
  have hj:jR R=j:=by simp[jR,hR]
  simp only[qBn] at hr
  cases l with
  | nil=>
   have:j-k=0:=by
    rcases Nat.eq_zero_or_pos (j-k) with h0|h0
    ·exact h0
    ·rw[List.getElem?_eq_none (by simp;omega)] at h;cases h
   rw[this] at h
   simp only[List.getElem?_cons_zero,Option.some.injEq] at h
   subst h
   simp only[Tree.run,Option.some.injEq] at hr
   rw[←hr,qih hR _ 0 (by simpa using hp)];rfl
  | cons o2 l=>
   simp only[Tree.run] at hr
   by_cases hjk:j=k
   ·have hb:jIs R k=true:=by simp[jIs,hj,hjk]
    rw[hb] at hr
    simp only[Option.some.injEq] at hr
    subst hjk
    simp only[Nat.sub_self,List.getElem?_cons_zero,Option.some.injEq] at h
    subst h
    rw[←hr,qih hR _ 0 (by simpa using hp)];rfl
   ·have hb:jIs R k=false:=by
     simp only[jIs,hj]
     cases hq:Nat.beq j k with
     | false=>rfl
     | true=>exact absurd (Nat.eq_of_beq_eq_true hq) hjk
    rw[hb] at hr
    simp only at hr
    refine qqV hR (o2::l) (k+1) o r (by omega) ?_ hp hr
    rw[show j-k=(j-(k+1))+1 by omega,List.getElem?_cons_succ] at h
    exact h
theorem qux:∀(outs:List FOut) (k:Nat) (r:AV×List Blk) (j:Nat) (ps:List PV),(qBm outs k r).run=some (j,ps)→k≤j∧∃o,outs[j-k]?=some o∧o.take r=some ps
 | [],k,r,j,ps,h=>by simp only[qBm] at h;cases h
 | o::l,k,r,j,ps,h=>by
  simp only[qBm] at h
  split at h
  ·rename_i ps' ht
   simp only[Tree.run,Option.some.injEq,Prod.mk.injEq] at h
   obtain⟨rfl,rfl⟩:=h
   exact⟨Nat.le_refl _,o,by simp,ht⟩
  ·obtain⟨h1,o',h2,h4⟩:=qux l (k+1) r j ps h
   refine⟨by omega,o',?_,h4⟩
   rw[show j-k=(j-(k+1))+1 by omega,List.getElem?_cons_succ]
   exact h2
theorem qsh{i:FIn}{outs:List FOut}{T:List PV→TR}{args:List AV}{h:List Blk}{r:AV×List Blk}(hr:(q9 i outs T args h).run=some r) :
  ∃ps j qs,i.take args h=some ps∧(T ps).run=some (j,qs)∧(qBn (T ps) outs 0).run=some r:=by
 unfold q9 at hr
 cases ht:i.take args h with
 | none=>rw[ht] at hr;cases hr
 | some ps=>
  rw[ht] at hr
  simp only[Tree.run] at hr
  cases hq:(T ps).run with
  | none=>simp[okR,hq] at hr
  | some q=>
   obtain⟨j,qs⟩:=q
   simp only[okR,hq,Option.isSome_some] at hr
   exact⟨ps,j,qs,rfl,hq,hr⟩
theorem qod{B:Base}{X:Ctx}(hs:HSim B X)(fz:Bool){r:AV×List Blk}{v:Value}(hr:Rep X r.1 v)(hh:X.h=r.2) :
  ∃X',X'.w=X.w∧X'.h=(qbF fz r).2∧HSim B X'∧Rep X' (qbF fz r).1 v∧X'.y=X.y:=by
 cases fz with
 | false=>exact⟨X,rfl,hh,hs,hr,rfl⟩
 | true=>
  obtain⟨X1,f⟩:=q6R (List.range r.2.length) hs
  have hf:X1.h=zG r.2 (List.range r.2.length):=by rw[f.h,hh]
  obtain⟨d1,d2⟩:=qbD f.hs (h':=X1.h.map (qtm X1.h)) (by simp) (fun b k' hb=>by
   rw[List.getElem?_map] at hb
   cases hk:X1.h[b]? with
   | none=>rw[hk] at hb;cases hb
   | some k0=>
    rw[hk] at hb
    simp only[Option.map_some,Option.some.injEq] at hb
    refine⟨k0,rfl,?_⟩
    cases k0 with
    | cells cs=>exact .inr (.inr (.inl ⟨cs,_,rfl,hb.symm,fun vs hv=>qcd f.hs hv⟩))
    | _=>exact .inr (.inl hb.symm)) (fun b hb k' hk'=>by
   obtain⟨cs,hc,hc2⟩:=f.hs.impc b hb
   rw[List.getElem?_map,hc] at hk'
   simp only[Option.map_some,Option.some.injEq] at hk'
   subst hk'
   cases cs<;>first|(cases hc2;done)|rfl)
  refine⟨{ X1 with h:=X1.h.map (qtm X1.h) },f.w,?_,d1,?_,f.ext.y⟩
  ·simp only[qbF,hf]
  ·have:=(qv0 f.hs (hr.ext f.ext)).ext d2
   simp only[qbF]
   rw[←hf]
   exact this
theorem qyO{B:Base}{X:Ctx}(hs:HSim B X)(p:Option (Nat×TypeId×List Sh)){r:AV×List Blk}{v:Value}(hr:Rep X r.1 v)(hh:X.h=r.2) :
  ∃X',X'.w=X.w∧X'.h=(qCs p r).2∧HSim B X'∧Rep X' (qCs p r).1 v∧X'.y=X.y:=by
 cases p with
 | none=>exact⟨X,rfl,hh,hs,hr,rfl⟩
 | some p=>
  obtain⟨i,e,sh⟩:=p
  obtain⟨a,h⟩:=r
  simp only at hr hh
  subst hh
  simp only[qCs]
  cases hn:qBa i a with
  | false=>exact⟨X,rfl,rfl,hs,hr,rfl⟩
  | true=>
   simp only
   have hw:=PushW.same X
   have hk:yJ (X.pushW (.vec e sh []) none X.w) X.h.length (.vec e sh []):=.inl ⟨by simp[Ctx.pushW],rfl⟩
   have hs1:=HSim.push hs hw hk
   have hx:=Ctx.push_ext hs (.vec e sh []) hw
   have hrep:Rep (X.pushW (.vec e sh []) none X.w) (.vec X.h.length) (.slice none 0 0):=by
    refine .vec _ _ _ _ (by simp[Ctx.pushW]) fun sh' m hv=>?_
    unfold qsQ
    simp[Ctx.pushW]
   refine⟨X.pushW (.vec e sh []) none X.w,rfl,by simp[Ctx.pushW],hs1,?_,rfl⟩
   cases a with
   | nils=>
    cases hr
    exact hrep
   | tuple vs=>
    cases hr with
    | tuple _ us hu=>
     simp only[qBa] at hn
     cases hg:vs[i]? with
     | none=>rw[hg] at hn;cases hn
     | some x=>
      rw[hg] at hn
      cases x<;>first|(cases hn;done)|skip
      obtain⟨u,g1,g2⟩:=hu.get i _ hg
      have hue:u=.slice none 0 0:=by cases g2;rfl
      subst hue
      have hset:=RepL.set hrep (hu.ext hx) i
      have he:us.set i (.slice none 0 0)=us:=by
       apply List.ext_getElem?
       intro j
       by_cases hj:j=i
       ·subst hj;rw[List.getElem?_set_self (qo g1),g1]
       ·rw[List.getElem?_set_ne (Ne.symm hj)]
      rw[he] at hset
      exact .tuple _ _ hset
   | _=>cases i<;>cases hn
theorem FOut.weaken1{o:FOut}{B:Base}{X:Ctx}{r:AV×List Blk}{ps:List PV}{v:Value}(hk:qaH B.imps.length o.h=true)(h:o.take1 r=some ps)(hs:HSim B X)(hr:Rep X r.1 v)(hh:X.h=r.2) :
  ps.map PV.kind=o.kinds∧∃X',X'.w=X.w∧X'.h=(o.make ps).2∧HSim B X'∧Rep X' (o.make ps).1 v∧X'.y=X.y:=by
 unfold FOut.take1 at h
 obtain⟨x,y,h1,h2,rfl⟩:=q3G h
 obtain⟨hc1,hc2⟩:=qnR hk
 obtain⟨c1,c2⟩:=qvn hs (n:=o.h.length) hc1
 obtain⟨a1,a2,a3⟩:=AP.take_ok (X:=X.cut o.h.length) _ _ x y h1
 obtain⟨b1,b2,b3,b4,b5⟩:=BP.takeL_ok (X:=X.cut o.h.length) _ _ y [] h2
 have hch:(X.cut o.h.length).h=(r.2.take o.h.length).map (Blk.ren (qsR o.h.length)):=by rw[←hh];rfl
 rw[←hch] at b3 b5
 rw[List.append_nil] at b3 b5
 obtain⟨d1,d2⟩:=qbD c1 (h':=(BP.makeL o.h y).1) b3 (fun b k' hb=>by obtain⟨k0,e1,e2,_⟩:=b5 b k' hb;exact⟨k0,e1,e2⟩)
  (fun b hb k' hk'=>by
   obtain⟨q,q1,q2⟩:=hc2 b hb
   obtain⟨k0,_,_,e3⟩:=b5 b k' hk'
   exact e3 q q1 q2)
 refine⟨by simp[FOut.kinds,a2,b2],{ X.cut o.h.length with h:=(BP.makeL o.h y).1 },rfl,?_,d1,?_,rfl⟩
 ·simp only[FOut.make,a1]
 ·simp only[FOut.make]
  exact(a3 _ (hr.ren c2.toMove0)).ext d2
theorem FOut.weaken{o:FOut}{B:Base}{X:Ctx}{r:AV×List Blk}{ps:List PV}{v:Value}(hk:qaH B.imps.length o.h=true)(h:o.take r=some ps)(hs:HSim B X)(hr:Rep X r.1 v)(hh:X.h=r.2) :
  ps.map PV.kind=o.kinds∧∃X',X'.w=X.w∧X'.h=(o.make ps).2∧HSim B X'∧Rep X' (o.make ps).1 v∧X'.y=X.y:=by
 obtain⟨X1,h1,h2,h3,h4,h5⟩:=qyO hs o.pro hr hh
 obtain⟨g1,X2,g2,g3,g4,g5,g6⟩:=FOut.weaken1 hk h h3 h4 h2
 exact⟨g1,X2,g2.trans h1,g3,g4,g5,g6.trans h5⟩
theorem qwU{E:Env}{P:Program}(hm:P.follows .mixedOrders=true)(hE:E.tok P)(hS:E.specs P)(hL:E.loopsOK P)(hb:E.bodies P){f:FuncId}{fn:Func}(hf:P.funcs[f]?=some fn)
  (hn:(fn.name == "runtime.NumGoroutine")=false) (hbd:fn.body.isNone=false) {n:Nat} {fz:Bool} {i:FIn} {outs:List FOut} {T:List PV→TR}
  (hi:i.h.length=E.nimp∧i.h.all BP.isCells=true) (ho:(outs.all fun o=>qaH E.nimp o.h)=true)
  (hT:∀ps r,ps.map PV.kind=i.kinds→(T ps).run=some r→((qv8 E n f fn (i.make ps).1 (i.make ps).2).bind fun q=>qBm outs 0 (qbF fz q)).run=some r) :
  qZ P E.glob f (q9 i outs T):=by
 refine⟨q2j hf hn hbd,fun B X args vargs r hs hen hgl ha h=>?_⟩
 obtain⟨ps,j,qs,h1,h2,h3⟩:=qsh h
 unfold FIn.take at h1
 obtain⟨x,y,g1,g2,rfl⟩:=q3G h1
 obtain⟨a1,a2,a3⟩:=AP.takeL_ok (X:=X) _ _ x y g1
 obtain⟨b1,b2,b3,b4,b5⟩:=BP.takeL_ok (X:=X) _ _ y [] g2
 rw[List.append_nil] at b3 b5
 have himp:B.imps.length=X.h.length:=by rw[hen.imps];simp
 obtain⟨d1,d2⟩:=qbD hs (h':=(BP.makeL i.h y).1) b3 (fun b k' hb=>by obtain⟨k0,e1,e2,_⟩:=b5 b k' hb;exact⟨k0,e1,e2⟩)
  (fun b hb k' hk'=>by
   obtain⟨k0,_,_,e3⟩:=b5 b k' hk'
   have hlt:b<i.h.length:=by omega
   exact e3 i.h[b] (List.getElem?_eq_getElem hlt) (List.all_eq_true.1 hi.2 _ (List.getElem_mem hlt)))
 have hkd:(x++y).map PV.kind=i.kinds:=by simp[FIn.kinds,a2,b2]
 have hgl1:q6V E.glob ({ X with h:=(BP.makeL i.h y).1 }:Ctx):=qmY (X:=X) (fun _ h=>h) rfl rfl hgl
 obtain⟨q,k1,k2⟩:=bind_some (hT _ _ hkd h2)
 have hmk:i.make (x++y)=((AP.makeL i.args (x++y)).1,(BP.makeL i.h y).1):=by simp only[FIn.make,a1]
 rw[hmk] at k1
 have hcalls:=qrX hm hE hS hL hb hf (n:=n) d1 (by omega) hgl1 ((a3 _ ha).ext d2) k1
 refine hcalls.mono fun e w' ⟨v,X',e1,e2,e3,e4,e5,e6⟩=>?_
 obtain⟨X2,p1,p2,p3,p4,p5⟩:=qod e5 fz e3 e4
 obtain⟨_,o,q1,q2⟩:=qux _ _ _ _ _ k2
 have hco:qaH B.imps.length o.h=true:=by
  rw[himp,←b4,hi.1]
  exact List.all_eq_true.1 ho o (List.mem_of_getElem? q1)
 obtain⟨m1,X3,m2,m3,m4,m5,m6⟩:=FOut.weaken hco q2 p3 p4 p2
 have hre:=qqV h2 outs 0 o r (Nat.zero_le _) q1 m1 h3
 subst hre
 exact⟨v,X3,e1,by rw[m2,p1,e2],m5,m3,m4,(m6.trans p5).trans e6⟩
def qCH(l:List (FIn×q15)):q15:=fun args h=>match l.find? fun c=>(c.1.take args h).isSome with
 | some c=>c.2 args h
 | none=>.fail
theorem qz5{P:Program}{gl:List (Nat×AV)}{f:FuncId}{l:List (FIn×q15)}(he:qjt P f)(hl:∀c,c∈l→qZ P gl f c.2):qZ P gl f (qCH l):=by
 refine⟨he,fun B X args vargs r hs hen hg ha h=>?_⟩
 unfold qCH at h
 cases hc:l.find? fun c=>(c.1.take args X.h).isSome with
 | none=>rw[hc] at h;cases h
 | some c=>
  rw[hc] at h
  exact(hl c (List.mem_of_find?_eq_some hc)).2 B X args vargs r hs hen hg ha h
theorem qAW{P:Program}{gl:List (Nat×AV)}{f:FuncId}:∀c,c∈([]:List (FIn×q15))→qZ P gl f c.2:=fun _ h=>by cases h
theorem qvp{P:Program}{gl:List (Nat×AV)}{f:FuncId}{i:FIn}{G:q15}{l:List (FIn×q15)}(h:qZ P gl f G)(t:∀c,c∈l→qZ P gl f c.2):∀c,c∈(i,G)::l→qZ P gl f c.2:=fun c hc=>by
 rcases List.mem_cons.1 hc with rfl|hc
 ·exact h
 ·exact t c hc
end Go.Eng

namespace Go.Eng
def q5l(fn:Func):Code:=fn.body.getD .skip
def zW(fn:Func)(k:Nat):Code:=((zj (q5l fn))[k]?).getD .skip
def qi3:Code→Code
 | .loop c=>c
 | c=>c
def qCQ(E:Env)(f:FuncId)(fn:Func)(k:Nat):qvK:=match zW fn k with
 | .rangeFunc _ ps a b=>qsa (yK E (q7y E 9) (q79 E) (qhN E (q7y E 9)) f a (k+1)) (yK E (q7y E 9) (q79 E) (qhN E (q7y E 9)) f b (k+1+w9 a)) ps.toList
 | _=>fun _ _=>.fail
def hdl(E:Env):Option (FuncId×Func×Nat)→q5f
 | none=>q7y E 9
 | some (fc,fnc,kc)=>qzE (qCQ E fc fnc kc) (q7y E 9)
def rgh(E:Env):Option (FuncId×Func×Nat)→qbT
 | none=>qhN E (q7y E 9)
 | some _=>qq4
def qjW(E:Env)(y:Option (FuncId×Func×Nat))(f:FuncId)(fn:Func)(k:Nat)(st:St):Tree (Ex×St):=yK E (hdl E y) (q79 E) (rgh E y) f (qi3 (zW fn k)) (k+1) st
def yk(E:Env)(f:FuncId)(fn:Func)(k:Nat)(tin:Tmpl)(outs:List Out)(ps:List PV):TR:=(qjW E none f fn k (tin.make ps)).bind (qz1 tin outs)
def qrM(E:Env)(y:Option (FuncId×Func×Nat))(f:FuncId)(fn:Func)(k:Nat)(tin:Tmpl)(outs:List Out)(ps:List PV):TR:=(qjW E y f fn k (tin.make ps)).bind (qz1 tin outs)
def qp(E:Env)(f:FuncId)(fn:Func)(fz:Bool)(i:FIn)(outs:List FOut)(ps:List PV):TR:=(qv8 E 9 f fn (i.make ps).1 (i.make ps).2).bind fun q=>qBm outs 0 (qbF fz q)
def qfp:Nat:=2^70
def qj(S:List PV→TR)(ps:List PV):TR:=qi9 S qfp ps
structure EnvOK (E:Env) (P:Program):Prop where
 tok:E.tok P
 specs:E.specs P
 loops:E.loopsOK P
 bodies:E.bodies P
theorem uQ{P:Program}{E:Env}(h:E.tt.map (fun x=>qsy P x.1)=E.tt.map (·.2)):E.tok P:=by
 intro x hx
 have:∀(l:List (TypeId×TI)),l.map (fun x=>qsy P x.1)=l.map (·.2)→∀x,x∈l→qsy P x.1=x.2:=by
  intro l
  induction l with
  | nil=>intro _ x hx;cases hx
  | cons y l ih=>
   intro h x hx
   simp only[List.map_cons,List.cons.injEq] at h
   rcases List.mem_cons.1 hx with rfl|hx
   ·exact h.1
   ·exact ih h.2 x hx
 exact this _ h x hx
theorem aln{α:Type}{p:α→Prop}:∀x,x∈([]:List α)→p x:=fun _ h=>by cases h
theorem alc{α:Type}{p:α→Prop}{a:α}{l:List α}(h:p a)(t:∀x,x∈l→p x):∀x,x∈a::l→p x:=fun x hx=>by
 rcases List.mem_cons.1 hx with rfl|hx
 ·exact h
 ·exact t x hx
theorem qxZ {P:Program} {f:FuncId} {fn:Func} (h:P.funcs[f]?=some fn) (hn:(fn.name == "runtime.NumGoroutine")=false):P.funcs[(f,fn).1]?=some (f,fn).2∧((f,fn).2.name == "runtime.NumGoroutine")=false:=⟨h,hn⟩
theorem qBd{P:Program}{gl:List (Nat×AV)}{ni:Nat}{f k:Nat}{fn:Func}{L:St→Tree (Ex×St)}(hf:P.funcs[f]?=some fn)(hb:fn.body.isSome=true)
  (hn:((zj (q5l fn))[k]?).isSome=true) {it:List (FuncId×FuncId×Nat)} (hg:qt P gl ni (qC P it f) (zW fn k) L) :
  ∃fn' c c',P.funcs[((f,k),L).1.1]?=some fn'∧fn'.body=some c∧(zj c)[((f,k),L).1.2]?=some c'∧qt P gl ni (qC P it ((f,k),L).1.1) c' ((f,k),L).2:=by
 refine⟨fn,q5l fn,zW fn k,hf,?_,?_,hg⟩
 ·unfold q5l
  cases h:fn.body with
  | none=>rw[h] at hb;cases hb
  | some c=>rfl
 ·show (zj (q5l fn))[k]?=some (zW fn k)
  unfold zW
  cases h:(zj (q5l fn))[k]? with
  | none=>rw[h] at hn;cases hn
  | some c=>rfl
def qst:Code→Bool
 | .loop _=>true
 | _=>false
theorem qtB{A C:List Code}(hA:∀(k:Nat) (d:Code),A[k]?=some d→∀(j:Nat) (c':Code),(zj d)[j]?=some c'→A[k+j]?=some c')(hC:∀(k:Nat) (d:Code),C[k]?=some d→∀(j:Nat) (c':Code),(zj d)[j]?=some c'→C[k+j]?=some c') :
  ∀(k:Nat) (d:Code),(A++C)[k]?=some d→∀(j:Nat) (c':Code),(zj d)[j]?=some c'→(A++C)[k+j]?=some c':=by
 intro k d hd j c' hc
 rcases Nat.lt_or_ge k A.length with h|h
 ·rw[List.getElem?_append_left h] at hd
  have:=hA k d hd j c' hc
  rw[List.getElem?_append_left (qo this)];exact this
 ·rw[List.getElem?_append_right h] at hd
  have:=hC _ d hd j c' hc
  rw[List.getElem?_append_right (by omega),show k+j-A.length=k-A.length+j by omega];exact this
theorem qqD{c:Code}{l:List Code}(hc:zj c=c::l)(hl:∀(k:Nat) (d:Code),l[k]?=some d→∀(j:Nat) (c':Code),(zj d)[j]?=some c'→l[k+j]?=some c') :
  ∀(k:Nat) (d:Code),(c::l)[k]?=some d→∀(j:Nat) (c':Code),(zj d)[j]?=some c'→(c::l)[k+j]?=some c':=by
 intro k d hd j c' hj
 cases k with
 | zero=>
  simp only[List.getElem?_cons_zero,Option.some.injEq] at hd
  subst hd
  rw[hc] at hj
  simpa using hj
 | succ k=>
  simp only[List.getElem?_cons_succ] at hd
  have:=hl k d hd j c' hj
  rw[show k+1+j=(k+j)+1 by omega,List.getElem?_cons_succ];exact this
theorem qs8:∀(c:Code) (k:Nat) (d:Code),(zj c)[k]?=some d→∀(j:Nat) (c':Code),(zj d)[j]?=some c'→(zj c)[k+j]?=some c':=by
 intro c
 induction c with
 | seq a b iha ihb=>exact qqD rfl (qtB iha ihb)
 | cond x a b iha ihb=>exact qtB iha ihb
 | block id c ih=>exact ih
 | scope c ih=>exact ih
 | loop c ih=>exact qqD rfl ih
 | rangeFunc x ps a b iha ihb=>exact qqD rfl (qtB iha ihb)
 | _=>intro k d hd;simp[zj] at hd
theorem qx8{fn:Func}{k:Nat}(h:((zj (q5l fn))[k]?).isSome=true):(zj (q5l fn))[k]?=some (zW fn k):=by
 unfold zW
 cases h':(zj (q5l fn))[k]? with
 | none=>rw[h'] at h;cases h
 | some c=>rfl
def qBN(E:Env)(P:Program)(f:FuncId):Option (FuncId×Func×Nat)→Prop
 | none=>q77 E.iter f=true
 | some (fc,fnc,kc)=>P.funcs[fc]?=some fnc∧(qp5 E.iter f fc kc&&(q77 E.iter fc&&(fnc.body.isSome&&((zj (q5l fnc))[kc]?).isSome)))=true
theorem qpD{fn:Func}(h:fn.body.isSome=true):fn.body=some (q5l fn):=by
 unfold q5l
 cases hb:fn.body with
 | none=>rw[hb] at h;cases h
 | some c=>rfl
theorem qB6{E:Env}{P:Program}(hm:P.follows .mixedOrders=true)(h:EnvOK E P){f:FuncId}{y:Option (FuncId×Func×Nat)}(hy:qBN E P f y):(∀B,qC P E.iter f B→CallOK E P (hdl E y) B)∧qhK E P (rgh E y):=by
 have hcall:=qex hm h.tok h.specs h.loops h.bodies 9
 cases y with
 | none=>exact⟨fun B _=>hcall B,qbR hm h.tok h.specs h.loops h.bodies hcall⟩
 | some y=>
  obtain⟨fc,fnc,kc⟩:=y
  obtain⟨hf,hc⟩:=hy
  simp only[Bool.and_eq_true] at hc
  obtain⟨c1,c2,c3,c4⟩:=hc
  refine⟨fun B hB=>⟨(hcall B).fn,?_⟩,qkx E P⟩
  have hfi:qfZ E.iter f=some (fc,kc):=by
   unfold qp5 at c1
   split at c1
   ·rename_i z hz
    simp only[Bool.and_eq_true] at c1
    rw[hz]
    obtain⟨z1,z2⟩:=z
    have e1:z1=fc:=Nat.eq_of_beq_eq_true c1.1
    have e2:z2=kc:=Nat.eq_of_beq_eq_true c1.2
    rw[e1,e2]
   ·cases c1
  obtain⟨_,hI⟩:=hB
  rw[hfi] at hI
  have hnode:=qx8 c4
  have hsub:=qs8 (q5l fnc) kc _ hnode
  intro args st r X a vargs hs ha hr
  simp only[hdl,qzE,qCQ] at hr
  cases hn:zW fnc kc with
  | rangeFunc x ps c d=>
   rw[hn] at hr hnode hsub
   refine qvf hf (qpD c3) hnode c2 (fun B X st act r hbo hs hr n=>?_) (fun B X st act r hbo hs hr n=>?_) hI args st r X a vargs hs ha hr
   ·refine qah hm h.tok h.specs h.loops hf (qpD c3) (fun B _=>hcall B) (qa1 hm h.tok h.specs h.loops h.bodies) (q6y E) (qbR hm h.tok h.specs h.loops h.bodies hcall) c (kc+1) (fun j c' hj=>?_) hbo hs hr
    have:=hsub (1+j) c' (by simp only[zj];rw[Nat.add_comm,List.getElem?_cons_succ,List.getElem?_append_left (qo hj)];exact hj)
    rw[show kc+1+j=kc+(1+j) by omega];exact this
   ·refine qah hm h.tok h.specs h.loops hf (qpD c3) (fun B _=>hcall B) (qa1 hm h.tok h.specs h.loops h.bodies) (q6y E) (qbR hm h.tok h.specs h.loops h.bodies hcall) d (kc+1+w9 c) (fun j c' hj=>?_) hbo hs hr
    have:=hsub (1+w9 c+j) c' (by
     simp only[zj]
     rw[show 1+w9 c+j=(w9 c+j)+1 by omega,List.getElem?_cons_succ,List.getElem?_append_right (by rw[kl];omega),kl]
     rw[show w9 c+j-w9 c=j by omega];exact hj)
    rw[show kc+1+w9 c+j=kc+(1+w9 c+j) by omega];exact this
  | _=>rw[hn] at hr;cases hr
theorem q6N{E:Env}{P:Program}(hm:P.follows .mixedOrders=true)(h:EnvOK E P){f k:Nat}{fn:Func}(hf:P.funcs[f]?=some fn)
  (hlp:qst (zW fn k)=true) {tin:Tmpl} {outs:List Out} {S:List PV→TR} {y:Option (FuncId×Func×Nat)} (hy:qBN E P f y)
  (hk:(tin.ok E.nimp&&outs.all fun o=>o.tm.ok E.nimp)=true)
  (hnk:(fn.body.isSome&&((zj (q5l fn))[k]?).isSome)=true)
  (hS:∀ps,S ps=qrM E y f fn k tin outs ps):qt P E.glob E.nimp (qC P E.iter f) (zW fn k) (qm tin outs (qj S)):=by
 simp only[Bool.and_eq_true] at hk hnk
 have hnode:=qx8 hnk.2
 have hsub:∀j c',(zj (qi3 (zW fn k)))[j]?=some c'→(zj (q5l fn))[k+1+j]?=some c':=by
  intro j c' hj
  have:=qs8 (q5l fn) k _ hnode (1+j) c' (by
   cases hn:zW fn k<;>simp[hn,qst] at hlp
   rw[hn] at hj
   simp only[zj,qi3] at hj ⊢
   rw[Nat.add_comm,List.getElem?_cons_succ];exact hj)
  rw[show k+1+j=k+(1+j) by omega];exact this
 have hc:zW fn k=.loop (qi3 (zW fn k)):=by
  cases hn:zW fn k<;>simp[hn,qst] at hlp
  rfl
 rw[hc]
 refine qwP (ev:=qjW E y f fn k) (S:=S) ?_ hk.1 hk.2 (fun ps r _ hr=>by rw[hS] at hr;exact hr) (fun ps=>⟨qfp,rfl⟩)
 intro n0 B X st a r hbo hs hr
 obtain⟨w1,w2⟩:=qB6 hm h hy
 exact qah hm h.tok h.specs h.loops hf (qpD hnk.1) w1 (qa1 hm h.tok h.specs h.loops h.bodies) (q6y E) w2 (qi3 (zW fn k)) (k+1) hsub hbo hs hr
theorem que{E:Env}{P:Program}(hm:P.follows .mixedOrders=true)(h:EnvOK E P){f k:Nat}{fn:Func}(hf:P.funcs[f]?=some fn)
  (hlp:qst (zW fn k)=true) {tin:Tmpl} {outs:List Out} {S:List PV→TR} (hni:q77 E.iter f=true)
  (hk:(tin.ok E.nimp&&outs.all fun o=>o.tm.ok E.nimp)=true)
  (hnk:(fn.body.isSome&&((zj (q5l fn))[k]?).isSome)=true)
  (hS:∀ps,S ps=yk E f fn k tin outs ps):qt P E.glob E.nimp (qC P E.iter f) (zW fn k) (qm tin outs (qj S)):=
 q6N hm h hf hlp (y:=none) hni hk hnk hS
theorem qng{E:Env}{P:Program}(hm:P.follows .mixedOrders=true)(h:EnvOK E P){f:FuncId}{fn:Func}(hf:P.funcs[f]?=some fn)
  (hn:((fn.name == "runtime.NumGoroutine")||fn.body.isNone)=false) {fz:Bool} {i:FIn} {outs:List FOut} {T:List PV→TR}
  (hk:(Nat.beq i.h.length E.nimp&&i.h.all BP.isCells&&outs.all fun o=>qaH E.nimp o.h)=true)
  (hT:∀ps,T ps=qp E f fn fz i outs ps):qZ P E.glob f (q9 i outs T):=by
 simp only[Bool.or_eq_false_iff] at hn
 simp only[Bool.and_eq_true] at hk
 exact qwU hm h.tok h.specs h.loops h.bodies hf hn.1 hn.2 (n:=9) (fz:=fz) ⟨Nat.eq_of_beq_eq_true hk.1.1,hk.1.2⟩ hk.2 (fun ps r _ hr=>by rw[hT] at hr;exact hr)
theorem b1 {P:Program} {f:FuncId} {fn:Func} (h:P.funcs[f]?=some fn) (hn:(fn.name == "runtime.NumGoroutine")=false:=by kernel_rfl):∀x,x∈[(f,fn)]→P.funcs[x.1]?=some x.2∧(x.2.name == "runtime.NumGoroutine")=false:=alc (qxZ h hn) aln
theorem bk {P:Program} {f:FuncId} {fn:Func} (h:P.funcs[f]?=some fn) (hn:(fn.name == "runtime.NumGoroutine")=false:=by kernel_rfl):P.funcs[(f,fn).1]?=some (f,fn).2∧((f,fn).2.name == "runtime.NumGoroutine")=false:=qxZ h hn
theorem lk{P:Program}{gl:List (Nat×AV)}{ni:Nat}{f k:Nat}{fn:Func}{L:St→Tree (Ex×St)}(hf:P.funcs[f]?=some fn)
  {it:List (FuncId×FuncId×Nat)} (hg:qt P gl ni (qC P it f) (zW fn k) L) (hb:fn.body.isSome=true:=by kernel_rfl) (hn:((zj (q5l fn))[k]?).isSome=true:=by kernel_rfl) :
  ∃fn' c c',P.funcs[((f,k),L).1.1]?=some fn'∧fn'.body=some c∧(zj c)[((f,k),L).1.2]?=some c'∧qt P gl ni (qC P it ((f,k),L).1.1) c' ((f,k),L).2:=qBd hf hb hn hg
theorem sk(E:Env){P:Program}(hm:P.follows .mixedOrders=true)(ht:E.tt.map (fun x=>qsy P x.1)=E.tt.map (·.2))(hs:E.specs P)(hl:E.loopsOK P)(hb:E.bodies P){f:FuncId}{fn:Func}(hf:P.funcs[f]?=some fn)
  {i:FIn} {outs:List FOut} {T:List PV→TR} (hT:∀ps,T ps=qp E f fn true i outs ps:=by exact fun _=>rfl) (hn:((fn.name == "runtime.NumGoroutine")||fn.body.isNone)=false:=by kernel_rfl)
  (hk:(Nat.beq i.h.length E.nimp&&i.h.all BP.isCells&&outs.all fun o=>qaH E.nimp o.h)=true:=by kernel_rfl):qZ P E.glob f (q9 i outs T):=
 qng hm ⟨uQ ht,hs,hl,hb⟩ hf hn hk hT
theorem gk(E:Env){P:Program}(hm:P.follows .mixedOrders=true)(ht:E.tt.map (fun x=>qsy P x.1)=E.tt.map (·.2))(hs:E.specs P)(hl:E.loopsOK P)(hb:E.bodies P){f k:Nat}{fn:Func}(hf:P.funcs[f]?=some fn)
  {tin:Tmpl} {outs:List Out} {S:List PV→TR} (hS:∀ps,S ps=yk E f fn k tin outs ps:=by exact fun _=>rfl) (hlp:qst (zW fn k)=true:=by kernel_rfl) (hni:q77 E.iter f=true:=by kernel_rfl)
  (hk:(tin.ok E.nimp&&outs.all fun o=>o.tm.ok E.nimp)=true:=by kernel_rfl) (hnk:(fn.body.isSome&&((zj (q5l fn))[k]?).isSome)=true:=by kernel_rfl) :
  qt P E.glob E.nimp (qC P E.iter f) (zW fn k) (qm tin outs (qj S)):=
 que hm ⟨uQ ht,hs,hl,hb⟩ hf hlp hni hk hnk hS
end Go.Eng

namespace Go.Eng
open Go.Shelf Go.RowKit Go.Proofs Go.Sort
theorem qkQ(w:World)(q:Nat)(os:Array Obj):Below w.heap.size w (grow (w.drewN q) os):=
 ⟨rfl,rfl,rfl,by simp[grow],fun i hi=>by
  show ((w.drewN q).heap++os)[i]?=_
  rw[Array.getElem?_append_left (by show i<w.heap.size;omega)]
  rfl⟩
theorem qs0(w:World)(e:TypeId)(s:ByteArray):Below w.heap.size w (Lib.bytesWorld w e s):=
 ⟨rfl,rfl,rfl,by rw[Lib.bytesWorld_size];omega,fun k hk=>Lib.bytesWorld_at_old w e s k (by omega)⟩
theorem HSim.grow{B:Base}{X:Ctx}(hs:HSim B X){w':World}(hb:Below X.w.heap.size X.w w'):HSim B { X with w:=w' }∧Ext X { X with w:=w' }:=by
 have hold:∀n (o:Obj),X.w.heap[n]?=some o→w'.heap[n]?=some o:=fun n o h=>(hb.block n (Array.getElem?_eq_some_iff.1 h).1).trans h
 have hx:Ext X { X with w:=w' }:=Move.of (fun _ h=>h) (fun a ha=>World.cell?_of_block (hb.block _ (hs.ltM _ ha))) (fun b b' hb' h=>by
  cases h
  exact⟨hb',rfl,fun _ _ h=>h,fun _ _ _ n _ c T fr h=>⟨c,T,fr,hold n _ h,rfl⟩⟩)
 refine⟨⟨fun b k hk=>?_,hs.inj,hs.notM,fun n hn=>Nat.lt_of_lt_of_le (hs.ltM n hn) hb.size,hs.M0,hs.newM,hb.os.trans hs.os,hb.tape.trans hs.tape,hb.output.trans hs.output,Nat.le_trans hs.size hb.size,
  fun n hn hni=>?_,hs.imps,hs.impc,hs.fresh,fun p hp=>?_⟩,hx⟩
 ·by_cases hd:k=.dead
  ·subst hd;trivial
  ·exact yJ.ext hx rfl (fun n hn=>hb.block n (hs.lt hk hd hn)) (hs.blk b k hk)
 ·show w'.heap[n]?=_
  rw[hb.block n (Nat.lt_of_lt_of_le hn hs.size)]
  exact hs.frame n hn hni
 ·obtain⟨q1,q2,q3⟩:=hs.kept p hp
  exact⟨hold _ _ q1,q2,q3⟩
theorem qg3{P:Program}{gl:List (Nat×AV)}{f:FuncId}{i:FIn}{o:FOut}{T:List PV→TR}(he:qjt P f)(hi:i.h.all BP.isCells=true)
  (h:∀(B:Base) (X:Ctx) (ps:List PV) (j:Nat) (qs:List PV) (vargs:List Value),HSim B X→q6V gl X→X.h=(i.make ps).2→RepL X (i.make ps).1 vargs→ps.map PV.kind=i.kinds→(T ps).run=some (j,qs) →
   j=0∧qs.map PV.kind=o.kinds∧(o.make qs).2=(i.make ps).2∧Calls P f vargs.toArray X.w fun e w'=>∃v,e=.returned v∧Below X.w.heap.size X.w w'∧Rep X (o.make qs).1 v) :
  qZ P gl f (q9 i [o] T):=by
 refine⟨he,fun B X args vargs r hs hen hgl ha hr=>?_⟩
 obtain⟨ps,j,qs,h1,h2,h3⟩:=qsh hr
 unfold FIn.take at h1
 obtain⟨x,y,g1,g2,rfl⟩:=q3G h1
 obtain⟨a1,a2,a3⟩:=AP.takeL_ok (X:=X) _ _ x y g1
 obtain⟨b1,b2,b3,b4,b5⟩:=BP.takeL_ok (X:=X) _ _ y [] g2
 rw[List.append_nil] at b3 b5
 have himp:B.imps.length=X.h.length:=by rw[hen.imps];simp
 obtain⟨d1,d2⟩:=qbD hs (h':=(BP.makeL i.h y).1) b3 (fun b k' hb=>by obtain⟨k0,e1,e2,_⟩:=b5 b k' hb;exact⟨k0,e1,e2⟩)
  (fun b hb k' hk'=>by
   obtain⟨k0,_,_,e3⟩:=b5 b k' hk'
   have hlt:b<i.h.length:=by omega
   exact e3 i.h[b] (List.getElem?_eq_getElem hlt) (List.all_eq_true.1 hi _ (List.getElem_mem hlt)))
 have hkd:(x++y).map PV.kind=i.kinds:=by simp[FIn.kinds,a2,b2]
 have hgl1:q6V gl ({ X with h:=(BP.makeL i.h y).1 }:Ctx):=fun z hz=>⟨(hgl z hz).1,(hgl z hz).2.move d2.M d2.w ((hgl z hz).2.1.ext d2)⟩
 have hmk:i.make (x++y)=((AP.makeL i.args (x++y)).1,(BP.makeL i.h y).1):=by simp only[FIn.make,a1]
 obtain⟨k1,k2,k3,k4⟩:=h B _ (x++y) j qs vargs d1 hgl1 (by rw[hmk]) (by rw[hmk];exact(a3 _ ha).ext d2) hkd h2
 subst k1
 refine k4.mono fun e w' ⟨v,e1,e2,e3⟩=>?_
 obtain⟨m1,m2⟩:=d1.grow e2
 have hre:=qqV h2 [o] 0 o r (Nat.zero_le _) rfl k2 h3
 subst hre
 exact⟨v,_,e1,rfl,e3.ext m2,by rw[k3,hmk],m1,rfl⟩
theorem quF{X:Ctx}{s:List UInt8}{vs:List Value}(h:RepL X [.str s] vs):vs=[.string ⟨s.toArray⟩]:=by
 cases h with
 | cons h t=>cases h;cases t;rfl
theorem qvc{X:Ctx}{k:IntKind}{n:Int}{vs:List Value}(h:RepL X [.int k n] vs):vs=[.int k n]:=by
 cases h with
 | cons h t=>cases h;cases t;rfl
theorem qmo{X:Ctx}{s t:List UInt8}{vs:List Value}(h:RepL X [.str s,.str t] vs):vs=[.string ⟨s.toArray⟩,.string ⟨t.toArray⟩]:=by
 cases h with
 | cons h t=>cases h;rw[quF t]
theorem qB2{ps:List PV}(h:ps.map PV.kind=[.s]):∃s,ps=[.s s]:=by
 match ps,h with
 | [.s s],_=>exact⟨s,rfl⟩
theorem qAC{ps:List PV}(h:ps.map PV.kind=[.i]):∃s,ps=[.i s]:=by
 match ps,h with
 | [.i s],_=>exact⟨s,rfl⟩
theorem qpI{ps:List PV}(h:ps.map PV.kind=[.s,.s]):∃s t,ps=[.s s,.s t]:=by
 match ps,h with
 | [.s s,.s t],_=>exact⟨s,t,rfl⟩
def qsi:List PV→TR
 | [.s s,.s [c]]=>.leaf (0,[.i (Lib.indexByte s c)])
 | _=>.fail
theorem qu2{P:Program}{ρ:Ren}(L:Lays.n219 P ρ)(he:qjt P (ρ.f 219)){gl:List (Nat×AV)} :
  qZ P gl (ρ.f 219) (q9 { args:=[.str,.str],h:=[] } [{ res:=.int .i64,h:=[] }] qsi):=
 qg3 he rfl fun B X ps j qs vargs hs hg hh ha hk hT=>by
  obtain⟨s,t,rfl⟩:=qpI hk
  unfold qsi at hT
  split at hT
  ·rename_i s' c hps
   simp only[List.cons.injEq,PV.s.injEq,and_true] at hps
   obtain⟨rfl,rfl⟩:=hps
   cases hT
   have:=qmo ha
   subst this
   refine⟨rfl,rfl,rfl,(Any.stringslite_Index_one L ⟨s.toArray⟩ c X.w).mono fun e w' ⟨h1,h2⟩=>?_⟩
   subst h2
   exact⟨_,h1,Below.refl _ _,.int _ _⟩
  ·cases hT
def qlN:List PV→TR
 | [.s s,.s t]=>.leaf (0,[.i (Lib.compareBytes s t)])
 | _=>.fail
theorem qqJ{P:Program}{ρ:Ren}(L:Lays.n106 P ρ)(he:qjt P (ρ.f 106)){gl:List (Nat×AV)} :
  qZ P gl (ρ.f 106) (q9 { args:=[.str,.str],h:=[] } [{ res:=.int .i64,h:=[] }] qlN):=
 qg3 he rfl fun B X ps j qs vargs hs hg hh ha hk hT=>by
  obtain⟨s,t,rfl⟩:=qpI hk
  cases hT
  have:=qmo ha
  subst this
  refine⟨rfl,rfl,rfl,(Any.strings_Compare L ⟨s.toArray⟩ ⟨t.toArray⟩ X.w).mono fun e w' ⟨h1,h2⟩=>?_⟩
  subst h2
  exact⟨_,h1,Below.refl _ _,.int _ _⟩
def qwZ:List PV→TR
 | [.s s,.s t]=>if s.length≤9223372036854775807∧t.length<4294967281∧t.all (fun b=>decide (b.toNat<128))=true then .leaf (0,[.s (Lib.trimS s t)]) else .fail
 | _=>.fail
theorem qvW{P:Program}{ρ:Ren}(L:Lays.n160 P ρ)(he:qjt P (ρ.f 160))(h116:(P.info? (ρ.t 116)).map (fun i=>(i.zero,i.size))=some (some (.agg (Array.replicate 256 (.bool false))),256)){gl:List (Nat×AV)} :
  qZ P gl (ρ.f 160) (q9 { args:=[.str,.str],h:=[] } [{ res:=.str,h:=[] }] qwZ):=
 qg3 he rfl fun B X ps j qs vargs hs hg hh ha hk hT=>by
  obtain⟨s,t,rfl⟩:=qpI hk
  simp only[qwZ] at hT
  split at hT
  ·rename_i hc
   cases hT
   have:=qmo ha
   subst this
   refine⟨rfl,rfl,rfl,(Any.strings_Trim_laid L h116 ⟨s.toArray⟩ ⟨t.toArray⟩ X.w (by simpa[ByteArray.size] using hc.1) (by simpa[ByteArray.size] using hc.2.1) (fun j b hj=>?_)).mono fun e w' ⟨h1,h2⟩=>⟨_,h1,h2,.str _⟩⟩
   have h3:=hc.2.2
   rw[List.all_eq_true] at h3
   simpa using h3 b (List.mem_of_getElem? hj)
  ·cases hT
def qAa:R:=[Lib.pow10Tab.map U.i]
def qxi:List PV→TR
 | [.i n]=>if -9223372036854775808≤n∧n≤9223372036854775807 then .leaf (0,[.s (Lib.itoa n)]) else .fail
 | _=>.fail
theorem qmM{P:Program}{X:Ctx}{g:Nat}{k:IntKind}{zs:List Int}{name:String}(hn:P.globalNamed name=some g)(hz:zs≠[])
  (h:qzG X (g,.eptr (zs.map fun _=>.int k) [zs.map U.i] 0 0)):Lib.TabIs P X.w name k zs:=by
 obtain⟨h1,h2,h3⟩:=h
 simp only at h1 h2 h3
 have hcell:∀j (hj:j<zs.length),X.w.cell? ⟨g,j,none⟩=some (.int k zs[j]):=by
  intro j hj
  generalize hv:(Value.pointer (some ⟨g,0,none⟩))=vv at h1
  cases h1 with
  | eptr _ _ _ _ a hsp h0 hl hr=>
   simp only[Value.pointer.injEq,Option.some.injEq,Addr.mk.injEq] at hv
   obtain⟨v1,v2,_⟩:=hv
   obtain⟨hM,v,e1,e2⟩:=hr 0 j (by simpa using hj) (by simp)
   have ho:a.off=0:=by omega
   have e1':X.w.cell? ⟨g,j,none⟩=some v:=by
    rw[Nat.zero_mul,Nat.add_zero,ho,Nat.zero_add,←v1] at e1
    exact e1
   rw[e1']
   have e2':RepU X.w X.M (.int k) (U.i zs[j]) v:=by
    simpa[j5,List.getD_eq_getElem?_getD,hj] using e2
   cases e2'
   rfl
 unfold Lib.TabIs World.var?
 rw[hn]
 simp only[Option.bind_some]
 have h0:=hcell 0 (List.length_pos_iff.2 hz)
 unfold World.cell? at h0
 simp only at h0
 split at h0
 ·rename_i cs T fr hheap
  rw[hheap]
  simp only
  congr 1
  have hsz:cs.size≤zs.length:=by
   have h4:X.w.cell? ⟨g,zs.length,none⟩=none:=by
    simpa[AV.span] using h3
   unfold World.cell? at h4
   simp only[hheap] at h4
   simpa using h4
  apply Array.ext
  ·simp
   rcases Nat.lt_or_ge cs.size zs.length with hlt|hge
   ·have:=hcell cs.size hlt
    unfold World.cell? at this
    simp[hheap] at this
   ·omega
  ·intro j hj hj2
   have hjz:j<zs.length:=by omega
   have:=hcell j hjz
   unfold World.cell? at this
   simp only[hheap] at this
   simp[hj] at this
   simp[this]
 ·cases h0
theorem qwG {P:Program} {ρ:Ren} (L:LaysM.n171 P ρ) (he:qjt P (ρ.f 171)) {gl:List (Nat×AV)} {g:Nat} (hn:P.globalNamed "internal/strconv.uint64pow10" = some g)
  (hg:(g,AV.eptr (Lib.pow10Tab.map fun _=>.int .u64) qAa 0 0)∈gl) :
  qZ P gl (ρ.f 171) (q9 { args:=[.int .i64],h:=[] } [{ res:=.str,h:=[] }] qxi):=
 qg3 he rfl fun B X ps j qs vargs hs hgl hh ha hk hT=>by
  obtain⟨n,rfl⟩:=qAC hk
  simp only[qxi] at hT
  split at hT
  ·rename_i hc
   cases hT
   have:=qvc ha
   subst this
   refine⟨rfl,rfl,rfl,(Any.strconv_Itoa L n hc.1 hc.2 X.w (qmM hn (by decide) (hgl _ hg).2)).mono fun e w' ⟨h1,k,os,h2⟩=>⟨_,h1,?_,.str _⟩⟩
   subst h2
   exact qkQ _ _ _
  ·cases hT
def qyh:List PV→TR
 | [.s s]=>if s.length≤18 then (match Lib.atoi s with|some n=>.leaf (0,[.i n])|none=>.fail) else .fail
 | _=>.fail
theorem qwC{P:Program}{ρ:Ren}(L:Lays.n172 P ρ)(he:qjt P (ρ.f 172)){gl:List (Nat×AV)} :
  qZ P gl (ρ.f 172) (q9 { args:=[.str],h:=[] } [{ res:=.tuple [.int .i64,.any],h:=[] }] qyh):=
 qg3 he rfl fun B X ps j qs vargs hs hg hh ha hk hT=>by
  obtain⟨s,rfl⟩:=qB2 hk
  simp only[qyh] at hT
  split at hT
  ·rename_i hc
   split at hT
   ·rename_i n hn
    cases hT
    have:=quF ha
    subst this
    refine⟨rfl,rfl,rfl,(Any.strconv_Atoi L ⟨s.toArray⟩ n (by simpa[ByteArray.size] using hc) (by simpa using hn) X.w).mono fun e w' ⟨h1,t,h2⟩=>⟨_,h1,?_,.tuple _ _ (.cons (.int _ _) (.cons (.undef _) .nil))⟩⟩
    subst h2
    exact qs0 _ _ _
   ·cases hT
  ·cases hT
def qxz(s:List UInt8):List UInt8:=qs6 (qjz [48,48,48,48,48,48,48,48,48] (wl s) 9) s
def qjs(w:R):Nat→List UInt8
 | 0=>[]
 | i+1=>qxz (Lib.itoa (cI w i 0))++qjs w i
def qxw(b:Bool)(n:Int)(w:R):List UInt8:=if n=0 then [48] else (if b then [45] else [])++Lib.itoa (cI w (n-1) 0)++qjs w (n-1).toNat
def qq9(n:Int)(w:R):Bool:=decide (0≤n)&&decide (n≤232)&&(List.range n.toNat).all fun i=>decide (0≤cI w i 0∧cI w i 0<1000000000)
def qxj:List PV→TR
 | [.b b,.i n,.r w]=>if qq9 n w then .leaf (0,[.s (qxw b n w),.b b,.i n,.r w]) else .fail
 | _=>.fail
end Go.Eng

namespace Go.Proofs
open Go.Shelf
def Tryz.lays219_ren:Go.Shelf.Ren:=⟨fun|219=>228|217=>245|225=>246|224=>247|267=>248|266=>260|314=>261|n=>n,fun|9=>9|3=>3|4=>4|5=>5|46=>281|146=>298|51=>279|n=>n,fun|1=>2|n=>n⟩
theorem Tryz.lays219:Go.Proofs.Lays.n219 Tryz.prog Tryz.lays219_ren:={
 mixed:=by kernel_rfl
 f217:=Tryz.func245.trans (congrArg some (by kernel_rfl))
 f219:=Tryz.func228.trans (congrArg some (by kernel_rfl))
 f224:=Tryz.func247.trans (congrArg some (by kernel_rfl))
 f225:=Tryz.func246.trans (congrArg some (by kernel_rfl))
 f266:=Tryz.func260.trans (congrArg some (by kernel_rfl))
 f267:=Tryz.func248.trans (congrArg some (by kernel_rfl))
 f314:=Tryz.func261.trans (congrArg some (by kernel_rfl))
 t3:=Tryz.underlying3
 a3:=Tryz.isAgg3
 z3:=Tryz.sizeOf3
 v3:=Tryz.zeroValue3
 t4:=Tryz.underlying4
 a4:=Tryz.isAgg4
 z4:=Tryz.sizeOf4
 v4:=Tryz.zeroValue4
 t5:=Tryz.underlying5
 a5:=Tryz.isAgg5
 z5:=Tryz.sizeOf5
 v5:=Tryz.zeroValue5
 t9:=Tryz.underlying9
 a9:=Tryz.isAgg9
 z9:=Tryz.sizeOf9
 v9:=Tryz.zeroValue9
 t46:=Tryz.underlying281
 a46:=Tryz.isAgg281
 z46:=Tryz.sizeOf281
 v46:=Tryz.zeroValue281
 t51:=Tryz.underlying279
 a51:=Tryz.isAgg279
 z51:=Tryz.sizeOf279
 v51:=Tryz.zeroValue279
 t146:=Tryz.underlying298
 a146:=Tryz.isAgg298
 z146:=Tryz.sizeOf298
 v146:=Tryz.zeroValue298
 g1:=by kernel_rfl }
def Tryz.lays106_ren:Go.Shelf.Ren:=⟨fun|106=>207|213=>232|265=>254|n=>n,fun|9=>9|3=>3|n=>n,fun|n=>n⟩
theorem Tryz.lays106:Go.Proofs.Lays.n106 Tryz.prog Tryz.lays106_ren:={
 mixed:=by kernel_rfl
 f106:=Tryz.func207.trans (congrArg some (by kernel_rfl))
 f213:=Tryz.func232.trans (congrArg some (by kernel_rfl))
 f265:=Tryz.func254.trans (congrArg some (by kernel_rfl))
 t3:=Tryz.underlying3
 a3:=Tryz.isAgg3
 z3:=Tryz.sizeOf3
 v3:=Tryz.zeroValue3
 t9:=Tryz.underlying9
 a9:=Tryz.isAgg9
 z9:=Tryz.sizeOf9
 v9:=Tryz.zeroValue9 }
def Tryz.lays160_ren:Go.Shelf.Ren:=⟨fun|160=>158|232=>191|231=>190|227=>192|234=>194|233=>193|236=>196|235=>195|228=>218|271=>221|151=>220|197=>219|120=>239|152=>238|260=>237|137=>256|119=>257|224=>247|225=>246|217=>245|266=>260|n=>n,fun|9=>9|4=>4|3=>3|5=>5|117=>234|116=>233|0=>0|124=>237|21=>21|105=>261|46=>281|119=>292|139=>295|138=>294|n=>n,fun|3=>3|4=>4|n=>n⟩
theorem Tryz.lays160:Go.Proofs.Lays.n160 Tryz.prog Tryz.lays160_ren:={
 mixed:=by kernel_rfl
 f119:=Tryz.func257.trans (congrArg some (by kernel_rfl))
 f120:=Tryz.func239.trans (congrArg some (by kernel_rfl))
 f137:=Tryz.func256.trans (congrArg some (by kernel_rfl))
 f151:=Tryz.func220.trans (congrArg some (by kernel_rfl))
 f152:=Tryz.func238.trans (congrArg some (by kernel_rfl))
 f160:=Tryz.func158.trans (congrArg some (by kernel_rfl))
 f197:=Tryz.func219.trans (congrArg some (by kernel_rfl))
 f217:=Tryz.func245.trans (congrArg some (by kernel_rfl))
 f224:=Tryz.func247.trans (congrArg some (by kernel_rfl))
 f225:=Tryz.func246.trans (congrArg some (by kernel_rfl))
 f227:=Tryz.func192.trans (congrArg some (by kernel_rfl))
 f228:=Tryz.func218.trans (congrArg some (by kernel_rfl))
 f231:=Tryz.func190.trans (congrArg some (by kernel_rfl))
 f232:=Tryz.func191.trans (congrArg some (by kernel_rfl))
 f233:=Tryz.func193.trans (congrArg some (by kernel_rfl))
 f234:=Tryz.func194.trans (congrArg some (by kernel_rfl))
 f235:=Tryz.func195.trans (congrArg some (by kernel_rfl))
 f236:=Tryz.func196.trans (congrArg some (by kernel_rfl))
 f260:=Tryz.func237.trans (congrArg some (by kernel_rfl))
 f266:=Tryz.func260.trans (congrArg some (by kernel_rfl))
 f271:=Tryz.func221.trans (congrArg some (by kernel_rfl))
 t0:=Tryz.underlying0
 a0:=Tryz.isAgg0
 z0:=Tryz.sizeOf0
 v0:=Tryz.zeroValue0
 t3:=Tryz.underlying3
 a3:=Tryz.isAgg3
 z3:=Tryz.sizeOf3
 v3:=Tryz.zeroValue3
 t4:=Tryz.underlying4
 a4:=Tryz.isAgg4
 z4:=Tryz.sizeOf4
 v4:=Tryz.zeroValue4
 t5:=Tryz.underlying5
 a5:=Tryz.isAgg5
 z5:=Tryz.sizeOf5
 v5:=Tryz.zeroValue5
 t9:=Tryz.underlying9
 a9:=Tryz.isAgg9
 z9:=Tryz.sizeOf9
 v9:=Tryz.zeroValue9
 t21:=Tryz.underlying21
 a21:=Tryz.isAgg21
 z21:=Tryz.sizeOf21
 v21:=Tryz.zeroValue21
 t46:=Tryz.underlying281
 a46:=Tryz.isAgg281
 z46:=Tryz.sizeOf281
 v46:=Tryz.zeroValue281
 t105:=Tryz.underlying261
 a105:=Tryz.isAgg261
 z105:=Tryz.sizeOf261
 v105:=Tryz.zeroValue261
 t116:=Tryz.underlying233
 a116:=Tryz.isAgg233
 z116:=Tryz.sizeOf233
 t117:=Tryz.underlying234
 a117:=Tryz.isAgg234
 z117:=Tryz.sizeOf234
 v117:=Tryz.zeroValue234
 t119:=Tryz.underlying292
 a119:=Tryz.isAgg292
 z119:=Tryz.sizeOf292
 t124:=Tryz.underlying237
 a124:=Tryz.isAgg237
 z124:=Tryz.sizeOf237
 v124:=Tryz.zeroValue237
 t138:=Tryz.underlying294
 a138:=Tryz.isAgg294
 z138:=Tryz.sizeOf294
 v138:=Tryz.zeroValue294
 t139:=Tryz.underlying295
 a139:=Tryz.isAgg295
 z139:=Tryz.sizeOf295
 v139:=Tryz.zeroValue295
 g3:=by kernel_rfl
 g4:=by kernel_rfl }
def Tryz.lays172_ren:Go.Shelf.Ren:=⟨fun|172=>202|244=>229|245=>230|247=>249|279=>250|280=>251|281=>252|282=>253|287=>262|316=>263|171=>132|205=>264|321=>265|322=>266|243=>163|246=>200|283=>224|284=>225|285=>226|286=>227|129=>241|317=>240|318=>242|319=>243|320=>244|337=>258|338=>259|n=>n,fun|9=>9|3=>3|75=>242|76=>243|4=>4|5=>5|167=>284|37=>179|0=>0|85=>285|2=>2|168=>287|53=>266|175=>300|46=>281|210=>303|127=>273|145=>311|143=>309|21=>21|171=>265|173=>269|212=>278|51=>279|20=>20|213=>280|232=>305|233=>306|80=>255|n=>n,fun|15=>5|16=>6|17=>1|18=>7|19=>8|n=>n⟩
theorem Tryz.lays172:Go.Proofs.Lays.n172 Tryz.prog Tryz.lays172_ren:={
 mixed:=by kernel_rfl
 f129:=Tryz.func241.trans (congrArg some (by kernel_rfl))
 f171:=Tryz.func132.trans (congrArg some (by kernel_rfl))
 f172:=Tryz.func202.trans (congrArg some (by kernel_rfl))
 f205:=Tryz.func264.trans (congrArg some (by kernel_rfl))
 f243:=Tryz.func163.trans (congrArg some (by kernel_rfl))
 f244:=Tryz.func229.trans (congrArg some (by kernel_rfl))
 f245:=Tryz.func230.trans (congrArg some (by kernel_rfl))
 f246:=Tryz.func200.trans (congrArg some (by kernel_rfl))
 f247:=Tryz.func249.trans (congrArg some (by kernel_rfl))
 f279:=Tryz.func250.trans (congrArg some (by kernel_rfl))
 f280:=Tryz.func251.trans (congrArg some (by kernel_rfl))
 f281:=Tryz.func252.trans (congrArg some (by kernel_rfl))
 f282:=Tryz.func253.trans (congrArg some (by kernel_rfl))
 f283:=Tryz.func224.trans (congrArg some (by kernel_rfl))
 f284:=Tryz.func225.trans (congrArg some (by kernel_rfl))
 f285:=Tryz.func226.trans (congrArg some (by kernel_rfl))
 f286:=Tryz.func227.trans (congrArg some (by kernel_rfl))
 f287:=Tryz.func262.trans (congrArg some (by kernel_rfl))
 f316:=Tryz.func263.trans (congrArg some (by kernel_rfl))
 f317:=Tryz.func240.trans (congrArg some (by kernel_rfl))
 f318:=Tryz.func242.trans (congrArg some (by kernel_rfl))
 f319:=Tryz.func243.trans (congrArg some (by kernel_rfl))
 f320:=Tryz.func244.trans (congrArg some (by kernel_rfl))
 f321:=Tryz.func265.trans (congrArg some (by kernel_rfl))
 f322:=Tryz.func266.trans (congrArg some (by kernel_rfl))
 f337:=Tryz.func258.trans (congrArg some (by kernel_rfl))
 f338:=Tryz.func259.trans (congrArg some (by kernel_rfl))
 t0:=Tryz.underlying0
 a0:=Tryz.isAgg0
 z0:=Tryz.sizeOf0
 v0:=Tryz.zeroValue0
 t2:=Tryz.underlying2
 a2:=Tryz.isAgg2
 z2:=Tryz.sizeOf2
 v2:=Tryz.zeroValue2
 t3:=Tryz.underlying3
 a3:=Tryz.isAgg3
 z3:=Tryz.sizeOf3
 v3:=Tryz.zeroValue3
 t4:=Tryz.underlying4
 a4:=Tryz.isAgg4
 z4:=Tryz.sizeOf4
 v4:=Tryz.zeroValue4
 t5:=Tryz.underlying5
 a5:=Tryz.isAgg5
 z5:=Tryz.sizeOf5
 v5:=Tryz.zeroValue5
 t9:=Tryz.underlying9
 a9:=Tryz.isAgg9
 z9:=Tryz.sizeOf9
 v9:=Tryz.zeroValue9
 t20:=Tryz.underlying20
 a20:=Tryz.isAgg20
 z20:=Tryz.sizeOf20
 v20:=Tryz.zeroValue20
 t21:=Tryz.underlying21
 a21:=Tryz.isAgg21
 z21:=Tryz.sizeOf21
 v21:=Tryz.zeroValue21
 t37:=Tryz.underlying179
 a37:=Tryz.isAgg179
 z37:=Tryz.sizeOf179
 v37:=Tryz.zeroValue179
 t46:=Tryz.underlying281
 a46:=Tryz.isAgg281
 z46:=Tryz.sizeOf281
 v46:=Tryz.zeroValue281
 t51:=Tryz.underlying279
 a51:=Tryz.isAgg279
 z51:=Tryz.sizeOf279
 v51:=Tryz.zeroValue279
 t53:=Tryz.underlying266
 a53:=Tryz.isAgg266
 z53:=Tryz.sizeOf266
 v53:=Tryz.zeroValue266
 t75:=Tryz.underlying242
 a75:=Tryz.isAgg242
 z75:=Tryz.sizeOf242
 v75:=Tryz.zeroValue242
 t76:=Tryz.underlying243
 a76:=Tryz.isAgg243
 z76:=Tryz.sizeOf243
 v76:=Tryz.zeroValue243
 t85:=Tryz.underlying285
 a85:=Tryz.isAgg285
 z85:=Tryz.sizeOf285
 v85:=Tryz.zeroValue285
 t127:=Tryz.underlying273
 a127:=Tryz.isAgg273
 z127:=Tryz.sizeOf273
 v127:=Tryz.zeroValue273
 t143:=Tryz.underlying309
 a143:=Tryz.isAgg309
 z143:=Tryz.sizeOf309
 v143:=Tryz.zeroValue309
 t145:=Tryz.underlying311
 a145:=Tryz.isAgg311
 z145:=Tryz.sizeOf311
 v145:=Tryz.zeroValue311
 t167:=Tryz.underlying284
 a167:=Tryz.isAgg284
 z167:=Tryz.sizeOf284
 v167:=Tryz.zeroValue284
 t168:=Tryz.underlying287
 a168:=Tryz.isAgg287
 z168:=Tryz.sizeOf287
 v168:=Tryz.zeroValue287
 t171:=Tryz.underlying265
 a171:=Tryz.isAgg265
 z171:=Tryz.sizeOf265
 v171:=Tryz.zeroValue265
 t173:=Tryz.underlying269
 a173:=Tryz.isAgg269
 z173:=Tryz.sizeOf269
 v173:=Tryz.zeroValue269
 t175:=Tryz.underlying300
 a175:=Tryz.isAgg300
 z175:=Tryz.sizeOf300
 v175:=Tryz.zeroValue300
 t210:=Tryz.underlying303
 a210:=Tryz.isAgg303
 z210:=Tryz.sizeOf303
 v210:=Tryz.zeroValue303
 t212:=Tryz.underlying278
 a212:=Tryz.isAgg278
 z212:=Tryz.sizeOf278
 v212:=Tryz.zeroValue278
 t213:=Tryz.underlying280
 a213:=Tryz.isAgg280
 z213:=Tryz.sizeOf280
 t232:=Tryz.underlying305
 a232:=Tryz.isAgg305
 z232:=Tryz.sizeOf305
 v232:=Tryz.zeroValue305
 t233:=Tryz.underlying306
 a233:=Tryz.isAgg306
 z233:=Tryz.sizeOf306
 v233:=Tryz.zeroValue306
 g15:=by kernel_rfl
 g16:=by kernel_rfl
 g17:=by kernel_rfl
 g18:=by kernel_rfl
 g19:=by kernel_rfl }
def Tryz.lays169_ren:Go.Shelf.Ren:=⟨fun|169=>212|n=>n,fun|70=>251|9=>9|0=>0|72=>253|37=>179|127=>273|3=>3|5=>5|n=>n,fun|n=>n⟩
theorem Tryz.lays169:Go.Proofs.Lays.n169 Tryz.prog Tryz.lays169_ren:={
 mixed:=by kernel_rfl
 f169:=Tryz.func212.trans (congrArg some (by kernel_rfl))
 t0:=Tryz.underlying0
 a0:=Tryz.isAgg0
 z0:=Tryz.sizeOf0
 v0:=Tryz.zeroValue0
 t3:=Tryz.underlying3
 a3:=Tryz.isAgg3
 z3:=Tryz.sizeOf3
 v3:=Tryz.zeroValue3
 t9:=Tryz.underlying9
 a9:=Tryz.isAgg9
 z9:=Tryz.sizeOf9
 v9:=Tryz.zeroValue9
 t37:=Tryz.underlying179
 a37:=Tryz.isAgg179
 z37:=Tryz.sizeOf179
 v37:=Tryz.zeroValue179
 t70:=Tryz.underlying251
 a70:=Tryz.isAgg251
 z70:=Tryz.sizeOf251
 v70:=Tryz.zeroValue251
 t72:=Tryz.underlying253
 a72:=Tryz.isAgg253
 z72:=Tryz.sizeOf253
 v72:=Tryz.zeroValue253
 t127:=Tryz.underlying273
 a127:=Tryz.isAgg273
 z127:=Tryz.sizeOf273
 v127:=Tryz.zeroValue273 }
def Tryz.laysM171_ren:Go.Shelf.Ren:=⟨fun|171=>132|243=>163|246=>200|283=>224|284=>225|285=>226|286=>227|129=>241|317=>240|318=>242|319=>243|320=>244|337=>258|338=>259|n=>n,fun|3=>3|9=>9|2=>2|4=>4|171=>265|0=>0|53=>266|37=>179|5=>5|173=>269|212=>278|51=>279|20=>20|213=>280|46=>281|232=>305|233=>306|n=>n,fun|17=>1|18=>7|19=>8|n=>n⟩
theorem Tryz.laysM171:Go.Proofs.LaysM.n171 Tryz.prog Tryz.laysM171_ren:={
 mixed:=by kernel_rfl
 f129:=Tryz.func241.trans (congrArg some (by kernel_rfl))
 f171:=Tryz.func132.trans (congrArg some (by kernel_rfl))
 f243:=Tryz.func163.trans (congrArg some (by kernel_rfl))
 f246:=Tryz.func200.trans (congrArg some (by kernel_rfl))
 f283:=Tryz.func224.trans (congrArg some (by kernel_rfl))
 f284:=Tryz.func225.trans (congrArg some (by kernel_rfl))
 f285:=Tryz.func226.trans (congrArg some (by kernel_rfl))
 f286:=Tryz.func227.trans (congrArg some (by kernel_rfl))
 f317:=Tryz.func240.trans (congrArg some (by kernel_rfl))
 f318:=Tryz.func242.trans (congrArg some (by kernel_rfl))
 f319:=Tryz.func243.trans (congrArg some (by kernel_rfl))
 f320:=Tryz.func244.trans (congrArg some (by kernel_rfl))
 f337:=Tryz.func258.trans (congrArg some (by kernel_rfl))
 f338:=Tryz.func259.trans (congrArg some (by kernel_rfl))
 t0:=Tryz.underlying0
 a0:=Tryz.isAgg0
 z0:=Tryz.sizeOf0
 v0:=Tryz.zeroValue0
 t2:=Tryz.underlying2
 a2:=Tryz.isAgg2
 z2:=Tryz.sizeOf2
 v2:=Tryz.zeroValue2
 t3:=Tryz.underlying3
 a3:=Tryz.isAgg3
 z3:=Tryz.sizeOf3
 v3:=Tryz.zeroValue3
 t4:=Tryz.underlying4
 a4:=Tryz.isAgg4
 z4:=Tryz.sizeOf4
 v4:=Tryz.zeroValue4
 t5:=Tryz.underlying5
 a5:=Tryz.isAgg5
 z5:=Tryz.sizeOf5
 v5:=Tryz.zeroValue5
 t9:=Tryz.underlying9
 a9:=Tryz.isAgg9
 z9:=Tryz.sizeOf9
 v9:=Tryz.zeroValue9
 t20:=Tryz.underlying20
 a20:=Tryz.isAgg20
 z20:=Tryz.sizeOf20
 v20:=Tryz.zeroValue20
 t37:=Tryz.underlying179
 a37:=Tryz.isAgg179
 z37:=Tryz.sizeOf179
 v37:=Tryz.zeroValue179
 t46:=Tryz.underlying281
 a46:=Tryz.isAgg281
 z46:=Tryz.sizeOf281
 v46:=Tryz.zeroValue281
 t51:=Tryz.underlying279
 a51:=Tryz.isAgg279
 z51:=Tryz.sizeOf279
 v51:=Tryz.zeroValue279
 t53:=Tryz.underlying266
 a53:=Tryz.isAgg266
 z53:=Tryz.sizeOf266
 v53:=Tryz.zeroValue266
 t171:=Tryz.underlying265
 a171:=Tryz.isAgg265
 z171:=Tryz.sizeOf265
 v171:=Tryz.zeroValue265
 t173:=Tryz.underlying269
 a173:=Tryz.isAgg269
 z173:=Tryz.sizeOf269
 v173:=Tryz.zeroValue269
 t212:=Tryz.underlying278
 a212:=Tryz.isAgg278
 z212:=Tryz.sizeOf278
 v212:=Tryz.zeroValue278
 t213:=Tryz.underlying280
 a213:=Tryz.isAgg280
 z213:=Tryz.sizeOf280
 t232:=Tryz.underlying305
 a232:=Tryz.isAgg305
 z232:=Tryz.sizeOf305
 v232:=Tryz.zeroValue305
 t233:=Tryz.underlying306
 a233:=Tryz.isAgg306
 z233:=Tryz.sizeOf306
 v233:=Tryz.zeroValue306
 g17:=by kernel_rfl
 g18:=by kernel_rfl
 g19:=by kernel_rfl
 i0:=by kernel_rfl
 i2:=by kernel_rfl
 i3:=by kernel_rfl
 i4:=by kernel_rfl
 i5:=by kernel_rfl
 i9:=by kernel_rfl
 i20:=by kernel_rfl
 i37:=by kernel_rfl
 i46:=by kernel_rfl
 i51:=by kernel_rfl
 i53:=by kernel_rfl
 i171:=by kernel_rfl
 i173:=by kernel_rfl
 i212:=by kernel_rfl
 i232:=by kernel_rfl
 i233:=by kernel_rfl
 m17:=by kernel_rfl
 m18:=by kernel_rfl
 m19:=by kernel_rfl }
end Go.Proofs

namespace Go.Eng
open Go.Shelf Go.RowKit Go.Proofs
set_option maxHeartbeats 2000000 in
set_option maxRecDepth 100000 in
theorem qzC(b:Nat)(w:World)(h0:w.cell? ⟨b,0,none⟩=some (.pointer (some ⟨b,0,none⟩))) :
  Calls Tryz.prog 234 #[.pointer (some ⟨b,0,none⟩)] w fun e w'=>e=.returned (.tuple #[])∧w'=w:=by
 obtain⟨j,hj,_⟩:=Option.map_eq_some_iff.1 (show (Tryz.prog.info? 253).map (·.size)=some 2 by kernel_rfl)
 go_enter Tryz.func234,Tryz.ntmps234
 go_wp2
 rw[Lib.run_neq_ptr_same w ⟨b,0,none⟩ Tryz.underlying251 hj]
 go_wp2
 go_end0
 exact⟨rfl,rfl⟩
set_option maxHeartbeats 2000000 in
set_option maxRecDepth 100000 in
theorem qxa(b:Nat)(w:World)(h0:w.cell? ⟨b,0,none⟩=some (.pointer none))(hsh:w.shape? b=some (253,2))(hfz:w.frozen? ⟨b,0,none⟩=false) :
  Calls Tryz.prog 234 #[.pointer (some ⟨b,0,none⟩)] w fun e w'=>e=.returned (.tuple #[])∧w'=w.setCell ⟨b,0,none⟩ (.pointer (some ⟨b,0,none⟩)):=by
 obtain⟨j,hj,hjs⟩:=Option.map_eq_some_iff.1 (show (Tryz.prog.info? 253).map (·.size)=some 2 by kernel_rfl)
 go_enter Tryz.func234,Tryz.ntmps234
 go_wp2
 rw[Lib.run_to_unsafe w ⟨b,0,none⟩ Tryz.underlying251 Tryz.underlying290 hj (by rw[hjs];decide) hsh (Nat.zero_lt_succ 1)]
 simp only[Result.andThen]
 rw[Oper.upon_value]
 go_wp2
 rw[run_callFunc_extern Tryz.func255 (by kernel_rfl) (by kernel_rfl) (by kernel_rfl) (e:=Extern.AbiNoEscape.same) (by kernel_rfl)]
 rw[Lib.run_noEscape]
 simp only[Result.andThen]
 rw[Oper.upon_value]
 go_wp2
 rw[Lib.run_from_unsafe w ⟨b,0,none⟩ Tryz.underlying290 Tryz.underlying251 hj hsh (by kernel_rfl)]
 simp only[Result.andThen]
 rw[Oper.upon_value]
 go_wp2
 go_end0
 exact⟨rfl,rfl⟩
abbrev BtB(B b:Nat)(bs:List Value)(w:World):Prop:=Lib.IsBuilder 253 5 B b bs w
set_option maxHeartbeats 2000000 in
set_option maxRecDepth 100000 in
theorem qrD(B b:Nat)(bs:List Value)(w:World)(h:BtB B b bs w) :
  Calls Tryz.prog 234 #[.pointer (some ⟨b,0,none⟩)] w fun e w'=>e=.returned (.tuple #[])∧Lib.BuilderAt 253 5 B b (.pointer (some ⟨b,0,none⟩)) bs w'∧Below B w w':=by
 rcases h with h|h
 ·refine(qxa b w h.cell0 h.shape h.frozen0).mono ?_
  rintro e w' ⟨rfl,rfl⟩
  exact⟨rfl,h.used _,(Below.refl B w).setCell (p:=⟨b,0,none⟩) h.1 _⟩
 ·refine(qzC b w h.cell0).mono ?_
  rintro e w' ⟨rfl,rfl⟩
  exact⟨rfl,h,Below.refl B _⟩
set_option maxHeartbeats 2000000 in
set_option maxRecDepth 100000 in
theorem qzd(B b:Nat)(bs:List Value)(c:Int)(w:World)(h:BtB B b bs w)(hlen:bs.length+1≤140737488355328)(hBw:B≤w.heap.size) :
  Calls Tryz.prog 210 #[.pointer (some ⟨b,0,none⟩),.int .u8 c] w fun e w'=>e=.returned .nilIface∧BtB B b (bs++[.int .u8 c]) w'∧Below B w w':=by
 obtain⟨i0,hi,hz0,hz1,hz2⟩:=info_parts (show (Tryz.prog.info? 5).map (fun i=>(i.zero,i.size,i.bytes))=some (some (.int .u8 0),1,1) by kernel_rfl)
 go_enter Tryz.func210,Tryz.ntmps210
 go_wp2_with (go_at_call 234;refine(qrD B b bs _ h).mono ?_)
 rintro e w1 ⟨rfl,h1,hb1⟩
 obtain⟨hB,v,hbk,hown,hne⟩:=h1
 have c0:w1.cell? ⟨b,0,none⟩=some (.pointer (some ⟨b,0,none⟩)):=by rw[Lib.cell_of_heap hbk];rfl
 have c1:w1.cell? ⟨b,1,none⟩=some v:=by rw[Lib.cell_of_heap hbk];rfl
 have hsz1:=hb1.size
 go_wp2_with (at_builtin;refine wpList_append_own _ rfl _ _ 179 rfl B 5 i0 (.int .u8 0) 1 1 Tryz.underlying179 hi hz0 hz1 hz2 rfl (by decide) _ _ _ rfl (hown.alloc _) ⟨w1.heap.size,0,none⟩ 1 1 [.int .u8 c] rfl rfl ?c1 ?c2 ?c3 ?c4 ?c5 ?_)
 case c1=>
  intro j u hj
  match j,hj with
  | 0,hj=>simp at hj;subst hj;simp[Addr.add]
 case c2=>intro u hu;simp at hu;subst hu;rfl
 case c3=>unfold maxLen;omega
 case c4=>omega
 case c5=>simp;omega
 intro v' w2 hown' hgrow _
 have hlt:b<w1.heap.size:=by
  rcases Nat.lt_or_ge b w1.heap.size with h'|h'
  ·exact h'
  ·simp[Array.getElem?_eq_none h'] at hbk
 have hb2:w2.heap[b]?=some (.cells #[.pointer (some ⟨b,0,none⟩),v] 253 (0,0)):=by
  rw[hgrow.block b (by simp;omega) (fun e=>hne e.symm),Lib.alloc_old w1 _ b hlt]
  exact hbk
 have d0:w2.cell? ⟨b,0,none⟩=some (.pointer (some ⟨b,0,none⟩)):=by rw[Lib.cell_of_heap hb2];rfl
 have d1:w2.cell? ⟨b,1,none⟩=some v:=by rw[Lib.cell_of_heap hb2];rfl
 have f1:w2.frozen? ⟨b,1,none⟩=false:=Lib.frozen_of_heap hb2 1
 obtain⟨ao,n',cap,rfl⟩:∃ao n' cap,v'=.slice ao n' cap:=by
  rcases hown'.2 with⟨hv,_⟩|⟨g,cap,cur,hv,_⟩
  ·exact⟨_,_,_,hv⟩
  ·exact⟨_,_,_,hv⟩
 go_wp2
 go_ret
 refine⟨rfl,.inr ?_,?_⟩
 ·exact Lib.BuilderAt.put (T:=253) (e:=5) hB hb2 (bs':=bs++[.int .u8 c]) (by simpa using hown') (by decide)
 ·exact((hb1.alloc (by omega) _).grown hgrow (by simp;omega) (fun k hk=>(hown.lt k hk).1)).setCell (p:=⟨b,1,none⟩) hB _
set_option maxHeartbeats 2000000 in
set_option maxRecDepth 100000 in
theorem qxn(B b:Nat)(bs:List Value)(s:ByteArray)(w:World)(h:BtB B b bs w)(hlen:bs.length+s.size≤140737488355328)(hBw:B≤w.heap.size) :
  Calls Tryz.prog 211 #[.pointer (some ⟨b,0,none⟩),.string s] w fun e w'=>e=.returned (.tuple #[.int .i64 s.size,.nilIface])∧BtB B b (bs++Lib.strCells s) w'∧Below B w w':=by
 obtain⟨i0,hi,hz0,hz1,hz2⟩:=info_parts (show (Tryz.prog.info? 5).map (fun i=>(i.zero,i.size,i.bytes))=some (some (.int .u8 0),1,1) by kernel_rfl)
 go_enter Tryz.func211,Tryz.ntmps211
 go_wp2_with (go_at_call 234;refine(qrD B b bs _ h).mono ?_)
 rintro e w1 ⟨rfl,h1,hb1⟩
 obtain⟨hB,v,hbk,hown,hne⟩:=h1
 have c0:w1.cell? ⟨b,0,none⟩=some (.pointer (some ⟨b,0,none⟩)):=by rw[Lib.cell_of_heap hbk];rfl
 have c1:w1.cell? ⟨b,1,none⟩=some v:=by rw[Lib.cell_of_heap hbk];rfl
 have hsz1:=hb1.size
 go_wp2_with (at_builtin;refine Lib.wpList_append_own_string _ rfl _ _ 179 9 rfl B 5 i0 Tryz.underlying179 Tryz.underlying9 hi hz0 hz1 hz2 _ _ _ rfl hown s rfl ?c3 ?c4 ?c5 ?_)
 case c3=>unfold maxLen;omega
 case c4=>omega
 case c5=>omega
 intro v' w2 hown' hgrow _
 have hlt:b<w1.heap.size:=by
  rcases Nat.lt_or_ge b w1.heap.size with h'|h'
  ·exact h'
  ·simp[Array.getElem?_eq_none h'] at hbk
 have hb2:w2.heap[b]?=some (.cells #[.pointer (some ⟨b,0,none⟩),v] 253 (0,0)):=by
  rw[hgrow.block b hlt (fun e=>hne e.symm)]
  exact hbk
 have d0:w2.cell? ⟨b,0,none⟩=some (.pointer (some ⟨b,0,none⟩)):=by rw[Lib.cell_of_heap hb2];rfl
 have d1:w2.cell? ⟨b,1,none⟩=some v:=by rw[Lib.cell_of_heap hb2];rfl
 have f1:w2.frozen? ⟨b,1,none⟩=false:=Lib.frozen_of_heap hb2 1
 obtain⟨ao,n',cap,rfl⟩:∃ao n' cap,v'=.slice ao n' cap:=by
  rcases hown'.2 with⟨hv,_⟩|⟨g,cap,cur,hv,_⟩
  ·exact⟨_,_,_,hv⟩
  ·exact⟨_,_,_,hv⟩
 go_wp2
 go_ret2
 refine⟨rfl,.inr ?_,?_⟩
 ·exact Lib.BuilderAt.put (T:=253) (e:=5) hB hb2 (bs':=bs++Lib.strCells s) (by simpa[Lib.strCells_length] using hown') (by decide)
 ·exact(hb1.grown hgrow (by omega) (fun k hk=>(hown.lt k hk).1)).setCell (p:=⟨b,1,none⟩) hB _
theorem qxF:Builder.Extra Tryz.prog Tryz.lays169_ren where
 sizeBuilder:=by kernel_rfl
 liesBuilder:=by kernel_rfl
 t5:=Tryz.underlying5
 a5:=Tryz.isAgg5
 z5:=Tryz.sizeOf5
 v5:=Tryz.zeroValue5
 infoByte:=by kernel_rfl
 cellsByte:=by kernel_rfl
 sizeByte:=by kernel_rfl
 neB5:=by decide
set_option maxHeartbeats 2000000 in
set_option maxRecDepth 100000 in
theorem qvG(B b:Nat)(l:List UInt8)(w:World)(h:BtB B b (Lib.byteCells l) w)(h0:l≠[]) :
  Calls Tryz.prog 212 #[.pointer (some ⟨b,0,none⟩)] w fun e w'=>e=.returned (.string ⟨l.toArray⟩)∧Below B w w':=
 Any.Builder_String Tryz.lays169 qxF B b l w h h0
def qiC(f:Nat→Int):Nat→List UInt8
 | 0=>[]
 | i+1=>qxz (Lib.itoa (f i))++qiC f i
def qvu(b:Bool)(n:Nat)(f:Nat→Int):List UInt8:=if n=0 then [48] else (if b then [45] else [])++Lib.itoa (f (n-1))++qiC f (n-1)
theorem qvh (n:Int) (h:-9223372036854775808≤n∧n≤9223372036854775807) (w:World) (ht:Lib.TabIs Tryz.prog w "internal/strconv.uint64pow10" .u64 Lib.pow10Tab) :
  Calls Tryz.prog 132 #[.int .i64 n] w fun e w'=>e=.returned (.string ⟨(Lib.itoa n).toArray⟩)∧Below w.heap.size w w':=
 (Any.strconv_Itoa Tryz.laysM171 n h.1 h.2 w ht).mono fun e w' ⟨h1,k,os,h2⟩=>⟨h1,by subst h2;exact qkQ _ _ _⟩
theorem qn1{P:Program}{w w':World}{name:String}{k:IntKind}{zs:List Int}(h:Lib.TabIs P w name k zs)(hb:Below w.heap.size w w'):Lib.TabIs P w' name k zs:=by
 unfold Lib.TabIs World.var? at *
 cases hg:P.globalNamed name with
 | none=>rw[hg] at h;cases h
 | some g=>
  rw[hg] at h
  simp only[Option.bind_some] at h ⊢
  by_cases hlt:g<w.heap.size
  ·rw[hb.block g hlt];exact h
  ·rw[Array.getElem?_eq_none (by omega)] at h;cases h
theorem qfJ{w w':World}(hb:Below w.heap.size w w'){n:Nat}(hn:n<w.heap.size)(o:Nat):w'.cell? ⟨n,o,none⟩=w.cell? ⟨n,o,none⟩:=World.cell?_of_block (hb.block n hn)
theorem qsD{B b:Nat}{bs:List Value}{w w':World}(h:BtB B b bs w)(hb:Below w.heap.size w w'):BtB B b bs w':=by
 have key:∀p,Lib.BuilderAt 253 5 B b p bs w→Lib.BuilderAt 253 5 B b p bs w':=by
  intro p h
  have hlt:=h.lt
  obtain⟨hB,v,hbk,⟨hl,hown⟩,hne⟩:=h
  refine⟨hB,v,(hb.block b hlt).trans hbk,⟨hl,?_⟩,hne⟩
  rcases hown with h|⟨g,cap,cur,h1,h2,h3,h4⟩
  ·exact .inl h
  ·exact .inr ⟨g,cap,cur,h1,h2,(hb.block g (Array.getElem?_eq_some_iff.1 h3).1).trans h3,h4⟩
 exact h.elim (fun x=>.inl (key _ x)) (fun x=>.inr (key _ x))
theorem qzA{B b:Nat}{bs:List Value}{w:World}(h:BtB B b bs w):BtB B b bs w.drew:=h.elim (fun x=>.inl x.drew) (fun x=>.inr x.drew)
theorem qyC:∀(k n:Nat),n<10^(k+1)→(Lib.decDigits n).length≤k+1
 | 0,n,h=>by rw[Lib.decDigits,dif_pos (by omega)];simp
 | k+1,n,h=>by
  rw[Lib.decDigits]
  split
  ·simp
  ·have:=qyC k (n/10) (by rw[Nat.pow_succ] at h;omega)
   simp;omega
theorem qzD{pre l:List UInt8}{k:Nat}(hp:pre.length≤k)(hl:l.length≤9)(hk:k≤100000:=by omega):(Lib.byteCells pre).length+(⟨l.toArray⟩:ByteArray).size≤140737488355328:=by
 rw[Lib.byteCells_length]
 have:(⟨l.toArray⟩:ByteArray).size=l.length:=by simp[ByteArray.size]
 omega
theorem qvs{x:Int}(h:0≤x∧x<1000000000):(Lib.itoa x).length≤9:=by
 unfold Lib.itoa
 rw[if_neg (by omega)]
 exact qyC 8 _ (by omega)
theorem qvq{l:List UInt8}(h:l.length≤9):(qxz l).length=9:=by
 unfold qxz qs6 qjz wl
 simp;omega
theorem qyz{l:List UInt8}(h:l.length≤9):(⟨#[48,48,48,48,48,48,48,48,48]⟩:ByteArray).extract l.length 9++⟨l.toArray⟩=⟨(qxz l).toArray⟩:=by
 have key:∀k:Nat,k≤9→(⟨#[48,48,48,48,48,48,48,48,48]⟩:ByteArray).extract k 9=⟨(qjz [48,48,48,48,48,48,48,48,48] (k:Int) 9).toArray⟩:=by
  intro k hk
  have:k=0∨k=1∨k=2∨k=3∨k=4∨k=5∨k=6∨k=7∨k=8∨k=9:=by omega
  rcases this with rfl|rfl|rfl|rfl|rfl|rfl|rfl|rfl|rfl|rfl<;>rfl
 rw[key _ h]
 unfold qxz qs6 wl
 apply ByteArray.ext
 simp
theorem qxo(l:List UInt8):Lib.strCells ⟨l.toArray⟩=Lib.byteCells l:=rfl
theorem qzJ(x:Int):0<(Lib.itoa x).length:=by
 unfold Lib.itoa
 split
 ·simp
 ·rw[Lib.decDigits];split<;>simp
set_option maxHeartbeats 4000000 in
set_option maxRecDepth 1000000 in
theorem qzs(n0:Nat)(b:Bool)(n:Nat)(f:Nat→Int)(w:World)(hlt:n0<w.heap.size)(h0:w.cell? ⟨n0,0,none⟩=some (.bool b))(h1:w.cell? ⟨n0,1,none⟩=some (.int .i64 (n:Int)))(hw:∀i,i<232→w.cell? ⟨n0,2+i,none⟩=some (.int .i64 (f i)))
  (hn:n≤232) (hf:∀i,i<n→0≤f i∧f i<1000000000) (ht:Lib.TabIs Tryz.prog w "internal/strconv.uint64pow10" .u64 Lib.pow10Tab) :
  Calls Tryz.prog 179 #[.pointer (some ⟨n0,0,none⟩)] w fun e w'=>e=.returned (.string ⟨(qvu b n f).toArray⟩)∧Below w.heap.size w w':=by
 rcases Nat.eq_zero_or_pos n with rfl|hpos
 ·go_enter Tryz.func179,Tryz.ntmps179
  go_wp2
  go_ret
  exact⟨rfl,Below.refl _ _⟩
 obtain⟨m,rfl⟩:∃m,n=m+1:=⟨n-1,by omega⟩
 have hne:(((m+1:Nat):Int)==0)=false:=by simp;omega
 have w1:IntKind.i64.wrap (((m+1:Nat):Int)-1)=(m:Int):=by unfold IntKind.wrap;simp[IntKind.signed,IntKind.bits];omega
 have w1':IntKind.i64.wrap (m:Int)=(m:Int):=by unfold IntKind.wrap;simp[IntKind.signed,IntKind.bits];omega
 have hi:0≤(m:Int)∧(m:Int)<232:=by omega
 have hwm:=hw m (by omega)
 have w2:IntKind.i64.wrap (((m+1:Nat):Int)-2)=(m:Int)-1:=by unfold IntKind.wrap;simp[IntKind.signed,IntKind.bits];omega
 have hitm:=qvs (hf m (by omega))
 cases b
 case' false=>
  go_enter Tryz.func179,Tryz.ntmps179
  go_wp2
  have hB0:=Lib.fresh_isBuilder 253 5 w
  have hb0:=(Below.refl w.heap.size w).alloc (Nat.le_refl _) (.cells #[.pointer none,.slice none 0 0] 253)
  generalize w.alloc (.cells #[.pointer none,.slice none 0 0] 253)=W0 at *
  obtain⟨pre,hpre⟩:∃pre:List UInt8,pre=if false=true then [45] else []:=⟨_,rfl⟩
  replace hB0:BtB w.heap.size w.heap.size (Lib.byteCells pre) W0:=by subst hpre;exact hB0
 case' true=>
  go_enter Tryz.func179,Tryz.ntmps179
  go_wp2_with (go_at_call 210;refine(qzd w.heap.size w.heap.size [] 45 _ (Lib.fresh_isBuilder 253 5 w) (by simp) (by simp)).mono ?_)
  rintro e W0 ⟨rfl,hB0,hb0⟩
  replace hb0:=((Below.refl w.heap.size w).alloc (Nat.le_refl _) (.cells #[.pointer none,.slice none 0 0] 253)).trans hb0
  obtain⟨pre,hpre⟩:∃pre:List UInt8,pre=if true=true then [45] else []:=⟨_,rfl⟩
  replace hB0:BtB w.heap.size w.heap.size (Lib.byteCells pre) W0:=by subst hpre;exact hB0
  go_wp2
 all_goals
  have hp1:pre.length≤1:=by subst hpre;split<;>simp
  have hs0:=hb0.size
  have d1:=(qfJ hb0 hlt 1).trans h1
  have dm:=(qfJ hb0 hlt (2+m)).trans hwm
  go_region_with (first
   | (go_at_call 132;refine(qvh (f m) (by have:=hf m (by omega);omega) _ (qn1 ht hb0.drew)).mono ?_;rintro e W1 ⟨rfl,b1⟩)
   | (go_at_call 211;refine(qxn w.heap.size w.heap.size _ _ _ (qsD (qzA hB0) b1) (qzD hp1 hitm) (Nat.le_trans hs0 b1.size)).mono ?_;rintro e W2 ⟨rfl,hB2,b2⟩))
  have b02:Below w.heap.size w W2:=(hb0.drew.trans (b1.mono hs0)).trans b2
  have e1:=(qfJ b02 hlt 1).trans h1
  replace hB2:BtB w.heap.size w.heap.size (Lib.byteCells (pre++Lib.itoa (f m))) W2:=by rw[Lib.byteCells_append];exact hB2
  go_wp2
  go_loopw [4] (fun vi wr=>∃(k:Nat) (acc:List UInt8),vi=.int .i64 ((k:Int)-1)∧k≤m∧BtB w.heap.size w.heap.size (Lib.byteCells acc) wr∧Below w.heap.size w wr∧acc++qiC f k=pre++Lib.itoa (f m)++qiC f m∧acc.length≤10+9*(m-k)) (fun vi _=>(intOf vi+1).toNat)
  case atStart=>exact⟨m,_,by congr 1<;>omega,Nat.le_refl _,hB2,b02,rfl,by simp;omega⟩
  case round=>
   obtain⟨k,acc,rfl,hkm,hI,hbw,hacc,hal⟩:=hrel
   have hbs:=hbw.size
   rcases Nat.eq_zero_or_pos k with rfl|hk0
   ·go_wp2_with (go_at_call 212;refine(qvG w.heap.size w.heap.size acc _ hI ?hne).mono ?_)
    case hne=>
     intro h0
     subst h0
     have:=congrArg List.length hacc
     have h9:=qzJ (f m)
     simp[qiC] at this
     omega
    rintro e W3 ⟨rfl,b3⟩
    go_wp2
    go_ret
    refine⟨?_,hbw.trans b3⟩
    simp only[qiC,List.append_nil] at hacc
    rw[hacc,hpre]
    simp[qvu]
   ·obtain⟨q,rfl⟩:∃q,k=q+1:=⟨k-1,by omega⟩
    have x1:(((q+1:Nat):Int)-1)=(q:Int):=by omega
    have x2:(0:Int)≤(q:Int)∧(q:Int)<232:=by omega
    have x3:(q:Int).toNat=q:=Int.toNat_natCast q
    have dq:=(qfJ hbw hlt (2+q)).trans (hw q (by omega))
    have hq9:=qvs (hf q (by omega))
    rw[x1]
    go_wp2_with (go_at_call 132;refine(qvh (f q) (by have:=hf q (by omega);omega) _ (qn1 ht hbw)).mono ?_)
    rintro e W3 ⟨rfl,b3⟩
    clear w1 w1' w2 hi hwm hne h1 hf hw ht
    have hl9:((⟨(Lib.itoa (f q)).toArray⟩:ByteArray).size:Int)≤9:=by simp[ByteArray.size];omega
    go_wp2_with (go_at_call 211;refine(qxn w.heap.size w.heap.size (Lib.byteCells acc) _ _ (qsD hI b3) ?hl (Nat.le_trans hbs b3.size)).mono ?_)
    case hl=>rw[qyz hq9,Lib.byteCells_length];have:=qvq hq9;simp[ByteArray.size];omega
    rintro e W4 ⟨rfl,hB4,b4⟩
    rw[qyz hq9,qxo,←Lib.byteCells_append] at hB4
    go_wp2
    go_roundw
    case rel=>
     refine⟨q,_,by congr 1<;>omega,by omega,hB4,(hbw.trans (b3.mono hbs)).trans b4,?_,?_⟩
     ·rw[←hacc];simp[qiC]
     ·have:=qvq hq9
      simp;omega
    case measure=>simp[intOf]
theorem qvb(w:R):∀i,qjs w i=qiC (fun i=>cI w i 0) i
 | 0=>rfl
 | i+1=>by unfold qjs qiC;rw[qvb w i]
theorem qyU(b:Bool)(n:Nat)(w:R):qxw b (n:Int) w=qvu b n (fun i=>cI w i 0):=by
 unfold qxw qvu
 by_cases h:n=0
 ·subst h;rfl
 ·rw[if_neg (by omega),if_neg h,qvb]
  have e:((n:Int)-1)=((n-1:Nat):Int):=by omega
  rw[e,Int.toNat_natCast]
theorem qwR{ps:List PV}(h:ps.map PV.kind=[.b,.i,.r]):∃b n w,ps=[.b b,.i n,.r w]:=by
 match ps,h with
 | [.b b,.i n,.r w],_=>exact⟨b,n,w,rfl⟩
theorem qwe{gl:List (Nat×AV)}(hg:(1,AV.eptr (Lib.pow10Tab.map fun _=>.int .u64) qAa 0 0)∈gl) :
  qZ Tryz.prog gl 179 (q9 { args:=[.ptr 0 0],h:=[.big [.bool,.int .i64] .i64 232] } [{ res:=.str,h:=[.big [.bool,.int .i64] .i64 232] }] qxj):=
 qg3 (q2j Tryz.func179 (by kernel_rfl) (by kernel_rfl)) rfl fun B X ps j qs vargs hs hgl hh ha hk hT=>by
  obtain⟨b,n,r,rfl⟩:=qwR hk
  simp only[qxj] at hT
  split at hT
  ·rename_i hc
   cases hT
   unfold qq9 at hc
   simp only[Bool.and_eq_true,decide_eq_true_eq,List.all_eq_true,List.mem_range] at hc
   obtain⟨⟨c1,c2⟩,c3⟩:=hc
   obtain⟨m,rfl⟩:∃m:Nat,n=(m:Int):=⟨n.toNat,by omega⟩
   have hb0:X.h[0]?=some (.big [.bool b,.int .i64 (m:Int)] .i64 232 r):=by rw[hh];rfl
   obtain⟨n0,c,T,vs,hσ,hheap,hrep,hcl,hrl⟩:=hs.blk 0 _ hb0
   have hvs:vs=[.bool b,.int .i64 (m:Int)]:=by
    cases hrep with
    | cons h t=>cases h;rw[qvc t]
   subst hvs
   have hva:vargs=[.pointer (some ⟨n0,0,none⟩)]:=by
    cases ha with
    | cons h t=>
     cases t
     cases h with
     | ptr _ _ n1 hb hσ2=>
      have:n1=n0:=Option.some.inj (hσ2.symm.trans hσ)
      rw[this]
   subst hva
   have hlt:n0<X.w.heap.size:=(Array.getElem?_eq_some_iff.1 hheap).1
   have hcell:∀o,X.w.cell? ⟨n0,o,none⟩=c[o]?:=fun o=>by unfold World.cell?;simp only[hheap];rfl
   have g0:X.w.cell? ⟨n0,0,none⟩=some (.bool b):=by rw[hcell,←Array.getElem?_toList,hcl];rfl
   have g1:X.w.cell? ⟨n0,1,none⟩=some (.int .i64 (m:Int)):=by rw[hcell,←Array.getElem?_toList,hcl];rfl
   have gw:∀i,i<232→X.w.cell? ⟨n0,2+i,none⟩=some (.int .i64 (cI r (i:Int) 0)):=fun i hi=>by
    rw[hcell]
    exact qq7 (vs:=[.bool b,.int .i64 (m:Int)]) hcl (by omega)
   refine⟨rfl,rfl,rfl,?_⟩
   have hT:=qmM (k:=.u64) (zs:=Lib.pow10Tab) (show Tryz.prog.globalNamed "internal/strconv.uint64pow10" = some 1 by kernel_rfl) (by decide) (hgl _ hg).2
   refine(qzs n0 b m (fun i=>cI r (i:Int) 0) X.w hlt g0 g1 gw (by omega) (fun i hi=>c3 i (by omega)) hT).mono fun e w' ⟨k1,k2⟩=>⟨_,k1,k2,?_⟩
   rw[←qyU]
   exact .str _
  ·cases hT
end Go.Eng

namespace Go.Eng
open Go.Proofs
noncomputable def q5O:List (TypeId×TI):=[(1,(.mk .func 1 [.nilFunc] 8 false false)),(2,(.mk (.int .i64) 1 [(.int .i64 0)] 8 false false)),(3,(.mk (.int .i64) 1 [(.int .i64 0)] 8 false false)),(4,(.mk .bool 1 [(.bool false)] 1 false false)),(5,(.mk (.int .u8) 1 [(.int .u8 0)] 1 false false)),(6,(.mk (.int .u8) 1 [(.int .u8 0)] 1 false false)),(8,(.mk (.struct [(0,(2,1)),(1,(3,1)),(2,(4,1)),(3,(6,1))]) 4 [(.int .i64 0),(.int .i64 0),(.bool false),(.int .u8 0)] 24 true true)),(9,(.mk .str 1 [(.string (.mk (.mk [])))] 16 false false)),(10,(.mk .str 1 [(.string (.mk (.mk [])))] 16 false false)),(11,(.mk .str 1 [(.string (.mk (.mk [])))] 16 false false)),(12,(.mk (.int .u64) 1 [(.int .u64 0)] 8 false false)),(13,(.mk (.struct [(0,(9,1)),(1,(12,1))]) 2 [(.string (.mk (.mk []))),(.int .u64 0)] 24 false true)),(14,(.mk (.struct [(0,(9,1)),(1,(12,1))]) 2 [(.string (.mk (.mk []))),(.int .u64 0)] 24 false true)),(16,(.mk (.ptr 316) 1 [(.pointer .none)] 8 false false)),(17,(.mk (.ptr 324) 1 [(.pointer .none)] 8 false false)),(18,(.mk (.struct [(0,(17,1))]) 1 [(.pointer .none)] 8 false true)),(21,(.mk (.int .i32) 1 [(.int .i32 0)] 4 false false)),(22,(.mk (.slice 68 7) 1 [(.slice .none 0 0)] 24 false false)),(24,(.mk (.struct [(0,(22,1)),(1,(22,1))]) 2 [(.slice .none 0 0),(.slice .none 0 0)] 48 true true)),(26,(.mk (.slice 3 1) 1 [(.slice .none 0 0)] 24 false false)),(27,(.mk (.int .i64) 1 [(.int .i64 0)] 8 false false)),(32,(.mk (.struct [(0,(22,1)),(1,(22,1))]) 2 [(.slice .none 0 0),(.slice .none 0 0)] 48 true true)),(40,(.mk .func 1 [.nilFunc] 8 false false)),(41,(.mk (.slice 60 3) 1 [(.slice .none 0 0)] 24 false false)),(43,(.mk (.struct [(0,(41,1)),(1,(41,1))]) 2 [(.slice .none 0 0),(.slice .none 0 0)] 48 true true)),(45,(.mk .func 1 [.nilFunc] 8 false false)),(47,(.mk (.struct [(0,(41,1)),(1,(41,1))]) 2 [(.slice .none 0 0),(.slice .none 0 0)] 48 true true)),(48,(.mk (.struct [(0,(3,1)),(1,(3,1)),(2,(3,1))]) 3 [(.int .i64 0),(.int .i64 0),(.int .i64 0)] 24 true true)),(49,(.mk (.struct [(0,(3,1)),(1,(3,1)),(2,(3,1))]) 3 [(.int .i64 0),(.int .i64 0),(.int .i64 0)] 24 true true)),(51,(.mk .func 1 [.nilFunc] 8 false false)),(52,(.mk (.struct [(0,(3,1)),(1,(3,1)),(2,(3,1))]) 3 [(.int .i64 0),(.int .i64 0),(.int .i64 0)] 24 true true)),(54,(.mk .func 1 [.nilFunc] 8 false false)),(55,(.mk (.struct [(0,(3,1)),(1,(3,1))]) 2 [(.int .i64 0),(.int .i64 0)] 16 true true)),(56,(.mk (.struct [(0,(3,1)),(1,(3,1))]) 2 [(.int .i64 0),(.int .i64 0)] 16 true true)),(57,(.mk .func 1 [.nilFunc] 8 false false)),(60,(.mk (.struct [(0,(56,2)),(2,(3,1))]) 3 [(.int .i64 0),(.int .i64 0),(.int .i64 0)] 24 true true)),(63,(.mk (.slice 118 3) 1 [(.slice .none 0 0)] 24 false false)),(64,(.mk .func 1 [.nilFunc] 8 false false)),(66,(.mk (.struct [(0,(3,1)),(1,(3,1))]) 2 [(.int .i64 0),(.int .i64 0)] 16 true true)),(68,(.mk (.struct [(0,(56,2)),(2,(66,2)),(4,(3,1)),(5,(3,1)),(6,(4,1))]) 7 [(.int .i64 0),(.int .i64 0),(.int .i64 0),(.int .i64 0),(.int .i64 0),(.int .i64 0),(.bool false)] 56 true true)),(69,(.mk (.slice 66 2) 1 [(.slice .none 0 0)] 24 false false)),(79,(.mk (.int .u16) 1 [(.int .u16 0)] 2 false false)),(89,(.mk .func 1 [.nilFunc] 8 false false)),(90,(.mk .func 1 [.nilFunc] 8 false false)),(92,(.mk .func 1 [.nilFunc] 8 false false)),(104,(.mk .func 1 [.nilFunc] 8 false false)),(106,(.mk (.ptr 108) 1 [(.pointer .none)] 8 false false)),(108,(.mk (.struct [(0,(27,1))]) 1 [(.int .i64 0)] 8 true true)),(112,(.mk .str 1 [(.string (.mk (.mk [])))] 16 false false)),(115,(.mk (.struct [(0,(112,1)),(1,(112,1))]) 2 [(.string (.mk (.mk []))),(.string (.mk (.mk [])))] 32 true true)),(118,(.mk (.struct [(0,(115,2)),(2,(112,1))]) 3 [(.string (.mk (.mk []))),(.string (.mk (.mk []))),(.string (.mk (.mk [])))] 48 true true)),(125,(.mk (.struct [(0,(68,7)),(7,(3,1))]) 8 [(.int .i64 0),(.int .i64 0),(.int .i64 0),(.int .i64 0),(.int .i64 0),(.int .i64 0),(.bool false),(.int .i64 0)] 64 true true)),(137,(.mk .func 1 [.nilFunc] 8 false false)),(139,(.mk .func 1 [.nilFunc] 8 false false)),(142,(.mk (.struct [(0,(115,2)),(2,(115,2)),(4,(112,1))]) 5 [(.string (.mk (.mk []))),(.string (.mk (.mk []))),(.string (.mk (.mk []))),(.string (.mk (.mk []))),(.string (.mk (.mk [])))] 80 true true)),(146,(.mk .func 1 [.nilFunc] 8 false false)),(148,(.mk .str 1 [(.string (.mk (.mk [])))] 16 false false)),(154,(.mk (.array 3 3 1) 3 [(.int .i64 0),(.int .i64 0),(.int .i64 0)] 24 false false)),(155,(.mk (.array 2 154 3) 6 [(.int .i64 0),(.int .i64 0),(.int .i64 0),(.int .i64 0),(.int .i64 0),(.int .i64 0)] 48 false false)),(157,(.mk .func 1 [.nilFunc] 8 false false)),(158,(.mk .func 1 [.nilFunc] 8 false false)),(162,(.mk (.ptr 188) 1 [(.pointer .none)] 8 false false)),(166,(.mk (.struct [(0,(115,2)),(2,(115,2)),(4,(112,1))]) 5 [(.string (.mk (.mk []))),(.string (.mk (.mk []))),(.string (.mk (.mk []))),(.string (.mk (.mk []))),(.string (.mk (.mk [])))] 80 true true)),(170,(.mk (.slice 112 1) 1 [(.slice .none 0 0)] 24 false false)),(179,(.mk (.slice 5 1) 1 [(.slice .none 0 0)] 24 false false)),(184,(.mk .func 1 [.nilFunc] 8 false false)),(185,(.mk (.slice 148 1) 1 [(.slice .none 0 0)] 24 false false)),(188,(.mk (.struct [(0,(27,1))]) 1 [(.int .i64 0)] 8 true true)),(190,(.mk .func 1 [.nilFunc] 8 false false)),(194,(.mk .func 1 [.nilFunc] 8 false false)),(195,(.mk .func 1 [.nilFunc] 8 false false)),(213,(.mk (.ptr 225) 1 [(.pointer .none)] 8 false false)),(223,(.mk (.array 232 3 1) 232 [(.int .i64 0),(.int .i64 0),(.int .i64 0),(.int .i64 0),(.int .i64 0),(.int .i64 0),(.int .i64 0),(.int .i64 0),(.int .i64 0),(.int .i64 0),(.int .i64 0),(.int .i64 0),(.int .i64 0),(.int .i64 0),(.int .i64 0),(.int .i64 0),(.int .i64 0),(.int .i64 0),(.int .i64 0),(.int .i64 0),(.int .i64 0),(.int .i64 0),(.int .i64 0),(.int .i64 0),(.int .i64 0),(.int .i64 0),(.int .i64 0),(.int .i64 0),(.int .i64 0),(.int .i64 0),(.int .i64 0),(.int .i64 0),(.int .i64 0),(.int .i64 0),(.int .i64 0),(.int .i64 0),(.int .i64 0),(.int .i64 0),(.int .i64 0),(.int .i64 0),(.int .i64 0),(.int .i64 0),(.int .i64 0),(.int .i64 0),(.int .i64 0),(.int .i64 0),(.int .i64 0),(.int .i64 0),(.int .i64 0),(.int .i64 0),(.int .i64 0),(.int .i64 0),(.int .i64 0),(.int .i64 0),(.int .i64 0),(.int .i64 0),(.int .i64 0),(.int .i64 0),(.int .i64 0),(.int .i64 0),(.int .i64 0),(.int .i64 0),(.int .i64 0),(.int .i64 0),(.int .i64 0),(.int .i64 0),(.int .i64 0),(.int .i64 0),(.int .i64 0),(.int .i64 0),(.int .i64 0),(.int .i64 0),(.int .i64 0),(.int .i64 0),(.int .i64 0),(.int .i64 0),(.int .i64 0),(.int .i64 0),(.int .i64 0),(.int .i64 0),(.int .i64 0),(.int .i64 0),(.int .i64 0),(.int .i64 0),(.int .i64 0),(.int .i64 0),(.int .i64 0),(.int .i64 0),(.int .i64 0),(.int .i64 0),(.int .i64 0),(.int .i64 0),(.int .i64 0),(.int .i64 0),(.int .i64 0),(.int .i64 0),(.int .i64 0),(.int .i64 0),(.int .i64 0),(.int .i64 0),(.int .i64 0),(.int .i64 0),(.int .i64 0),(.int .i64 0),(.int .i64 0),(.int .i64 0),(.int .i64 0),(.int .i64 0),(.int .i64 0),(.int .i64 0),(.int .i64 0),(.int .i64 0),(.int .i64 0),(.int .i64 0),(.int .i64 0),(.int .i64 0),(.int .i64 0),(.int .i64 0),(.int .i64 0),(.int .i64 0),(.int .i64 0),(.int .i64 0),(.int .i64 0),(.int .i64 0),(.int .i64 0),(.int .i64 0),(.int .i64 0),(.int .i64 0),(.int .i64 0),(.int .i64 0),(.int .i64 0),(.int .i64 0),(.int .i64 0),(.int .i64 0),(.int .i64 0),(.int .i64 0),(.int .i64 0),(.int .i64 0),(.int .i64 0),(.int .i64 0),(.int .i64 0),(.int .i64 0),(.int .i64 0),(.int .i64 0),(.int .i64 0),(.int .i64 0),(.int .i64 0),(.int .i64 0),(.int .i64 0),(.int .i64 0),(.int .i64 0),(.int .i64 0),(.int .i64 0),(.int .i64 0),(.int .i64 0),(.int .i64 0),(.int .i64 0),(.int .i64 0),(.int .i64 0),(.int .i64 0),(.int .i64 0),(.int .i64 0),(.int .i64 0),(.int .i64 0),(.int .i64 0),(.int .i64 0),(.int .i64 0),(.int .i64 0),(.int .i64 0),(.int .i64 0),(.int .i64 0),(.int .i64 0),(.int .i64 0),(.int .i64 0),(.int .i64 0),(.int .i64 0),(.int .i64 0),(.int .i64 0),(.int .i64 0),(.int .i64 0),(.int .i64 0),(.int .i64 0),(.int .i64 0),(.int .i64 0),(.int .i64 0),(.int .i64 0),(.int .i64 0),(.int .i64 0),(.int .i64 0),(.int .i64 0),(.int .i64 0),(.int .i64 0),(.int .i64 0),(.int .i64 0),(.int .i64 0),(.int .i64 0),(.int .i64 0),(.int .i64 0),(.int .i64 0),(.int .i64 0),(.int .i64 0),(.int .i64 0),(.int .i64 0),(.int .i64 0),(.int .i64 0),(.int .i64 0),(.int .i64 0),(.int .i64 0),(.int .i64 0),(.int .i64 0),(.int .i64 0),(.int .i64 0),(.int .i64 0),(.int .i64 0),(.int .i64 0),(.int .i64 0),(.int .i64 0),(.int .i64 0),(.int .i64 0),(.int .i64 0),(.int .i64 0),(.int .i64 0),(.int .i64 0),(.int .i64 0),(.int .i64 0),(.int .i64 0),(.int .i64 0),(.int .i64 0),(.int .i64 0),(.int .i64 0),(.int .i64 0),(.int .i64 0)] 1856 false false)),(225,(.mk (.struct [(0,(4,1)),(1,(3,1)),(2,(223,232))]) 234 [(.bool false),(.int .i64 0),(.int .i64 0),(.int .i64 0),(.int .i64 0),(.int .i64 0),(.int .i64 0),(.int .i64 0),(.int .i64 0),(.int .i64 0),(.int .i64 0),(.int .i64 0),(.int .i64 0),(.int .i64 0),(.int .i64 0),(.int .i64 0),(.int .i64 0),(.int .i64 0),(.int .i64 0),(.int .i64 0),(.int .i64 0),(.int .i64 0),(.int .i64 0),(.int .i64 0),(.int .i64 0),(.int .i64 0),(.int .i64 0),(.int .i64 0),(.int .i64 0),(.int .i64 0),(.int .i64 0),(.int .i64 0),(.int .i64 0),(.int .i64 0),(.int .i64 0),(.int .i64 0),(.int .i64 0),(.int .i64 0),(.int .i64 0),(.int .i64 0),(.int .i64 0),(.int .i64 0),(.int .i64 0),(.int .i64 0),(.int .i64 0),(.int .i64 0),(.int .i64 0),(.int .i64 0),(.int .i64 0),(.int .i64 0),(.int .i64 0),(.int .i64 0),(.int .i64 0),(.int .i64 0),(.int .i64 0),(.int .i64 0),(.int .i64 0),(.int .i64 0),(.int .i64 0),(.int .i64 0),(.int .i64 0),(.int .i64 0),(.int .i64 0),(.int .i64 0),(.int .i64 0),(.int .i64 0),(.int .i64 0),(.int .i64 0),(.int .i64 0),(.int .i64 0),(.int .i64 0),(.int .i64 0),(.int .i64 0),(.int .i64 0),(.int .i64 0),(.int .i64 0),(.int .i64 0),(.int .i64 0),(.int .i64 0),(.int .i64 0),(.int .i64 0),(.int .i64 0),(.int .i64 0),(.int .i64 0),(.int .i64 0),(.int .i64 0),(.int .i64 0),(.int .i64 0),(.int .i64 0),(.int .i64 0),(.int .i64 0),(.int .i64 0),(.int .i64 0),(.int .i64 0),(.int .i64 0),(.int .i64 0),(.int .i64 0),(.int .i64 0),(.int .i64 0),(.int .i64 0),(.int .i64 0),(.int .i64 0),(.int .i64 0),(.int .i64 0),(.int .i64 0),(.int .i64 0),(.int .i64 0),(.int .i64 0),(.int .i64 0),(.int .i64 0),(.int .i64 0),(.int .i64 0),(.int .i64 0),(.int .i64 0),(.int .i64 0),(.int .i64 0),(.int .i64 0),(.int .i64 0),(.int .i64 0),(.int .i64 0),(.int .i64 0),(.int .i64 0),(.int .i64 0),(.int .i64 0),(.int .i64 0),(.int .i64 0),(.int .i64 0),(.int .i64 0),(.int .i64 0),(.int .i64 0),(.int .i64 0),(.int .i64 0),(.int .i64 0),(.int .i64 0),(.int .i64 0),(.int .i64 0),(.int .i64 0),(.int .i64 0),(.int .i64 0),(.int .i64 0),(.int .i64 0),(.int .i64 0),(.int .i64 0),(.int .i64 0),(.int .i64 0),(.int .i64 0),(.int .i64 0),(.int .i64 0),(.int .i64 0),(.int .i64 0),(.int .i64 0),(.int .i64 0),(.int .i64 0),(.int .i64 0),(.int .i64 0),(.int .i64 0),(.int .i64 0),(.int .i64 0),(.int .i64 0),(.int .i64 0),(.int .i64 0),(.int .i64 0),(.int .i64 0),(.int .i64 0),(.int .i64 0),(.int .i64 0),(.int .i64 0),(.int .i64 0),(.int .i64 0),(.int .i64 0),(.int .i64 0),(.int .i64 0),(.int .i64 0),(.int .i64 0),(.int .i64 0),(.int .i64 0),(.int .i64 0),(.int .i64 0),(.int .i64 0),(.int .i64 0),(.int .i64 0),(.int .i64 0),(.int .i64 0),(.int .i64 0),(.int .i64 0),(.int .i64 0),(.int .i64 0),(.int .i64 0),(.int .i64 0),(.int .i64 0),(.int .i64 0),(.int .i64 0),(.int .i64 0),(.int .i64 0),(.int .i64 0),(.int .i64 0),(.int .i64 0),(.int .i64 0),(.int .i64 0),(.int .i64 0),(.int .i64 0),(.int .i64 0),(.int .i64 0),(.int .i64 0),(.int .i64 0),(.int .i64 0),(.int .i64 0),(.int .i64 0),(.int .i64 0),(.int .i64 0),(.int .i64 0),(.int .i64 0),(.int .i64 0),(.int .i64 0),(.int .i64 0),(.int .i64 0),(.int .i64 0),(.int .i64 0),(.int .i64 0),(.int .i64 0),(.int .i64 0),(.int .i64 0),(.int .i64 0),(.int .i64 0),(.int .i64 0),(.int .i64 0),(.int .i64 0),(.int .i64 0),(.int .i64 0),(.int .i64 0),(.int .i64 0),(.int .i64 0),(.int .i64 0),(.int .i64 0)] 1872 true true)),(266,(.mk (.int .u64) 1 [(.int .u64 0)] 8 false false)),(272,(.mk .func 1 [.nilFunc] 8 false false)),(273,(.mk (.ptr 5) 1 [(.pointer .none)] 8 false false)),(278,(.mk (.array 20 266 1) 20 [(.int .u64 0),(.int .u64 0),(.int .u64 0),(.int .u64 0),(.int .u64 0),(.int .u64 0),(.int .u64 0),(.int .u64 0),(.int .u64 0),(.int .u64 0),(.int .u64 0),(.int .u64 0),(.int .u64 0),(.int .u64 0),(.int .u64 0),(.int .u64 0),(.int .u64 0),(.int .u64 0),(.int .u64 0),(.int .u64 0)] 160 false false)),(279,(.mk (.int .u32) 1 [(.int .u32 0)] 4 false false)),(314,(.mk (.array 0 16 1) 0 [] 0 false false)),(316,(.mk (.struct [(0,(314,0))]) 0 [] 0 false true)),(318,(.mk (.int .u8) 1 [(.int .u8 0)] 1 false false)),(319,(.mk (.int .u8) 1 [(.int .u8 0)] 1 false false)),(320,(.mk .func 1 [.nilFunc] 8 false false)),(321,(.mk (.int .i32) 1 [(.int .i32 0)] 4 false false)),(322,(.mk (.int .i32) 1 [(.int .i32 0)] 4 false false)),(324,(.mk (.struct [(0,(12,1)),(1,(12,1)),(2,(279,1)),(3,(318,1)),(4,(5,1)),(5,(5,1)),(6,(319,1)),(7,(320,1)),(8,(273,1)),(9,(321,1)),(10,(322,1))]) 11 [(.int .u64 0),(.int .u64 0),(.int .u32 0),(.int .u8 0),(.int .u8 0),(.int .u8 0),(.int .u8 0),.nilFunc,(.pointer .none),(.int .i32 0),(.int .i32 0)] 48 false true))]
noncomputable def qa:List (Nat×AV):=[(1,(.eptr [.int .u64,.int .u64,.int .u64,.int .u64,.int .u64,.int .u64,.int .u64,.int .u64,.int .u64,.int .u64,.int .u64,.int .u64,.int .u64,.int .u64,.int .u64,.int .u64,.int .u64,.int .u64,.int .u64,.int .u64] [[.i 1,.i 10,.i 100,.i 1000,.i 10000,.i 100000,.i 1000000,.i 10000000,.i 100000000,.i 1000000000,.i 10000000000,.i 100000000000,.i 1000000000000,.i 10000000000000,.i 100000000000000,.i 1000000000000000,.i 10000000000000000,.i 100000000000000000,.i 1000000000000000000,.i 10000000000000000000]] 0 0)),(0,(.eptr [.int .i64,.int .i64,.int .i64,.int .i64,.int .i64,.int .i64] [[.i (-1),.i (-1),.i 1,.i 1,.i 1,.i (-1)]] 0 0))]
theorem q8:q5O.map (fun x=>qsy Tryz.prog x.1)=q5O.map (·.2):=by kernel_rfl
theorem qc:Tryz.prog.follows .mixedOrders=true:=by kernel_rfl
noncomputable def qe(s:List (FuncId×(List AV→List Blk→Tree (AV×List Blk))))(b:List (FuncId×Func))(l:List ((FuncId×Nat)×(St→Tree (Ex×St))))(n:Nat):Env:=⟨q5O,qa,s,b,l,n,[],[]⟩
def qfV:FIn:=⟨[(.int .i64)],[]⟩
def qfF:List FOut:=[⟨.bool,[],none⟩]
noncomputable def qpy:=qe [] [(101,Tryz.f101)] [] 0
noncomputable def uc:=qp qpy 101 Tryz.f101 true qfV qfF
theorem qil:qZ Tryz.prog qa 101 (q9 qfV qfF uc):=sk qpy qc q8 aln aln (b1 Tryz.func101) Tryz.func101
def qaA:FIn:=⟨[(.int .i64)],[]⟩
def qa3:List FOut:=[⟨.bool,[],none⟩]
noncomputable def qkL:=qe [] [(102,Tryz.f102)] [] 0
noncomputable def jJ:=qp qkL 102 Tryz.f102 true qaA qa3
theorem qeW:qZ Tryz.prog qa 102 (q9 qaA qa3 jJ):=sk qkL qc q8 aln aln (b1 Tryz.func102) Tryz.func102
def yM:FIn:=⟨[(.agg [(.int .i64),(.int .i64),(.int .i64),(.int .i64),(.int .i64),(.int .i64),.bool])],[]⟩
def yQ:List FOut:=[⟨(.int .i64),[],none⟩]
noncomputable def qjm:=qe [(101,q9 qfV qfF uc),(102,q9 qaA qa3 jJ)] [(72,Tryz.f72)] [] 0
noncomputable def zY:=qp qjm 72 Tryz.f72 true yM yQ
theorem yp:qZ Tryz.prog qa 72 (q9 yM yQ zY):=sk qjm qc q8 (alc qil (alc qeW aln)) aln (b1 Tryz.func72) Tryz.func72
def q56:FIn:=⟨[(.agg [(.int .i64),(.int .i64),(.int .i64),(.int .i64),(.int .i64),(.int .i64),.bool]),(.agg [(.int .i64),(.int .i64),(.int .i64),(.int .i64),(.int .i64),(.int .i64),.bool])],[]⟩
def q5v:List FOut:=[⟨(.int .i64),[],none⟩]
def q5Z:Tmpl:={ t:=(.any::.any::(.ptr 0 0)::(.ptr 1 0)::qL 6 ((.vec 2)::(.int .i64)::(.int .i64)::qL 31 [])),h:=[.cells [(.int .i64),(.int .i64),(.int .i64),(.int .i64),(.int .i64),(.int .i64),.bool],.cells [(.int .i64),(.int .i64),(.int .i64),(.int .i64),(.int .i64),(.int .i64),.bool],.vec 68 [(.int .i64),(.int .i64),(.int .i64),(.int .i64),(.int .i64),(.int .i64),.bool]] }
def q6f:List Out:=[⟨(.exit 0),{ t:=(.any::.any::(.ptr 0 0)::(.ptr 1 0)::qL 40 []),h:=[.cells [(.int .i64),(.int .i64),(.int .i64),(.int .i64),(.int .i64),(.int .i64),.bool],.cells [(.int .i64),(.int .i64),(.int .i64),(.int .i64),(.int .i64),(.int .i64),.bool]] }⟩,⟨.ret,{ t:=(qL 4 ((.int .i64)::qL 39 [])),h:=[] }⟩]
noncomputable def q2S:=qe [(72,q9 yM yQ zY)] [(45,Tryz.f45)] [] 0
noncomputable def ue:=yk q2S 45 Tryz.f45 3 q5Z q6f
theorem qg7:qt Tryz.prog qa q2S.nimp (qC Tryz.prog q2S.iter 45) (zW Tryz.f45 3) (qm q5Z q6f (qj ue)):=
 gk q2S qc q8 (alc yp aln) aln (b1 Tryz.func45) Tryz.func45
noncomputable def qeC:=qe [(72,q9 yM yQ zY)] [(45,Tryz.f45)] [((45,3),qm q5Z q6f (qj ue))] 0
noncomputable def q0F:=qp qeC 45 Tryz.f45 true q56 q5v
theorem qa9:qZ Tryz.prog qa 45 (q9 q56 q5v q0F):=sk qeC qc q8 (alc yp aln) (alc (lk Tryz.func45 qg7) aln) (b1 Tryz.func45) Tryz.func45
def yo:FIn:=⟨[(.agg [(.imm [(.int .i64),(.int .i64),(.int .i64),(.int .i64),(.int .i64),(.int .i64),.bool]),(.imm [(.int .i64),(.int .i64),(.int .i64),(.int .i64),(.int .i64),(.int .i64),.bool])])],[]⟩
def yn:List FOut:=[⟨(.int .i64),[],none⟩]
def q4s:Tmpl:={ t:=(.any::(.ptr 0 0)::qL 23 ((.int .i64)::(.int .i64)::qL 17 [])),h:=[.cells [(.imm [(.int .i64),(.int .i64),(.int .i64),(.int .i64),(.int .i64),(.int .i64),.bool]),(.imm [(.int .i64),(.int .i64),(.int .i64),(.int .i64),(.int .i64),(.int .i64),.bool])]] }
def q4E:List Out:=[⟨(.exit 1),{ t:=(qL 44 []),h:=[] }⟩,⟨.ret,{ t:=(.any::.any::(.int .i64)::qL 41 []),h:=[] }⟩]
noncomputable def q0Z:=qe [(45,q9 q56 q5v q0F)] [(16,Tryz.f16)] [] 0
noncomputable def ut:=yk q0Z 16 Tryz.f16 10 q4s q4E
theorem qe5:qt Tryz.prog qa q0Z.nimp (qC Tryz.prog q0Z.iter 16) (zW Tryz.f16 10) (qm q4s q4E (qj ut)):=
 gk q0Z qc q8 (alc qa9 aln) aln (b1 Tryz.func16) Tryz.func16
noncomputable def qdB:=qe [(45,q9 q56 q5v q0F)] [(16,Tryz.f16)] [((16,10),qm q4s q4E (qj ut))] 0
noncomputable def zM:=qp qdB 16 Tryz.f16 true yo yn
theorem un:qZ Tryz.prog qa 16 (q9 yo yn zM):=sk qdB qc q8 (alc qa9 aln) (alc (lk Tryz.func16 qe5) aln) (b1 Tryz.func16) Tryz.func16
def qfS:FIn:=⟨[(.agg [(.int .i64),(.int .i64),(.int .i64),(.int .i64),(.int .i64),(.int .i64),.bool])],[]⟩
def qg1:List FOut:=[⟨(.agg [(.int .i64),(.int .i64),(.int .i64),(.int .i64),(.int .i64),(.int .i64),.bool,(.int .i64)]),[],none⟩]
noncomputable def qpv:=qe [] [(73,Tryz.f73)] [] 0
noncomputable def q5T:=qp qpv 73 Tryz.f73 true qfS qg1
theorem qiv:qZ Tryz.prog qa 73 (q9 qfS qg1 q5T):=sk qpv qc q8 aln aln (b1 Tryz.func73) Tryz.func73
def ki:FIn:=⟨[(.agg [(.int .i64),(.int .i64),(.int .i64),(.int .i64),(.int .i64),(.int .i64),.bool,(.int .i64)]),(.int .i64)],[]⟩
def uS:List FOut:=[⟨(.int .i64),[],none⟩]
noncomputable def q6M:=qe [] [(74,Tryz.f74)] [] 0
noncomputable def wh:=qp q6M 74 Tryz.f74 true ki uS
theorem q4N:qZ Tryz.prog qa 74 (q9 ki uS wh):=sk q6M qc q8 aln aln (b1 Tryz.func74) Tryz.func74
def q57:FIn:=⟨[(.agg [(.int .i64),(.int .i64),(.int .i64),(.int .i64),(.int .i64),(.int .i64),.bool])],[]⟩
def q51:List FOut:=[⟨(.tuple [(.int .i64),(.int .i64)]),[],none⟩]
noncomputable def qfs:=qe [(72,q9 yM yQ zY),(73,q9 qfS qg1 q5T),(74,q9 ki uS wh)] [(40,Tryz.f40)] [] 0
noncomputable def jL:=qp qfs 40 Tryz.f40 true q57 q51
theorem qag:qZ Tryz.prog qa 40 (q9 q57 q51 jL):=sk qfs qc q8 (alc yp (alc qiv (alc q4N aln))) aln (b1 Tryz.func40) Tryz.func40
def kf:FIn:=⟨[(.agg [(.imm [(.int .i64),(.int .i64),(.int .i64),(.int .i64),(.int .i64),(.int .i64),.bool]),(.imm [(.int .i64),(.int .i64),(.int .i64),(.int .i64),(.int .i64),(.int .i64),.bool])])],[]⟩
def km:List FOut:=[⟨(.tuple [(.imm [(.int .i64)]),(.int .i64)]),[],none⟩]
def q3x:Tmpl:={ t:=(.any::(.ptr 0 0)::.any::.any::.any::(.vec 1)::qL 12 ((.imm [(.int .i64),(.int .i64),(.int .i64),(.int .i64),(.int .i64),(.int .i64),.bool])::(.int .i64)::(.int .i64)::qL 37 [])),h:=[.cells [(.imm [(.int .i64),(.int .i64),(.int .i64),(.int .i64),(.int .i64),(.int .i64),.bool]),(.imm [(.int .i64),(.int .i64),(.int .i64),(.int .i64),(.int .i64),(.int .i64),.bool])],.vec 3 [(.int .i64)]],pro:=[(5,3,[(.int .i64)])] }
def q3t:List Out:=[⟨(.exit 0),{ t:=(qL 5 ((.vec 1)::qL 52 [])),h:=[.dead,.vec 3 [(.int .i64)]] }⟩,⟨.ret,{ t:=(.any::.any::.nils::(.int .i64)::qL 54 []),h:=[] }⟩]
noncomputable def q01:=qe [(16,q9 yo yn zM),(40,q9 q57 q51 jL)] [(12,Tryz.f12)] [] 0
noncomputable def vY:=yk q01 12 Tryz.f12 8 q3x q3t
theorem qd4:qt Tryz.prog qa q01.nimp (qC Tryz.prog q01.iter 12) (zW Tryz.f12 8) (qm q3x q3t (qj vY)):=
 gk q01 qc q8 (alc un (alc qag aln)) aln (b1 Tryz.func12) Tryz.func12
noncomputable def qaz:=qe [(16,q9 yo yn zM),(40,q9 q57 q51 jL)] [(12,Tryz.f12)] [((12,8),qm q3x q3t (qj vY))] 0
noncomputable def zZ:=qp qaz 12 Tryz.f12 true kf km
theorem q2e:qZ Tryz.prog qa 12 (q9 kf km zZ):=sk qaz qc q8 (alc un (alc qag aln)) (alc (lk Tryz.func12 qd4) aln) (b1 Tryz.func12) Tryz.func12
def wX:FIn:=⟨[(.int .i64),(.int .i64)],[]⟩
def wY:List FOut:=[⟨.bool,[],none⟩]
noncomputable def q9i:=qe [] [(43,Tryz.f43)] [] 0
noncomputable def wk:=qp q9i 43 Tryz.f43 true wX wY
theorem jh:qZ Tryz.prog qa 43 (q9 wX wY wk):=sk q9i qc q8 aln aln (b1 Tryz.func43) Tryz.func43
def qH:FIn:=⟨[(.imm [(.int .i64)]),(.fn 43 [] [])],[]⟩
def qI:List FOut:=[⟨(.imm [(.int .i64)]),[],none⟩]
def zK:Tmpl:={ t:=(.any::(.fn 43 [] [])::.any::.any::.any::(.vec 0)::.any::.any::(.imm [(.int .i64)])::(.int .i64)::(.int .i64)::qL 14 []),h:=[.vec 3 [(.int .i64)]],pro:=[(5,3,[(.int .i64)])] }
def zI:List Out:=[⟨(.exit 0),{ t:=(qL 5 ((.vec 0)::qL 19 [])),h:=[.vec 3 [(.int .i64)]] }⟩]
noncomputable def qS:=qe [(43,q9 wX wY wk)] [(42,Tryz.f42)] [] 0
noncomputable def qv:=yk qS 42 Tryz.f42 4 zK zI
theorem kV:qt Tryz.prog qa qS.nimp (qC Tryz.prog qS.iter 42) (zW Tryz.f42 4) (qm zK zI (qj qv)):=
 gk qS qc q8 (alc jh aln) aln (b1 Tryz.func42) Tryz.func42
noncomputable def ja:=qe [(43,q9 wX wY wk)] [(42,Tryz.f42)] [((42,4),qm zK zI (qj qv))] 0
noncomputable def qh:=qp ja 42 Tryz.f42 true qH qI
theorem zy:qZ Tryz.prog qa 42 (q9 qH qI qh):=sk ja qc q8 (alc jh aln) (alc (lk Tryz.func42 kV) aln) (b1 Tryz.func42) Tryz.func42
def q2d:FIn:=⟨[(.agg [(.imm [(.int .i64),(.int .i64),(.int .i64),(.int .i64),(.int .i64),(.int .i64),.bool]),(.imm [(.int .i64),(.int .i64),(.int .i64),(.int .i64),(.int .i64),(.int .i64),.bool])])],[]⟩
def q2B:List FOut:=[⟨(.tuple [.bool,(.int .i64)]),[],none⟩]
noncomputable def qeq:=qe [(12,q9 kf km zZ),(43,q9 wX wY wk),(42,q9 qH qI qh)] [(14,Tryz.f14)] [] 0
noncomputable def vQ:=qp qeq 14 Tryz.f14 true q2d q2B
theorem q5b:qZ Tryz.prog qa 14 (q9 q2d q2B vQ):=sk qeq qc q8 (alc q2e (alc jh (alc zy aln))) aln (b1 Tryz.func14) Tryz.func14
def jj:FIn:=⟨[(.imm [(.int .i64)]),(.imm [(.int .i64)])],[]⟩
def jk:List FOut:=[⟨.bool,[],none⟩]
def q0A:Tmpl:={ t:=((.imm [(.int .i64)])::(.imm [(.int .i64)])::qL 10 ((.int .i64)::(.int .i64)::qL 12 [])),h:=[] }
def q0I:List Out:=[⟨(.exit 0),{ t:=(qL 26 []),h:=[] }⟩,⟨.ret,{ t:=(qL 4 (.bool::qL 21 [])),h:=[] }⟩]
noncomputable def yf:=qe [] [(18,Tryz.f18)] [] 0
noncomputable def vo:=yk yf 18 Tryz.f18 6 q0A q0I
theorem q8B:qt Tryz.prog qa yf.nimp (qC Tryz.prog yf.iter 18) (zW Tryz.f18 6) (qm q0A q0I (qj vo)):=
 gk yf qc q8 aln aln (b1 Tryz.func18) Tryz.func18
noncomputable def q5H:=qe [] [(18,Tryz.f18)] [((18,6),qm q0A q0I (qj vo))] 0
noncomputable def qF:=qp q5H 18 Tryz.f18 true jj jk
theorem kG:qZ Tryz.prog qa 18 (q9 jj jk qF):=sk q5H qc q8 aln (alc (lk Tryz.func18 q8B) aln) (b1 Tryz.func18) Tryz.func18
def qda:FIn:=⟨[(.agg [(.int .i64),(.int .i64),(.int .i64),(.int .i64),(.int .i64),(.int .i64),.bool]),(.agg [(.int .i64),(.int .i64),(.int .i64)])],[]⟩
def qcz:List FOut:=[⟨(.tuple [(.int .i64),(.int .i64)]),[],none⟩]
noncomputable def qm7:=qe [] [(98,Tryz.f98)] [] 0
noncomputable def q63:=qp qm7 98 Tryz.f98 true qda qcz
theorem qgP:qZ Tryz.prog qa 98 (q9 qda qcz q63):=sk qm7 qc q8 aln aln (b1 Tryz.func98) Tryz.func98
def q4M:FIn:=⟨[(.agg [(.int .i64),(.int .i64),(.int .i64)])],[]⟩
def q4S:List FOut:=[⟨(.int .i64),[],none⟩]
noncomputable def qkG:=qe [(101,q9 qfV qfF uc),(102,q9 qaA qa3 jJ)] [(97,Tryz.f97)] [] 0
noncomputable def uY:=qp qkG 97 Tryz.f97 true q4M q4S
theorem q5q:qZ Tryz.prog qa 97 (q9 q4M q4S uY):=sk qkG qc q8 (alc qil (alc qeW aln)) aln (b1 Tryz.func97) Tryz.func97
def qek:FIn:=⟨[(.agg [(.int .i64),(.int .i64),(.int .i64),(.int .i64),(.int .i64),(.int .i64),.bool]),(.agg [(.int .i64),(.int .i64),(.int .i64)])],[]⟩
def qfe:List FOut:=[⟨(.int .i64),[],none⟩]
noncomputable def qla:=qe [(72,q9 yM yQ zY),(97,q9 q4M q4S uY)] [(104,Tryz.f104)] [] 0
noncomputable def q6J:=qp qla 104 Tryz.f104 true qek qfe
theorem qm3:qZ Tryz.prog qa 104 (q9 qek qfe q6J):=sk qla qc q8 (alc yp (alc q5q aln)) aln (b1 Tryz.func104) Tryz.func104
def q4l:FIn:=⟨[(.agg [(.int .i64),(.int .i64),(.int .i64),(.int .i64),(.int .i64),(.int .i64),.bool]),(.agg [(.int .i64),(.int .i64),(.int .i64)])],[]⟩
def q4f:List FOut:=[⟨(.tuple [(.int .i64),(.int .i64)]),[],none⟩]
noncomputable def qdF:=qe [(98,q9 qda qcz q63),(104,q9 qek qfe q6J)] [(77,Tryz.f77)] [] 0
noncomputable def vZ:=qp qdF 77 Tryz.f77 true q4l q4f
theorem q8W:qZ Tryz.prog qa 77 (q9 q4l q4f vZ):=sk qdF qc q8 (alc qgP (alc qm3 aln)) aln (b1 Tryz.func77) Tryz.func77
def q2M:FIn:=⟨[(.agg [(.int .i64),(.int .i64),(.int .i64),(.int .i64),(.int .i64),(.int .i64),.bool]),(.agg [(.int .i64),(.int .i64),(.int .i64)])],[]⟩
def q3d:List FOut:=[⟨.bool,[],none⟩]
noncomputable def qc4:=qe [] [(78,Tryz.f78)] [] 0
noncomputable def jo:=qp qc4 78 Tryz.f78 true q2M q3d
theorem q7w:qZ Tryz.prog qa 78 (q9 q2M q3d jo):=sk qc4 qc q8 aln aln (b1 Tryz.func78) Tryz.func78
def q0s:FIn:=⟨[(.agg [(.imm [(.int .i64),(.int .i64),(.int .i64),(.int .i64),(.int .i64),(.int .i64),.bool]),(.imm [(.int .i64),(.int .i64),(.int .i64),(.int .i64),(.int .i64),(.int .i64),.bool])]),(.agg [(.imm [(.int .i64),(.int .i64),(.int .i64)]),(.imm [(.int .i64),(.int .i64),(.int .i64)])])],[]⟩
def q05:List FOut:=[⟨(.int .i64),[],none⟩]
def q3o:Tmpl:={ t:=(.any::.any::(.ptr 0 0)::(.ptr 1 0)::qL 30 ((.int .i64)::(.int .i64)::qL 63 [])),h:=[.cells [(.imm [(.int .i64),(.int .i64),(.int .i64),(.int .i64),(.int .i64),(.int .i64),.bool]),(.imm [(.int .i64),(.int .i64),(.int .i64),(.int .i64),(.int .i64),(.int .i64),.bool])],.cells [(.imm [(.int .i64),(.int .i64),(.int .i64)]),(.imm [(.int .i64),(.int .i64),(.int .i64)])]] }
def q3E:List Out:=[⟨(.exit 0),{ t:=(qL 99 []),h:=[] }⟩,⟨.ret,{ t:=(qL 4 ((.int .i64)::qL 94 [])),h:=[] }⟩]
noncomputable def kY:=qe [(16,q9 yo yn zM),(77,q9 q4l q4f vZ),(78,q9 q2M q3d jo)] [(48,Tryz.f48)] [] 0
noncomputable def yI:=yk kY 48 Tryz.f48 10 q3o q3E
theorem qdg:qt Tryz.prog qa kY.nimp (qC Tryz.prog kY.iter 48) (zW Tryz.f48 10) (qm q3o q3E (qj yI)):=
 gk kY qc q8 (alc un (alc q8W (alc q7w aln))) aln (b1 Tryz.func48) Tryz.func48
noncomputable def qc1:=qe [(16,q9 yo yn zM),(77,q9 q4l q4f vZ),(78,q9 q2M q3d jo)] [(48,Tryz.f48)] [((48,10),qm q3o q3E (qj yI))] 0
noncomputable def wt:=qp qc1 48 Tryz.f48 true q0s q05
theorem q3D:qZ Tryz.prog qa 48 (q9 q0s q05 wt):=sk qc1 qc q8 (alc un (alc q8W (alc q7w aln))) (alc (lk Tryz.func48 qdg) aln) (b1 Tryz.func48) Tryz.func48
def yv:FIn:=⟨[(.agg [(.imm [(.int .i64),(.int .i64),(.int .i64),(.int .i64),(.int .i64),(.int .i64),.bool]),(.imm [(.int .i64),(.int .i64),(.int .i64),(.int .i64),(.int .i64),(.int .i64),.bool])]),(.agg [(.imm [(.int .i64),(.int .i64),(.int .i64)]),(.imm [(.int .i64),(.int .i64),(.int .i64)])])],[]⟩
def yj:List FOut:=[⟨(.imm [(.int .i64)]),[],none⟩]
def q5r:Tmpl:={ t:=(.any::.any::.any::(.ptr 1 0)::.any::(.vec 2)::qL 4 ((.imm [(.int .i64),(.int .i64),(.int .i64),(.int .i64),(.int .i64),(.int .i64),.bool])::(.int .i64)::(.int .i64)::qL 27 [])),h:=[.dead,.cells [(.imm [(.int .i64),(.int .i64),(.int .i64)]),(.imm [(.int .i64),(.int .i64),(.int .i64)])],.vec 3 [(.int .i64)]],pro:=[(5,3,[(.int .i64)])] }
def q52:List Out:=[⟨(.exit 0),{ t:=(qL 5 ((.vec 2)::qL 34 [])),h:=[.dead,.dead,.vec 3 [(.int .i64)]] }⟩]
noncomputable def q26:=qe [] [(49,Tryz.f49)] [] 0
noncomputable def jW:=yk q26 49 Tryz.f49 4 q5r q52
theorem qfr:qt Tryz.prog qa q26.nimp (qC Tryz.prog q26.iter 49) (zW Tryz.f49 4) (qm q5r q52 (qj jW)):=
 gk q26 qc q8 aln aln (b1 Tryz.func49) Tryz.func49
noncomputable def qdZ:=qe [] [(49,Tryz.f49)] [((49,4),qm q5r q52 (qj jW))] 0
noncomputable def zq:=qp qdZ 49 Tryz.f49 true yv yj
theorem ur:qZ Tryz.prog qa 49 (q9 yv yj zq):=sk qdZ qc q8 aln (alc (lk Tryz.func49 qfr) aln) (b1 Tryz.func49) Tryz.func49
def yE:FIn:=⟨[(.int .i64),(.int .i64),(.ptr 0 0)],[.cells [(.imm [(.int .i64),(.int .i64),(.int .i64)]),(.imm [(.int .i64),(.int .i64),(.int .i64)])]]⟩
def yC:List FOut:=[⟨.bool,[.cells [(.imm [(.int .i64),(.int .i64),(.int .i64)]),(.imm [(.int .i64),(.int .i64),(.int .i64)])]],none⟩]
noncomputable def q7v:=qe [] [(50,Tryz.f50)] [] 1
noncomputable def wz:=qp q7v 50 Tryz.f50 true yE yC
theorem q1i:qZ Tryz.prog qa 50 (q9 yE yC wz):=sk q7v qc q8 aln aln (b1 Tryz.func50) Tryz.func50
def zO:FIn:=⟨[(.imm [(.int .i64)]),(.fn 50 [] [(.ptr 0 0)])],[.cells [(.imm [(.int .i64),(.int .i64),(.int .i64)]),(.imm [(.int .i64),(.int .i64),(.int .i64)])]]⟩
def zL:List FOut:=[⟨(.imm [(.int .i64)]),[.cells [(.imm [(.int .i64),(.int .i64),(.int .i64)]),(.imm [(.int .i64),(.int .i64),(.int .i64)])]],none⟩]
def zx:Tmpl:={ t:=(.any::(.fn 50 [] [(.ptr 0 0)])::.any::.any::.any::(.vec 1)::.any::.any::(.imm [(.int .i64)])::(.int .i64)::(.int .i64)::qL 14 []),h:=[.cells [(.imm [(.int .i64),(.int .i64),(.int .i64)]),(.imm [(.int .i64),(.int .i64),(.int .i64)])],.vec 3 [(.int .i64)]],pro:=[(5,3,[(.int .i64)])] }
def zz:List Out:=[⟨(.exit 0),{ t:=(qL 5 ((.vec 1)::qL 19 [])),h:=[.cells [(.imm [(.int .i64),(.int .i64),(.int .i64)]),(.imm [(.int .i64),(.int .i64),(.int .i64)])],.vec 3 [(.int .i64)]] }⟩]
noncomputable def qO:=qe [(50,q9 yE yC wz)] [(42,Tryz.f42)] [] 1
noncomputable def qu:=yk qO 42 Tryz.f42 4 zx zz
theorem ku:qt Tryz.prog qa qO.nimp (qC Tryz.prog qO.iter 42) (zW Tryz.f42 4) (qm zx zz (qj qu)):=
 gk qO qc q8 (alc q1i aln) aln (b1 Tryz.func42) Tryz.func42
noncomputable def j3:=qe [(50,q9 yE yC wz)] [(42,Tryz.f42)] [((42,4),qm zx zz (qj qu))] 1
noncomputable def qD:=qp j3 42 Tryz.f42 true zO zL
theorem q0q:qZ Tryz.prog qa 42 (q9 zO zL qD):=sk j3 qc q8 (alc q1i aln) (alc (lk Tryz.func42 ku) aln) (b1 Tryz.func42) Tryz.func42
def uN:FIn:=⟨[(.agg [(.imm [(.int .i64),(.int .i64),(.int .i64),(.int .i64),(.int .i64),(.int .i64),.bool]),(.imm [(.int .i64),(.int .i64),(.int .i64),(.int .i64),(.int .i64),(.int .i64),.bool])]),(.agg [(.imm [(.int .i64),(.int .i64),(.int .i64)]),(.imm [(.int .i64),(.int .i64),(.int .i64)])])],[]⟩
def kj:List FOut:=[⟨(.tuple [(.imm [(.int .i64)]),(.int .i64)]),[],none⟩]
noncomputable def qad:=qe [(48,q9 q0s q05 wt),(49,q9 yv yj zq),(50,q9 yE yC wz),(42,q9 zO zL qD)] [(20,Tryz.f20)] [] 0
noncomputable def zw:=qp qad 20 Tryz.f20 true uN kj
theorem q2E:qZ Tryz.prog qa 20 (q9 uN kj zw):=sk qad qc q8 (alc q3D (alc ur (alc q1i (alc q0q aln)))) aln (b1 Tryz.func20) Tryz.func20
def wd:FIn:=⟨[.str,.str],[]⟩
def we:List FOut:=[⟨.bool,[],none⟩]
noncomputable def kT:=qe [] [(197,Tryz.f197)] [] 0
noncomputable def qE:=qp kT 197 Tryz.f197 true wd we
theorem uo:qZ Tryz.prog qa 197 (q9 wd we qE):=sk kT qc q8 aln aln (b1 Tryz.func197) Tryz.func197
def vN:FIn:=⟨[.str,.str],[]⟩
def vS:List FOut:=[⟨.str,[],none⟩]
noncomputable def uO:=qe [(197,q9 wd we qE)] [(189,Tryz.f189)] [] 0
noncomputable def zi:=qp uO 189 Tryz.f189 true vN vS
theorem q3Q:qZ Tryz.prog qa 189 (q9 vN vS zi):=sk uO qc q8 (alc uo aln) aln (b1 Tryz.func189) Tryz.func189
def vV:FIn:=⟨[.str,.str],[]⟩
def vW:List FOut:=[⟨.str,[],none⟩]
noncomputable def q7B:=qe [(189,q9 vN vS zi)] [(157,Tryz.f157)] [] 0
noncomputable def qP:=qp q7B 157 Tryz.f157 true vV vW
theorem yR:qZ Tryz.prog qa 157 (q9 vV vW qP):=sk q7B qc q8 (alc q3Q aln) aln (b1 Tryz.func157) Tryz.func157
def qgF:FIn:=⟨[.str,.str],[]⟩
def qgJ:List FOut:=[⟨.str,[],none⟩]
noncomputable def q6D:List PV→TR:=qwZ
theorem qjV:qZ Tryz.prog qa 158 (q9 qgF qgJ q6D):=qvW Tryz.lays160 (q2j Tryz.func158 (by kernel_rfl) (by kernel_rfl)) (by kernel_rfl)
def jD:FIn:=⟨[.str],[]⟩
def jq:List FOut:=[⟨(.int .i64),[],none⟩]
noncomputable def qj5:=qe [(157,q9 vV vW qP),(158,q9 qgF qgJ q6D)] [(130,Tryz.f130)] [] 0
noncomputable def qM:=qp qj5 130 Tryz.f130 true jD jq
theorem j4:qZ Tryz.prog qa 130 (q9 jD jq qM):=sk qj5 qc q8 (alc yR (alc qjV aln)) aln (b1 Tryz.func130) Tryz.func130
def q1Z:FIn:=⟨[.str,.str],[]⟩
def q25:List FOut:=[⟨(.int .i64),[],none⟩]
noncomputable def vB:List PV→TR:=qsi
theorem q5M:qZ Tryz.prog qa 228 (q9 q1Z q25 vB):=qu2 Tryz.lays219 (q2j Tryz.func228 (by kernel_rfl) (by kernel_rfl))
def uC:FIn:=⟨[.str,.str],[]⟩
def uE:List FOut:=[⟨(.tuple [.str,.str,.bool]),[],none⟩]
noncomputable def q3m:=qe [(228,q9 q1Z q25 vB)] [(201,Tryz.f201)] [] 0
noncomputable def wy:=qp q3m 201 Tryz.f201 true uC uE
theorem q7b:qZ Tryz.prog qa 201 (q9 uC uE wy):=sk q3m qc q8 (alc q5M aln) aln (b1 Tryz.func201) Tryz.func201
def qcS:FIn:=⟨[.str,.str],[]⟩
def qd1:List FOut:=[⟨(.tuple [.str,.str,.bool]),[],none⟩]
noncomputable def qje:=qe [(201,q9 uC uE wy)] [(164,Tryz.f164)] [] 0
noncomputable def q5s:=qp qje 164 Tryz.f164 true qcS qd1
theorem qlz:qZ Tryz.prog qa 164 (q9 qcS qd1 q5s):=sk qje qc q8 (alc q7b aln) aln (b1 Tryz.func164) Tryz.func164
def q2o:FIn:=⟨[.str],[]⟩
def q2l:List FOut:=[⟨(.tuple [.str,.str,.bool]),[],none⟩]
noncomputable def qmS:=qe [(164,q9 qcS qd1 q5s)] [(134,Tryz.f134)] [] 0
noncomputable def qN:=qp qmS 134 Tryz.f134 true q2o q2l
theorem q1G:qZ Tryz.prog qa 134 (q9 q2o q2l qN):=sk qmS qc q8 (alc qlz aln) aln (b1 Tryz.func134) Tryz.func134
def kx:FIn:=⟨[(.imm [.str])],[]⟩
def kJ:List FOut:=[⟨(.int .i64),[],none⟩]
def qdf:Tmpl:={ t:=(qL 6 ((.imm [.str])::(.int .i64)::(.int .i64)::qL 9 [])),h:=[] }
def qcM:List Out:=[⟨(.exit 0),{ t:=(qL 18 []),h:=[] }⟩,⟨.ret,{ t:=(.any::.any::(.int .i64)::qL 15 []),h:=[] }⟩]
noncomputable def q89:=qe [(130,q9 jD jq qM)] [(165,Tryz.f165)] [] 0
noncomputable def q5e:=yk q89 165 Tryz.f165 3 qdf qcM
theorem qlo:qt Tryz.prog qa q89.nimp (qC Tryz.prog q89.iter 165) (zW Tryz.f165 3) (qm qdf qcM (qj q5e)):=
 gk q89 qc q8 (alc j4 aln) aln (b1 Tryz.func165) Tryz.func165
noncomputable def qmQ:=qe [(130,q9 jD jq qM)] [(165,Tryz.f165)] [((165,3),qm qdf qcM (qj q5e))] 0
noncomputable def zX:=qp qmQ 165 Tryz.f165 true kx kJ
theorem u4:qZ Tryz.prog qa 165 (q9 kx kJ zX):=sk qmQ qc q8 (alc j4 aln) (alc (lk Tryz.func165 qlo) aln) (b1 Tryz.func165) Tryz.func165
def q70:FIn:=⟨[.str],[]⟩
def q78:List FOut:=[⟨(.int .i64),[],none⟩]
noncomputable def ql9:=qe [] [(176,Tryz.f176)] [] 0
noncomputable def yZ:=qp ql9 176 Tryz.f176 true q70 q78
theorem q8M:qZ Tryz.prog qa 176 (q9 q70 q78 yZ):=sk ql9 qc q8 aln aln (b1 Tryz.func176) Tryz.func176
def qc9:FIn:=⟨[.str,.str],[]⟩
def qc6:List FOut:=[⟨(.int .i64),[],none⟩]
noncomputable def q2G:List PV→TR:=qlN
theorem qgi:qZ Tryz.prog qa 207 (q9 qc9 qc6 q2G):=qqJ Tryz.lays106 (q2j Tryz.func207 (by kernel_rfl) (by kernel_rfl))
def qcX:FIn:=⟨[.str,.str],[]⟩
def qcL:List FOut:=[⟨(.int .i64),[],none⟩]
noncomputable def qiA:=qe [(207,q9 qc9 qc6 q2G)] [(177,Tryz.f177)] [] 0
noncomputable def q5p:=qp qiA 177 Tryz.f177 true qcX qcL
theorem qlp:qZ Tryz.prog qa 177 (q9 qcX qcL q5p):=sk qiA qc q8 (alc qgi aln) aln (b1 Tryz.func177) Tryz.func177
def q9D:FIn:=⟨[.str,.str],[]⟩
def q9e:List FOut:=[⟨(.tuple [(.int .i64),(.int .i64)]),[],none⟩]
noncomputable def qfg:=qe [(157,q9 vV vW qP),(165,q9 kx kJ zX),(176,q9 q70 q78 yZ),(177,q9 qcX qcL q5p)] [(145,Tryz.f145)] [] 0
noncomputable def q2v:=qp qfg 145 Tryz.f145 true q9D q9e
theorem qir:qZ Tryz.prog qa 145 (q9 q9D q9e q2v):=sk qfg qc q8 (alc yR (alc u4 (alc q8M (alc qlp aln)))) aln (b1 Tryz.func145) Tryz.func145
def qgC:FIn:=⟨[(.int .i64)],[]⟩
def qgB:List FOut:=[⟨.str,[],none⟩]
noncomputable def q47:List PV→TR:=qxi
theorem qjD:qZ Tryz.prog qa 132 (q9 qgC qgB q47):=qwG Tryz.laysM171 (q2j Tryz.func132 (by kernel_rfl) (by kernel_rfl)) (by kernel_rfl) (by unfold qa;exact List.mem_cons_self)
def q3h:FIn:=⟨[(.int .i64)],[]⟩
def q38:List FOut:=[⟨.str,[],none⟩]
noncomputable def qp7:=qe [(132,q9 qgC qgB q47)] [(108,Tryz.f108)] [] 0
noncomputable def zt:=qp qp7 108 Tryz.f108 true q3h q38
theorem q10:qZ Tryz.prog qa 108 (q9 q3h q38 zt):=sk qp7 qc q8 (alc qjD aln) aln (b1 Tryz.func108) Tryz.func108
def q6u:FIn:=⟨[.str],[]⟩
def q6q:List FOut:=[⟨(.tuple [(.int .i64),.any]),[],none⟩]
noncomputable def vF:List PV→TR:=qyh
theorem q6n:qZ Tryz.prog qa 202 (q9 q6u q6q vF):=qwC Tryz.lays172 (q2j Tryz.func202 (by kernel_rfl) (by kernel_rfl))
def zo:FIn:=⟨[(.ptr 0 0)],[.big [.bool,(.int .i64)] .i64 232]⟩
def zp:List FOut:=[⟨(.ptr 0 0),[.big [.bool,(.int .i64)] .i64 232],none⟩]
def q1K:Tmpl:={ t:=((.ptr 0 0)::qL 28 []),h:=[.big [.bool,(.int .i64)] .i64 232] }
def q1Q:List Out:=[⟨(.exit 0),{ t:=((.ptr 0 0)::qL 28 []),h:=[.big [.bool,(.int .i64)] .i64 232] }⟩]
noncomputable def uu:=qe [] [(203,Tryz.f203)] [] 1
noncomputable def ji:=yk uu 203 Tryz.f203 2 q1K q1Q
theorem qbg:qt Tryz.prog qa uu.nimp (qC Tryz.prog uu.iter 203) (zW Tryz.f203 2) (qm q1K q1Q (qj ji)):=
 gk uu qc q8 aln aln (b1 Tryz.func203) Tryz.func203
noncomputable def q7z:=qe [] [(203,Tryz.f203)] [((203,2),qm q1K q1Q (qj ji))] 1
noncomputable def qy:=qp q7z 203 Tryz.f203 false zo zp
theorem zJ:qZ Tryz.prog qa 203 (q9 zo zp qy):=qng (E:=q7z) qc ⟨uQ q8,aln,(alc (lk Tryz.func203 qbg) aln),(b1 Tryz.func203)⟩ Tryz.func203 (by kernel_rfl) (by kernel_rfl) (fun _=>rfl)
def uW:FIn:=⟨[.str],[]⟩
def uZ:List FOut:=[⟨(.ptr 0 0),[.big [.bool,(.int .i64)] .i64 232],none⟩]
def qaU:Tmpl:={ t:=(.any::.any::.any::.str::(.ptr 0 0)::qL 43 []),h:=[.big [.bool,(.int .i64)] .i64 232] }
def qaY:List Out:=[⟨(.exit 0),{ t:=(qL 4 ((.ptr 0 0)::qL 43 [])),h:=[.big [.bool,(.int .i64)] .i64 232] }⟩]
noncomputable def q6r:=qe [(157,q9 vV vW qP),(202,q9 q6u q6q vF),(203,q9 zo zp qy)] [(168,Tryz.f168)] [] 0
noncomputable def q3I:=yk q6r 168 Tryz.f168 5 qaU qaY
theorem qjE:qt Tryz.prog qa q6r.nimp (qC Tryz.prog q6r.iter 168) (zW Tryz.f168 5) (qm qaU qaY (qj q3I)):=
 gk q6r qc q8 (alc yR (alc q6n (alc zJ aln))) aln (b1 Tryz.func168) Tryz.func168
noncomputable def ql5:=qe [(157,q9 vV vW qP),(202,q9 q6u q6q vF),(203,q9 zo zp qy)] [(168,Tryz.f168)] [((168,5),qm qaU qaY (qj q3I))] 0
noncomputable def zB:=qp ql5 168 Tryz.f168 false uW uZ
theorem uk:qZ Tryz.prog qa 168 (q9 uW uZ zB):=qng (E:=ql5) qc ⟨uQ q8,(alc yR (alc q6n (alc zJ aln))),(alc (lk Tryz.func168 qjE) aln),(b1 Tryz.func168)⟩ Tryz.func168 (by kernel_rfl) (by kernel_rfl) (fun _=>rfl)
def wD:FIn:=⟨[(.ptr 0 0),(.ptr 1 0),(.int .i64),(.int .i64)],[.big [.bool,(.int .i64)] .i64 232,.big [.bool,(.int .i64)] .i64 232]⟩
def wC:List FOut:=[⟨(.tuple []),[.big [.bool,(.int .i64)] .i64 232,.big [.bool,(.int .i64)] .i64 232],none⟩]
def q3A:Tmpl:={ t:=((.ptr 0 0)::(.ptr 1 0)::(.int .i64)::(.int .i64)::qL 4 ((.int .i64)::(.int .i64)::qL 73 [])),h:=[.big [.bool,(.int .i64)] .i64 232,.big [.bool,(.int .i64)] .i64 232] }
def q3n:List Out:=[⟨(.exit 0),{ t:=((.ptr 0 0)::qL 82 []),h:=[.big [.bool,(.int .i64)] .i64 232,.big [.bool,(.int .i64)] .i64 232] }⟩]
noncomputable def kZ:=qe [(203,q9 zo zp qy)] [(204,Tryz.f204)] [] 2
noncomputable def vU:=yk kZ 204 Tryz.f204 3 q3A q3n
theorem qde:qt Tryz.prog qa kZ.nimp (qC Tryz.prog kZ.iter 204) (zW Tryz.f204 3) (qm q3A q3n (qj vU)):=
 gk kZ qc q8 (alc zJ aln) aln (b1 Tryz.func204) Tryz.func204
noncomputable def qaq:=qe [(203,q9 zo zp qy)] [(204,Tryz.f204)] [((204,3),qm q3A q3n (qj vU))] 2
noncomputable def qJ:=qp qaq 204 Tryz.f204 true wD wC
theorem v8:qZ Tryz.prog qa 204 (q9 wD wC qJ):=sk qaq qc q8 (alc zJ aln) (alc (lk Tryz.func204 qde) aln) (b1 Tryz.func204) Tryz.func204
def jm:FIn:=⟨[(.ptr 0 0),(.ptr 1 0)],[.big [.bool,(.int .i64)] .i64 232,.big [.bool,(.int .i64)] .i64 232]⟩
def jn:List FOut:=[⟨(.int .i64),[.big [.bool,(.int .i64)] .i64 232,.big [.bool,(.int .i64)] .i64 232],none⟩]
def q2g:Tmpl:={ t:=((.ptr 0 0)::(.ptr 1 0)::.any::.any::.any::(.int .i64)::qL 53 []),h:=[.big [.bool,(.int .i64)] .i64 232,.big [.bool,(.int .i64)] .i64 232] }
def q2r:List Out:=[⟨(.exit 0),{ t:=(qL 59 []),h:=[.big [.bool,(.int .i64)] .i64 232,.big [.bool,(.int .i64)] .i64 232] }⟩,⟨.ret,{ t:=(qL 4 ((.int .i64)::qL 54 [])),h:=[.big [.bool,(.int .i64)] .i64 232,.big [.bool,(.int .i64)] .i64 232] }⟩]
noncomputable def uT:=qe [] [(208,Tryz.f208)] [] 2
noncomputable def jN:=yk uT 208 Tryz.f208 6 q2g q2r
theorem qbU:qt Tryz.prog qa uT.nimp (qC Tryz.prog uT.iter 208) (zW Tryz.f208 6) (qm q2g q2r (qj jN)):=
 gk uT qc q8 aln aln (b1 Tryz.func208) Tryz.func208
noncomputable def q9f:=qe [] [(208,Tryz.f208)] [((208,6),qm q2g q2r (qj jN))] 2
noncomputable def zE:=qp q9f 208 Tryz.f208 true jm jn
theorem uw:qZ Tryz.prog qa 208 (q9 jm jn zE):=sk q9f qc q8 aln (alc (lk Tryz.func208 qbU) aln) (b1 Tryz.func208) Tryz.func208
def q1x:FIn:=⟨[(.ptr 0 0),(.ptr 1 0)],[.big [.bool,(.int .i64)] .i64 232,.big [.bool,(.int .i64)] .i64 232]⟩
def q1y:List FOut:=[⟨(.int .i64),[.big [.bool,(.int .i64)] .i64 232,.big [.bool,(.int .i64)] .i64 232],none⟩]
noncomputable def qdV:=qe [] [(209,Tryz.f209),(233,Tryz.f233)] [] 2
noncomputable def yt:=qp qdV 209 Tryz.f209 true q1x q1y
theorem q4y:qZ Tryz.prog qa 209 (q9 q1x q1y yt):=sk qdV qc q8 aln aln (alc (bk Tryz.func209) (alc (bk Tryz.func233) aln)) Tryz.func209
def q0v:FIn:=⟨[(.ptr 0 0),(.ptr 1 0)],[.big [.bool,(.int .i64)] .i64 232,.big [.bool,(.int .i64)] .i64 232]⟩
def q0w:List FOut:=[⟨(.tuple [(.ptr 2 0),(.ptr 3 0)]),[.big [.bool,(.int .i64)] .i64 232,.big [.bool,(.int .i64)] .i64 232,.big [.bool,(.int .i64)] .i64 232,.big [.bool,(.int .i64)] .i64 232],none⟩]
def q5h:Tmpl:={ t:=((.ptr 0 0)::(.ptr 1 0)::qL 4 ((.ptr 2 0)::(.ptr 3 0)::(.int .i64)::(.int .i64)::qL 80 [])),h:=[.big [.bool,(.int .i64)] .i64 232,.big [.bool,(.int .i64)] .i64 232,.big [.bool,(.int .i64)] .i64 232,.big [.bool,(.int .i64)] .i64 232] }
def q55:List Out:=[⟨(.exit 2),{ t:=((.ptr 0 0)::(.ptr 1 0)::qL 4 ((.ptr 2 0)::(.ptr 3 0)::(.int .i64)::(.int .i64)::qL 80 [])),h:=[.big [.bool,(.int .i64)] .i64 232,.big [.bool,(.int .i64)] .i64 232,.big [.bool,(.int .i64)] .i64 232,.big [.bool,(.int .i64)] .i64 232] }⟩]
noncomputable def q23:=qe [(203,q9 zo zp qy),(204,q9 wD wC qJ),(208,q9 jm jn zE),(209,q9 q1x q1y yt)] [(178,Tryz.f178)] [] 2
noncomputable def yb:=yk q23 178 Tryz.f178 14 q5h q55
theorem qfw:qt Tryz.prog qa q23.nimp (qC Tryz.prog q23.iter 178) (zW Tryz.f178 14) (qm q5h q55 (qj yb)):=
 gk q23 qc q8 (alc zJ (alc v8 (alc uw (alc q4y aln)))) aln (b1 Tryz.func178) Tryz.func178
def q6h:Tmpl:={ t:=((.ptr 0 0)::(.ptr 1 0)::qL 4 ((.ptr 2 0)::(.ptr 3 0)::(.int .i64)::qL 81 [])),h:=[.big [.bool,(.int .i64)] .i64 232,.big [.bool,(.int .i64)] .i64 232,.big [.bool,(.int .i64)] .i64 232,.big [.bool,(.int .i64)] .i64 232] }
def q5V:List Out:=[⟨(.exit 0),{ t:=(qL 6 ((.ptr 2 0)::(.ptr 3 0)::qL 82 [])),h:=[.big [.bool,(.int .i64)] .i64 232,.big [.bool,(.int .i64)] .i64 232,.big [.bool,(.int .i64)] .i64 232,.big [.bool,(.int .i64)] .i64 232] }⟩]
noncomputable def q3a:=qe [(203,q9 zo zp qy),(204,q9 wD wC qJ),(208,q9 jm jn zE),(209,q9 q1x q1y yt)] [(178,Tryz.f178)] [((178,14),qm q5h q55 (qj yb))] 2
noncomputable def q0a:=yk q3a 178 Tryz.f178 4 q6h q5V
theorem qgd:qt Tryz.prog qa q3a.nimp (qC Tryz.prog q3a.iter 178) (zW Tryz.f178 4) (qm q6h q5V (qj q0a)):=
 gk q3a qc q8 (alc zJ (alc v8 (alc uw (alc q4y aln)))) (alc (lk Tryz.func178 qfw) aln) (b1 Tryz.func178) Tryz.func178
noncomputable def qft:=qe [(203,q9 zo zp qy),(204,q9 wD wC qJ),(208,q9 jm jn zE),(209,q9 q1x q1y yt)] [(178,Tryz.f178)] [((178,4),qm q6h q5V (qj q0a))] 2
noncomputable def wL:=qp qft 178 Tryz.f178 false q0v q0w
theorem q1T:qZ Tryz.prog qa 178 (q9 q0v q0w wL):=qng (E:=qft) qc ⟨uQ q8,(alc zJ (alc v8 (alc uw (alc q4y aln)))),(alc (lk Tryz.func178 qgd) aln),(b1 Tryz.func178)⟩ Tryz.func178 (by kernel_rfl) (by kernel_rfl) (fun _=>rfl)
def u9:FIn:=⟨[(.ptr 0 0)],[.big [.bool,(.int .i64)] .i64 232]⟩
def u7:List FOut:=[⟨.str,[.big [.bool,(.int .i64)] .i64 232],none⟩]
noncomputable def qK:List PV→TR:=qxj
theorem yH:qZ Tryz.prog qa 179 (q9 u9 u7 qK):=qwe (by unfold qa;exact List.mem_cons_self)
def q8V:FIn:=⟨[.str,.str],[]⟩
def q8O:List FOut:=[⟨(.tuple [.str,(.int .i64)]),[],none⟩]
def qbk:Tmpl:={ t:=(qL 9 ((.int .i64)::(.int .i64)::qL 61 [])),h:=[] }
def qaX:List Out:=[⟨(.exit 2),{ t:=(qL 9 ((.int .i64)::qL 62 [])),h:=[] }⟩]
noncomputable def q6G:=qe [(108,q9 q3h q38 zt),(165,q9 kx kJ zX),(168,q9 uW uZ zB),(178,q9 q0v q0w wL),(179,q9 u9 u7 qK)] [(146,Tryz.f146)] [] 0
noncomputable def q1H:=yk q6G 146 Tryz.f146 14 qbk qaX
theorem qks:qt Tryz.prog qa q6G.nimp (qC Tryz.prog q6G.iter 146) (zW Tryz.f146 14) (qm qbk qaX (qj q1H)):=
 gk q6G qc q8 (alc q10 (alc u4 (alc uk (alc q1T (alc yH aln))))) aln (b1 Tryz.func146) Tryz.func146
def qco:Tmpl:={ t:=(qL 7 ((.ptr 1 0)::(.ptr 2 0)::qL 63 [])),h:=[.dead,.big [.bool,(.int .i64)] .i64 232,.big [.bool,(.int .i64)] .i64 232],sw:=[(7,1),(8,2)],swn:=0 }
def qdn:List Out:=[⟨(.exit 0),{ t:=(qL 7 ((.ptr 1 0)::qL 64 [])),h:=[.dead,.big [.bool,(.int .i64)] .i64 232] }⟩,⟨.ret,{ t:=(qL 4 (.str::(.int .i64)::qL 66 [])),h:=[] }⟩]
noncomputable def q7R:=qe [(108,q9 q3h q38 zt),(165,q9 kx kJ zX),(168,q9 uW uZ zB),(178,q9 q0v q0w wL),(179,q9 u9 u7 qK)] [(146,Tryz.f146)] [((146,14),qm qbk qaX (qj q1H))] 0
noncomputable def q4Y:=yk q7R 146 Tryz.f146 7 qco qdn
theorem qld:qt Tryz.prog qa q7R.nimp (qC Tryz.prog q7R.iter 146) (zW Tryz.f146 7) (qm qco qdn (qj q4Y)):=
 gk q7R qc q8 (alc q10 (alc u4 (alc uk (alc q1T (alc yH aln))))) (alc (lk Tryz.func146 qks) aln) (b1 Tryz.func146) Tryz.func146
noncomputable def qm0:=qe [(108,q9 q3h q38 zt),(165,q9 kx kJ zX),(168,q9 uW uZ zB),(178,q9 q0v q0w wL),(179,q9 u9 u7 qK)] [(146,Tryz.f146)] [((146,7),qm qco qdn (qj q4Y))] 0
noncomputable def q2h:=qp qm0 146 Tryz.f146 true q8V q8O
theorem qaZ:qZ Tryz.prog qa 146 (q9 q8V q8O q2h):=sk qm0 qc q8 (alc q10 (alc u4 (alc uk (alc q1T (alc yH aln))))) (alc (lk Tryz.func146 qld) aln) (b1 Tryz.func146) Tryz.func146
def q36:FIn:=⟨[.str],[]⟩
def q2H:List FOut:=[⟨(.int .i64),[],none⟩]
noncomputable def qiw:=qe [(130,q9 jD jq qM),(134,q9 q2o q2l qN),(145,q9 q9D q9e q2v),(146,q9 q8V q8O q2h)] [(114,Tryz.f114)] [] 0
noncomputable def vO:=qp qiw 114 Tryz.f114 true q36 q2H
theorem q4c:qZ Tryz.prog qa 114 (q9 q36 q2H vO):=sk qiw qc q8 (alc j4 (alc q1G (alc qir (alc qaZ aln)))) aln (b1 Tryz.func114) Tryz.func114
def q7Y:FIn:=⟨[(.agg [.str,.str,.str])],[]⟩
def q8e:List FOut:=[⟨(.int .i64),[],none⟩]
def q8H:Tmpl:={ t:=(.any::(.ptr 0 0)::qL 12 ((.vec 1)::(.int .i64)::(.int .i64)::qL 13 [])),h:=[.cells [.str,.str,.str],.vec 112 [.str]] }
def q9y:List Out:=[⟨(.exit 0),{ t:=(.any::(.ptr 0 0)::qL 28 []),h:=[.cells [.str,.str,.str]] }⟩,⟨.ret,{ t:=(.any::.any::(.int .i64)::qL 27 []),h:=[] }⟩]
noncomputable def q5d:=qe [(114,q9 q36 q2H vO)] [(88,Tryz.f88)] [] 0
noncomputable def q2i:=yk q5d 88 Tryz.f88 3 q8H q9y
theorem qj9:qt Tryz.prog qa q5d.nimp (qC Tryz.prog q5d.iter 88) (zW Tryz.f88 3) (qm q8H q9y (qj q2i)):=
 gk q5d qc q8 (alc q4c aln) aln (b1 Tryz.func88) Tryz.func88
noncomputable def qi0:=qe [(114,q9 q36 q2H vO)] [(88,Tryz.f88)] [((88,3),qm q8H q9y (qj q2i))] 0
noncomputable def q3c:=qp qi0 88 Tryz.f88 true q7Y q8e
theorem qdJ:qZ Tryz.prog qa 88 (q9 q7Y q8e q3c):=sk qi0 qc q8 (alc q4c aln) (alc (lk Tryz.func88 qj9) aln) (b1 Tryz.func88) Tryz.func88
def jG:FIn:=⟨[(.imm [.str,.str,.str])],[]⟩
def jI:List FOut:=[⟨(.int .i64),[],none⟩]
def qaS:Tmpl:={ t:=((.imm [.str,.str,.str])::qL 8 ((.imm [.str,.str,.str])::(.int .i64)::(.int .i64)::qL 12 [])),h:=[] }
def qaE:List Out:=[⟨(.exit 0),{ t:=((.imm [.str,.str,.str])::qL 23 []),h:=[] }⟩,⟨.ret,{ t:=(.any::.any::(.int .i64)::qL 21 []),h:=[] }⟩]
noncomputable def q6B:=qe [(88,q9 q7Y q8e q3c)] [(60,Tryz.f60)] [] 0
noncomputable def q3O:=yk q6B 60 Tryz.f60 6 qaS qaE
theorem qk7:qt Tryz.prog qa q6B.nimp (qC Tryz.prog q6B.iter 60) (zW Tryz.f60 6) (qm qaS qaE (qj q3O)):=
 gk q6B qc q8 (alc qdJ aln) aln (b1 Tryz.func60) Tryz.func60
noncomputable def qkV:=qe [(88,q9 q7Y q8e q3c)] [(60,Tryz.f60)] [((60,6),qm qaS qaE (qj q3O))] 0
noncomputable def wg:=qp qkV 60 Tryz.f60 true jG jI
theorem vR:qZ Tryz.prog qa 60 (q9 jG jI wg):=sk qkV qc q8 (alc qdJ aln) (alc (lk Tryz.func60 qk7) aln) (b1 Tryz.func60) Tryz.func60
def q5a:FIn:=⟨[.str,.str],[]⟩
def q4Z:List FOut:=[⟨(.tuple [(.int .i64),(.int .i64),.bool]),[],none⟩]
noncomputable def qj1:=qe [(202,q9 q6u q6q vF)] [(166,Tryz.f166)] [] 0
noncomputable def yO:=qp qj1 166 Tryz.f166 true q5a q4Z
theorem q7o:qZ Tryz.prog qa 166 (q9 q5a q4Z yO):=sk qj1 qc q8 (alc q6n aln) aln (b1 Tryz.func166) Tryz.func166
def q6E:FIn:=⟨[(.int .i64)],[]⟩
def q6C:List FOut:=[⟨(.tuple [.str,(.int .i64)]),[],none⟩]
noncomputable def qgY:=qe [(108,q9 q3h q38 zt)] [(167,Tryz.f167)] [] 0
noncomputable def kO:=qp qgY 167 Tryz.f167 true q6E q6C
theorem qbS:qZ Tryz.prog qa 167 (q9 q6E q6C kO):=sk qgY qc q8 (alc q10 aln) aln (b1 Tryz.func167) Tryz.func167
def q59:FIn:=⟨[(.ptr 0 0),(.ptr 1 0)],[.big [.bool,(.int .i64)] .i64 232,.big [.bool,(.int .i64)] .i64 232]⟩
def q5w:List FOut:=[⟨(.ptr 2 0),[.big [.bool,(.int .i64)] .i64 232,.big [.bool,(.int .i64)] .i64 232,.big [.bool,(.int .i64)] .i64 232],none⟩]
def q3C:Tmpl:={ t:=((.ptr 0 0)::(.ptr 1 0)::.any::.any::.any::(.ptr 2 0)::qL 15 ((.int .i64)::(.int .i64)::qL 14 [])),h:=[.big [.bool,(.int .i64)] .i64 232,.big [.bool,(.int .i64)] .i64 232,.big [.bool,(.int .i64)] .i64 232] }
def q3s:List Out:=[⟨(.exit 0),{ t:=(qL 5 ((.ptr 2 0)::qL 31 [])),h:=[.big [.bool,(.int .i64)] .i64 232,.big [.bool,(.int .i64)] .i64 232,.big [.bool,(.int .i64)] .i64 232] }⟩]
noncomputable def kX:=qe [(204,q9 wD wC qJ)] [(169,Tryz.f169)] [] 2
noncomputable def yF:=yk kX 169 Tryz.f169 4 q3C q3s
theorem qcs:qt Tryz.prog qa kX.nimp (qC Tryz.prog kX.iter 169) (zW Tryz.f169 4) (qm q3C q3s (qj yF)):=
 gk kX qc q8 (alc v8 aln) aln (b1 Tryz.func169) Tryz.func169
noncomputable def q9V:=qe [(204,q9 wD wC qJ)] [(169,Tryz.f169)] [((169,4),qm q3C q3s (qj yF))] 2
noncomputable def uV:=qp q9V 169 Tryz.f169 false q59 q5w
theorem qef:qZ Tryz.prog qa 169 (q9 q59 q5w uV):=qng (E:=q9V) qc ⟨uQ q8,(alc v8 aln),(alc (lk Tryz.func169 qcs) aln),(b1 Tryz.func169)⟩ Tryz.func169 (by kernel_rfl) (by kernel_rfl) (fun _=>rfl)
def yA:FIn:=⟨[(.ptr 0 0)],[.big [.bool,(.int .i64)] .i64 232]⟩
def yD:List FOut:=[⟨(.tuple [.str,(.int .i64)]),[.big [.bool,(.int .i64)] .i64 232],none⟩]
noncomputable def q7A:=qe [(130,q9 jD jq qM),(179,q9 u9 u7 qK)] [(170,Tryz.f170)] [] 1
noncomputable def zS:=qp q7A 170 Tryz.f170 true yA yD
theorem q13:qZ Tryz.prog qa 170 (q9 yA yD zS):=sk q7A qc q8 (alc j4 (alc yH aln)) aln (b1 Tryz.func170) Tryz.func170
def q94:FIn:=⟨[.str,.str],[]⟩
def q8X:List FOut:=[⟨(.tuple [.str,(.int .i64)]),[],none⟩]
noncomputable def qnD:=qe [(165,q9 kx kJ zX),(166,q9 q5a q4Z yO),(167,q9 q6E q6C kO),(168,q9 uW uZ zB),(169,q9 q59 q5w uV),(170,q9 yA yD zS)] [(136,Tryz.f136)] [] 0
noncomputable def q4w:=qp qnD 136 Tryz.f136 true q94 q8X
theorem qbn:qZ Tryz.prog qa 136 (q9 q94 q8X q4w):=sk qnD qc q8 (alc u4 (alc q7o (alc qbS (alc uk (alc qef (alc q13 aln)))))) aln (b1 Tryz.func136) Tryz.func136
def jv:FIn:=⟨[(.ptr 0 0),(.fn 136 [] []),.str,.str],[.cells [(.int .i64)]]⟩
def jw:List FOut:=[⟨.str,[.cells [(.int .i64)]],none⟩]
noncomputable def q44:=qe [(136,q9 q94 q8X q4w)] [(135,Tryz.f135)] [] 1
noncomputable def zR:=qp q44 135 Tryz.f135 true jv jw
theorem q29:qZ Tryz.prog qa 135 (q9 jv jw zR):=sk q44 qc q8 (alc qbn aln) aln (b1 Tryz.func135) Tryz.func135
def j2:FIn:=⟨[(.ptr 0 0),(.imm [.str])],[.cells [(.int .i64)]]⟩
def j1:List FOut:=[⟨.str,[.cells [(.int .i64)]],none⟩]
def q5g:Tmpl:={ t:=(qL 5 (.str::(.fn 135 [(.ptr 0 0)] [])::qL 4 ((.imm [.str])::(.int .i64)::(.int .i64)::qL 9 []))),h:=[.cells [(.int .i64)]] }
def q5u:List Out:=[⟨(.exit 0),{ t:=(qL 5 (.str::qL 17 [])),h:=[.cells [(.int .i64)]] }⟩]
noncomputable def q22:=qe [(136,q9 q94 q8X q4w),(135,q9 jv jw zR)] [(111,Tryz.f111)] [] 1
noncomputable def jZ:=yk q22 111 Tryz.f111 4 q5g q5u
theorem qeI:qt Tryz.prog qa q22.nimp (qC Tryz.prog q22.iter 111) (zW Tryz.f111 4) (qm q5g q5u (qj jZ)):=
 gk q22 qc q8 (alc qbn (alc q29 aln)) aln (b1 Tryz.func111) Tryz.func111
noncomputable def qdz:=qe [(136,q9 q94 q8X q4w),(135,q9 jv jw zR)] [(111,Tryz.f111)] [((111,4),qm q5g q5u (qj jZ))] 1
noncomputable def qg:=qp qdz 111 Tryz.f111 true j2 j1
theorem jp:qZ Tryz.prog qa 111 (q9 j2 j1 qg):=sk qdz qc q8 (alc qbn (alc q29 aln)) (alc (lk Tryz.func111 qeI) aln) (b1 Tryz.func111) Tryz.func111
def q0c:FIn:=⟨[(.ptr 0 0),(.ptr 1 0)],[.big [.bool,(.int .i64)] .i64 232,.big [.bool,(.int .i64)] .i64 232]⟩
def q07:List FOut:=[⟨(.tuple []),[.big [.bool,(.int .i64)] .i64 232,.big [.bool,(.int .i64)] .i64 232],none⟩]
noncomputable def qbN:=qe [(204,q9 wD wC qJ),(208,q9 jm jn zE)] [(223,Tryz.f223)] [] 2
noncomputable def ww:=qp qbN 223 Tryz.f223 true q0c q07
theorem q3q:qZ Tryz.prog qa 223 (q9 q0c q07 ww):=sk qbN qc q8 (alc v8 (alc uw aln)) aln (b1 Tryz.func223) Tryz.func223
def qh3:FIn:=⟨[(.imm [.str])],[]⟩
def qh5:List FOut:=[⟨(.tuple [.str,(.int .i64)]),[],none⟩]
def qcD:Tmpl:={ t:=(qL 4 ((.ptr 0 0)::qL 4 ((.imm [.str])::(.int .i64)::(.int .i64)::qL 12 []))),h:=[.big [.bool,(.int .i64)] .i64 232] }
def qcC:List Out:=[⟨(.exit 0),{ t:=(qL 4 ((.ptr 0 0)::qL 19 [])),h:=[.big [.bool,(.int .i64)] .i64 232] }⟩]
noncomputable def q83:=qe [(168,q9 uW uZ zB),(170,q9 yA yD zS),(223,q9 q0c q07 ww)] [(235,Tryz.f235)] [] 0
noncomputable def q5z:=yk q83 235 Tryz.f235 4 qcD qcC
theorem qlA:qt Tryz.prog qa q83.nimp (qC Tryz.prog q83.iter 235) (zW Tryz.f235 4) (qm qcD qcC (qj q5z)):=
 gk q83 qc q8 (alc uk (alc q13 (alc q3q aln))) aln (b1 Tryz.func235) Tryz.func235
noncomputable def qmc:=qe [(168,q9 uW uZ zB),(170,q9 yA yD zS),(223,q9 q0c q07 ww)] [(235,Tryz.f235)] [((235,4),qm qcD qcC (qj q5z))] 0
noncomputable def q96:=qp qmc 235 Tryz.f235 true qh3 qh5
theorem qoe:qZ Tryz.prog qa 235 (q9 qh3 qh5 q96):=sk qmc qc q8 (alc uk (alc q13 (alc q3q aln))) (alc (lk Tryz.func235 qlA) aln) (b1 Tryz.func235) Tryz.func235
def q8F:FIn:=⟨[.str,.str],[]⟩
def q9a:List FOut:=[⟨(.tuple [.str,(.int .i64)]),[],none⟩]
noncomputable def qnU:=qe [(165,q9 kx kJ zX),(166,q9 q5a q4Z yO),(167,q9 q6E q6C kO),(235,q9 qh3 qh5 q96)] [(213,Tryz.f213)] [] 0
noncomputable def q2n:=qp qnU 213 Tryz.f213 true q8F q9a
theorem qaV:qZ Tryz.prog qa 213 (q9 q8F q9a q2n):=sk qnU qc q8 (alc u4 (alc q7o (alc qbS (alc qoe aln)))) aln (b1 Tryz.func213) Tryz.func213
def q7r:FIn:=⟨[.str],[]⟩
def q7a:List FOut:=[⟨.str,[],none⟩]
noncomputable def qdM:=qe [(176,q9 q70 q78 yZ)] [(222,Tryz.f222)] [] 0
noncomputable def q1p:=qp qdM 222 Tryz.f222 true q7r q7a
theorem qhJ:qZ Tryz.prog qa 222 (q9 q7r q7a q1p):=sk qdM qc q8 (alc q8M aln) aln (b1 Tryz.func222) Tryz.func222
def qcx:FIn:=⟨[.str,.str],[]⟩
def qcF:List FOut:=[⟨(.tuple [.str,(.int .i64)]),[],none⟩]
noncomputable def qny:=qe [(165,q9 kx kJ zX),(213,q9 q8F q9a q2n),(222,q9 q7r q7a q1p)] [(198,Tryz.f198)] [] 0
noncomputable def q64:=qp qny 198 Tryz.f198 true qcx qcF
theorem qgZ:qZ Tryz.prog qa 198 (q9 qcx qcF q64):=sk qny qc q8 (alc u4 (alc qaV (alc qhJ aln))) aln (b1 Tryz.func198) Tryz.func198
def kv:FIn:=⟨[(.ptr 0 0),(.fn 198 [] []),.str,.str],[.cells [(.int .i64)]]⟩
def kw:List FOut:=[⟨.str,[.cells [(.int .i64)]],none⟩]
noncomputable def q3N:=qe [(198,q9 qcx qcF q64)] [(135,Tryz.f135)] [] 1
noncomputable def wN:=qp q3N 135 Tryz.f135 true kv kw
theorem q87:qZ Tryz.prog qa 135 (q9 kv kw wN):=sk q3N qc q8 (alc qgZ aln) aln (b1 Tryz.func135) Tryz.func135
def uF:FIn:=⟨[(.ptr 0 0),.str,.str],[.cells [(.int .i64)]]⟩
def uH:List FOut:=[⟨.str,[.cells [(.int .i64)]],none⟩]
noncomputable def qdU:=qe [(198,q9 qcx qcF q64),(135,q9 kv kw wN)] [(160,Tryz.f160)] [] 1
noncomputable def zr:=qp qdU 160 Tryz.f160 true uF uH
theorem q12:qZ Tryz.prog qa 160 (q9 uF uH zr):=sk qdU qc q8 (alc qgZ (alc q87 aln)) aln (b1 Tryz.func160) Tryz.func160
def q8a:FIn:=⟨[(.ptr 0 0),.str,.str,.str,.str],[.cells [(.int .i64)]]⟩
def q7X:List FOut:=[⟨(.tuple [.str,.str]),[.cells [(.int .i64)]],none⟩]
noncomputable def qib:=qe [(111,q9 j2 j1 qg),(160,q9 uF uH zr)] [(180,Tryz.f180)] [] 1
noncomputable def q3e:=qp qib 180 Tryz.f180 true q8a q7X
theorem qdy:qZ Tryz.prog qa 180 (q9 q8a q7X q3e):=sk qib qc q8 (alc jp (alc q12 aln)) aln (b1 Tryz.func180) Tryz.func180
def q4u:FIn:=⟨[.str,.str],[]⟩
def q4D:List FOut:=[⟨.bool,[],none⟩]
noncomputable def q9r:=qe [(197,q9 wd we qE)] [(159,Tryz.f159)] [] 0
noncomputable def um:=qp q9r 159 Tryz.f159 true q4u q4D
theorem qe2:qZ Tryz.prog qa 159 (q9 q4u q4D um):=sk q9r qc q8 (alc uo aln) aln (b1 Tryz.func159) Tryz.func159
def qaT:FIn:=⟨[.str,.str],[]⟩
def qbo:List FOut:=[⟨.str,[],none⟩]
noncomputable def qgv:=qe [] [(161,Tryz.f161)] [] 0
noncomputable def q1F:=qp qgv 161 Tryz.f161 true qaT qbo
theorem qjT:qZ Tryz.prog qa 161 (q9 qaT qbo q1F):=sk qgv qc q8 aln aln (b1 Tryz.func161) Tryz.func161
def qaL:FIn:=⟨[.str,.str],[]⟩
def qaJ:List FOut:=[⟨(.tuple [.str,.str,(.int .i64)]),[],none⟩]
noncomputable def qgE:=qe [(108,q9 q3h q38 zt),(165,q9 kx kJ zX),(166,q9 q5a q4Z yO),(168,q9 uW uZ zB),(178,q9 q0v q0w wL),(179,q9 u9 u7 qK),(223,q9 q0c q07 ww)] [(199,Tryz.f199)] [] 0
noncomputable def q3P:=qp qgE 199 Tryz.f199 true qaL qaJ
theorem qjX:qZ Tryz.prog qa 199 (q9 qaL qaJ q3P):=sk qgE qc q8 (alc q10 (alc u4 (alc q7o (alc uk (alc q1T (alc yH (alc q3q aln))))))) aln (b1 Tryz.func199) Tryz.func199
def qct:FIn:=⟨[.str,.str],[]⟩
def qcu:List FOut:=[⟨(.tuple [.str,(.int .i64)]),[],none⟩]
noncomputable def qm5:=qe [(130,q9 jD jq qM),(199,q9 qaL qaJ q3P)] [(162,Tryz.f162)] [] 0
noncomputable def q62:=qp qm5 162 Tryz.f162 true qct qcu
theorem qgM:qZ Tryz.prog qa 162 (q9 qct qcu q62):=sk qm5 qc q8 (alc j4 (alc qjX aln)) aln (b1 Tryz.func162) Tryz.func162
def js:FIn:=⟨[(.ptr 0 0),(.fn 146 [] []),.str,.str],[.cells [(.int .i64)]]⟩
def kr:List FOut:=[⟨.str,[.cells [(.int .i64)]],none⟩]
noncomputable def q3S:=qe [(146,q9 q8V q8O q2h)] [(135,Tryz.f135)] [] 1
noncomputable def wK:=qp q3S 135 Tryz.f135 true js kr
theorem q82:qZ Tryz.prog qa 135 (q9 js kr wK):=sk q3S qc q8 (alc qaZ aln) aln (b1 Tryz.func135) Tryz.func135
def jr:FIn:=⟨[(.ptr 0 0),(.fn 162 [] []),.str,.str],[.cells [(.int .i64)]]⟩
def kQ:List FOut:=[⟨.str,[.cells [(.int .i64)]],none⟩]
noncomputable def q3W:=qe [(162,q9 qct qcu q62)] [(135,Tryz.f135)] [] 1
noncomputable def qU:=qp q3W 135 Tryz.f135 true jr kQ
theorem q7I:qZ Tryz.prog qa 135 (q9 jr kQ qU):=sk q3W qc q8 (alc qgM aln) aln (b1 Tryz.func135) Tryz.func135
def wi:FIn:=⟨[(.ptr 0 0),.str,.str],[.cells [(.int .i64)]]⟩
def wj:List FOut:=[⟨.str,[.cells [(.int .i64)]],none⟩]
noncomputable def q9b:=qe [(146,q9 q8V q8O q2h),(159,q9 q4u q4D um),(160,q9 uF uH zr),(161,q9 qaT qbo q1F),(162,q9 qct qcu q62),(135,qCH [(js,q9 js kr wK),(jr,q9 jr kQ qU)])] [(131,Tryz.f131)] [] 1
noncomputable def qA:=qp q9b 131 Tryz.f131 true wi wj
theorem wF:qZ Tryz.prog qa 131 (q9 wi wj qA):=sk q9b qc q8 (alc qaZ (alc qe2 (alc q12 (alc qjT (alc qgM (alc (qz5 (q2j Tryz.func135 (by kernel_rfl) (by kernel_rfl)) (qvp q82 (qvp q7I qAW))) aln)))))) aln (b1 Tryz.func131) Tryz.func131
def u5:FIn:=⟨[(.imm [.str])],[]⟩
def u6:List FOut:=[⟨(.int .i64),[],none⟩]
def q7t:Tmpl:={ t:=(qL 6 ((.imm [.str])::(.int .i64)::(.int .i64)::qL 9 [])),h:=[] }
def q7f:List Out:=[⟨(.exit 0),{ t:=(qL 18 []),h:=[] }⟩,⟨.ret,{ t:=(.any::.any::(.int .i64)::qL 15 []),h:=[] }⟩]
noncomputable def q4j:=qe [(114,q9 q36 q2H vO)] [(133,Tryz.f133)] [] 0
noncomputable def q1A:=yk q4j 133 Tryz.f133 3 q7t q7f
theorem qhM:qt Tryz.prog qa q4j.nimp (qC Tryz.prog q4j.iter 133) (zW Tryz.f133 3) (qm q7t q7f (qj q1A)):=
 gk q4j qc q8 (alc q4c aln) aln (b1 Tryz.func133) Tryz.func133
noncomputable def qh1:=qe [(114,q9 q36 q2H vO)] [(133,Tryz.f133)] [((133,3),qm q7t q7f (qj q1A))] 0
noncomputable def qV:=qp qh1 133 Tryz.f133 true u5 u6
theorem ua:qZ Tryz.prog qa 133 (q9 u5 u6 qV):=sk qh1 qc q8 (alc q4c aln) (alc (lk Tryz.func133 qhM) aln) (b1 Tryz.func133) Tryz.func133
def q0B:FIn:=⟨[.str,.str,(.fn 180 [] [])],[]⟩
def q0f:List FOut:=[⟨(.tuple [.str,(.int .i64)]),[],none⟩]
noncomputable def q4H:=qe [(131,q9 wi wj qA),(133,q9 u5 u6 qV),(134,q9 q2o q2l qN),(180,q9 q8a q7X q3e)] [(109,Tryz.f109)] [] 0
noncomputable def vd:=qp q4H 109 Tryz.f109 true q0B q0f
theorem q8Y:qZ Tryz.prog qa 109 (q9 q0B q0f vd):=sk q4H qc q8 (alc wF (alc ua (alc q1G (alc qdy aln)))) aln (b1 Tryz.func109) Tryz.func109
def qdi:FIn:=⟨[.str,.str],[]⟩
def qcT:List FOut:=[⟨(.tuple [.str,(.int .i64)]),[],none⟩]
noncomputable def qmu:=qe [(180,q9 q8a q7X q3e),(109,q9 q0B q0f vd)] [(148,Tryz.f148)] [] 0
noncomputable def q6l:=qp qmu 148 Tryz.f148 true qdi qcT
theorem qgW:qZ Tryz.prog qa 148 (q9 qdi qcT q6l):=sk qmu qc q8 (alc qdy (alc q8Y aln)) aln (b1 Tryz.func148) Tryz.func148
def kF:FIn:=⟨[(.ptr 0 0),(.fn 148 [] []),.str,.str],[.cells [(.int .i64)]]⟩
def kN:List FOut:=[⟨.str,[.cells [(.int .i64)]],none⟩]
noncomputable def q43:=qe [(148,q9 qdi qcT q6l)] [(117,Tryz.f117)] [] 1
noncomputable def wM:=qp q43 117 Tryz.f117 true kF kN
theorem q8g:qZ Tryz.prog qa 117 (q9 kF kN wM):=sk q43 qc q8 (alc qgW aln) aln (b1 Tryz.func117) Tryz.func117
def q1k:FIn:=⟨[(.ptr 0 0),.str,.str],[.cells [(.int .i64)]]⟩
def q1q:List FOut:=[⟨.str,[.cells [(.int .i64)]],none⟩]
noncomputable def qdW:=qe [(148,q9 qdi qcT q6l),(117,q9 kF kN wM)] [(119,Tryz.f119)] [] 1
noncomputable def z6:=qp qdW 119 Tryz.f119 true q1k q1q
theorem q4t:qZ Tryz.prog qa 119 (q9 q1k q1q z6):=sk qdW qc q8 (alc qgW (alc q8g aln)) aln (b1 Tryz.func119) Tryz.func119
def q2Y:FIn:=⟨[(.ptr 0 0),(.agg [.str,.str]),(.agg [.str,.str])],[.cells [(.int .i64)]]⟩
def q2X:List FOut:=[⟨(.agg [.str,.str]),[.cells [(.int .i64)]],none⟩]
noncomputable def qbP:=qe [(119,q9 q1k q1q z6)] [(115,Tryz.f115)] [] 1
noncomputable def jl:=qp qbP 115 Tryz.f115 true q2Y q2X
theorem q7C:qZ Tryz.prog qa 115 (q9 q2Y q2X jl):=sk qbP qc q8 (alc q4t aln) aln (b1 Tryz.func115) Tryz.func115
def kp:FIn:=⟨[(.ptr 0 0),(.fn 213 [] []),.str,.str],[.cells [(.int .i64)]]⟩
def kq:List FOut:=[⟨.str,[.cells [(.int .i64)]],none⟩]
noncomputable def q3R:=qe [(213,q9 q8F q9a q2n)] [(135,Tryz.f135)] [] 1
noncomputable def wQ:=qp q3R 135 Tryz.f135 true kp kq
theorem q8f:qZ Tryz.prog qa 135 (q9 kp kq wQ):=sk q3R qc q8 (alc qaV aln) aln (b1 Tryz.func135) Tryz.func135
def q4h:FIn:=⟨[(.ptr 0 0),.str,.str],[.cells [(.int .i64)]]⟩
def q4n:List FOut:=[⟨.str,[.cells [(.int .i64)]],none⟩]
noncomputable def qdY:=qe [(213,q9 q8F q9a q2n),(135,q9 kp kq wQ)] [(182,Tryz.f182)] [] 1
noncomputable def yi:=qp qdY 182 Tryz.f182 true q4h q4n
theorem q9t:qZ Tryz.prog qa 182 (q9 q4h q4n yi):=sk qdY qc q8 (alc qaV (alc q8f aln)) aln (b1 Tryz.func182) Tryz.func182
def q7O:FIn:=⟨[(.ptr 0 0),.str,.str,.str,.str],[.cells [(.int .i64)]]⟩
def q8o:List FOut:=[⟨(.tuple [.str,.str]),[.cells [(.int .i64)]],none⟩]
noncomputable def qiK:=qe [(111,q9 j2 j1 qg),(182,q9 q4h q4n yi)] [(181,Tryz.f181)] [] 1
noncomputable def q2T:=qp qiK 181 Tryz.f181 true q7O q8o
theorem qdK:qZ Tryz.prog qa 181 (q9 q7O q8o q2T):=sk qiK qc q8 (alc jp (alc q9t aln)) aln (b1 Tryz.func181) Tryz.func181
def q08:FIn:=⟨[.str,.str,(.fn 181 [] [])],[]⟩
def q0l:List FOut:=[⟨(.tuple [.str,(.int .i64)]),[],none⟩]
noncomputable def q4O:=qe [(131,q9 wi wj qA),(133,q9 u5 u6 qV),(134,q9 q2o q2l qN),(181,q9 q7O q8o q2T)] [(109,Tryz.f109)] [] 0
noncomputable def vj:=qp q4O 109 Tryz.f109 true q08 q0l
theorem q9v:qZ Tryz.prog qa 109 (q9 q08 q0l vj):=sk q4O qc q8 (alc wF (alc ua (alc q1G (alc qdK aln)))) aln (b1 Tryz.func109) Tryz.func109
def qcY:FIn:=⟨[.str,.str],[]⟩
def qd8:List FOut:=[⟨(.tuple [.str,(.int .i64)]),[],none⟩]
noncomputable def qmE:=qe [(181,q9 q7O q8o q2T),(109,q9 q08 q0l vj)] [(149,Tryz.f149)] [] 0
noncomputable def q6d:=qp qmE 149 Tryz.f149 true qcY qd8
theorem qgT:qZ Tryz.prog qa 149 (q9 qcY qd8 q6d):=sk qmE qc q8 (alc qdK (alc q9v aln)) aln (b1 Tryz.func149) Tryz.func149
def kH:FIn:=⟨[(.ptr 0 0),(.fn 149 [] []),.str,.str],[.cells [(.int .i64)]]⟩
def ko:List FOut:=[⟨.str,[.cells [(.int .i64)]],none⟩]
noncomputable def q40:=qe [(149,q9 qcY qd8 q6d)] [(117,Tryz.f117)] [] 1
noncomputable def wI:=qp q40 117 Tryz.f117 true kH ko
theorem q7V:qZ Tryz.prog qa 117 (q9 kH ko wI):=sk q40 qc q8 (alc qgT aln) aln (b1 Tryz.func117) Tryz.func117
def q1B:FIn:=⟨[(.ptr 0 0),.str,.str],[.cells [(.int .i64)]]⟩
def q1u:List FOut:=[⟨.str,[.cells [(.int .i64)]],none⟩]
noncomputable def qds:=qe [(149,q9 qcY qd8 q6d),(117,q9 kH ko wI)] [(120,Tryz.f120)] [] 1
noncomputable def zN:=qp qds 120 Tryz.f120 true q1B q1u
theorem q4C:qZ Tryz.prog qa 120 (q9 q1B q1u zN):=sk qds qc q8 (alc qgT (alc q7V aln)) aln (b1 Tryz.func120) Tryz.func120
def q8p:FIn:=⟨[(.ptr 0 0),.str,.str,.str,.str],[.cells [(.int .i64)]]⟩
def q8m:List FOut:=[⟨(.tuple [.str,.str]),[.cells [(.int .i64)]],none⟩]
noncomputable def qiB:=qe [(111,q9 j2 j1 qg)] [(110,Tryz.f110)] [] 1
noncomputable def q2R:=qp qiB 110 Tryz.f110 true q8p q8m
theorem qdA:qZ Tryz.prog qa 110 (q9 q8p q8m q2R):=sk qiB qc q8 (alc jp aln) aln (b1 Tryz.func110) Tryz.func110
def q0j:FIn:=⟨[.str,.str,(.fn 110 [] [])],[]⟩
def q0z:List FOut:=[⟨(.tuple [.str,(.int .i64)]),[],none⟩]
noncomputable def q4J:=qe [(110,q9 q8p q8m q2R),(131,q9 wi wj qA),(133,q9 u5 u6 qV),(134,q9 q2o q2l qN)] [(109,Tryz.f109)] [] 0
noncomputable def vq:=qp q4J 109 Tryz.f109 true q0j q0z
theorem q9o:qZ Tryz.prog qa 109 (q9 q0j q0z vq):=sk q4J qc q8 (alc qdA (alc wF (alc ua (alc q1G aln)))) aln (b1 Tryz.func109) Tryz.func109
def q6g:FIn:=⟨[.str,.str],[]⟩
def q5K:List FOut:=[⟨(.tuple [.str,(.int .i64)]),[],none⟩]
noncomputable def qn4:=qe [(110,q9 q8p q8m q2R),(109,q9 q0j q0z vq)] [(84,Tryz.f84)] [] 0
noncomputable def q1c:=qp qn4 84 Tryz.f84 true q6g q5K
theorem q6A:qZ Tryz.prog qa 84 (q9 q6g q5K q1c):=sk qn4 qc q8 (alc qdA (alc q9o aln)) aln (b1 Tryz.func84) Tryz.func84
def kK:FIn:=⟨[(.ptr 0 0),(.fn 84 [] []),.str,.str],[.cells [(.int .i64)]]⟩
def kR:List FOut:=[⟨.str,[.cells [(.int .i64)]],none⟩]
noncomputable def q45:=qe [(84,q9 q6g q5K q1c)] [(117,Tryz.f117)] [] 1
noncomputable def wO:=qp q45 117 Tryz.f117 true kK kR
theorem q7L:qZ Tryz.prog qa 117 (q9 kK kR wO):=sk q45 qc q8 (alc q6A aln) aln (b1 Tryz.func117) Tryz.func117
def q1l:FIn:=⟨[(.ptr 0 0),.str,.str],[.cells [(.int .i64)]]⟩
def q1s:List FOut:=[⟨.str,[.cells [(.int .i64)]],none⟩]
noncomputable def qdE:=qe [(84,q9 q6g q5K q1c),(117,q9 kK kR wO)] [(121,Tryz.f121)] [] 1
noncomputable def qX:=qp qdE 121 Tryz.f121 true q1l q1s
theorem q4x:qZ Tryz.prog qa 121 (q9 q1l q1s qX):=sk qdE qc q8 (alc q6A (alc q7L aln)) aln (b1 Tryz.func121) Tryz.func121
def q4o:FIn:=⟨[(.ptr 0 0),(.agg [.str,.str]),(.agg [.str,.str])],[.cells [(.int .i64)]]⟩
def q4q:List FOut:=[⟨.str,[.cells [(.int .i64)]],none⟩]
noncomputable def qdH:=qe [(120,q9 q1B q1u zN),(121,q9 q1l q1s qX)] [(116,Tryz.f116)] [] 1
noncomputable def wS:=qp qdH 116 Tryz.f116 true q4o q4q
theorem q95:qZ Tryz.prog qa 116 (q9 q4o q4q wS):=sk qdH qc q8 (alc q4C (alc q4x aln)) aln (b1 Tryz.func116) Tryz.func116
def q7N:FIn:=⟨[(.ptr 0 0),.str,.str,.str,.str],[.cells [(.int .i64)]]⟩
def q8n:List FOut:=[⟨(.tuple [.str,.str]),[.cells [(.int .i64)]],none⟩]
noncomputable def qjb:=qe [(111,q9 j2 j1 qg)] [(147,Tryz.f147)] [] 1
noncomputable def q37:=qp qjb 147 Tryz.f147 true q7N q8n
theorem qdO:qZ Tryz.prog qa 147 (q9 q7N q8n q37):=sk qjb qc q8 (alc jp aln) aln (b1 Tryz.func147) Tryz.func147
def q0d:FIn:=⟨[.str,.str,(.fn 147 [] [])],[]⟩
def q0m:List FOut:=[⟨(.tuple [.str,(.int .i64)]),[],none⟩]
noncomputable def q4I:=qe [(131,q9 wi wj qA),(133,q9 u5 u6 qV),(134,q9 q2o q2l qN),(147,q9 q7N q8n q37)] [(109,Tryz.f109)] [] 0
noncomputable def vn:=qp q4I 109 Tryz.f109 true q0d q0m
theorem q8z:qZ Tryz.prog qa 109 (q9 q0d q0m vn):=sk q4I qc q8 (alc wF (alc ua (alc q1G (alc qdO aln)))) aln (b1 Tryz.func109) Tryz.func109
def qcv:FIn:=⟨[.str,.str],[]⟩
def qcj:List FOut:=[⟨(.tuple [.str,(.int .i64)]),[],none⟩]
noncomputable def qmx:=qe [(133,q9 u5 u6 qV),(147,q9 q7N q8n q37),(109,q9 q0d q0m vn)] [(118,Tryz.f118)] [] 0
noncomputable def q5L:=qp qmx 118 Tryz.f118 true qcv qcj
theorem qgR:qZ Tryz.prog qa 118 (q9 qcv qcj q5L):=sk qmx qc q8 (alc ua (alc qdO (alc q8z aln))) aln (b1 Tryz.func118) Tryz.func118
def kS:FIn:=⟨[(.ptr 0 0),(.fn 118 [] []),.str,.str],[.cells [(.int .i64)]]⟩
def kM:List FOut:=[⟨.str,[.cells [(.int .i64)]],none⟩]
noncomputable def q3H:=qe [(118,q9 qcv qcj q5L)] [(117,Tryz.f117)] [] 1
noncomputable def zQ:=qp q3H 117 Tryz.f117 true kS kM
theorem q7Z:qZ Tryz.prog qa 117 (q9 kS kM zQ):=sk q3H qc q8 (alc qgR aln) aln (b1 Tryz.func117) Tryz.func117
def q1U:FIn:=⟨[(.ptr 0 0),(.imm [.str,.str,.str]),(.agg [(.int .i64),(.int .i64),(.int .i64)])],[.cells [(.int .i64)]]⟩
def q1S:List FOut:=[⟨(.tuple [(.agg [.str,.str,.str,.str,.str]),.bool]),[.cells [(.int .i64)]],none⟩]
noncomputable def qai:=qe [(115,q9 q2Y q2X jl),(116,q9 q4o q4q wS),(118,q9 qcv qcj q5L),(119,q9 q1k q1q z6),(120,q9 q1B q1u zN),(121,q9 q1l q1s qX),(117,q9 kS kM zQ)] [(89,Tryz.f89)] [] 1
noncomputable def vT:=qp qai 89 Tryz.f89 true q1U q1S
theorem q75:qZ Tryz.prog qa 89 (q9 q1U q1S vT):=sk qai qc q8 (alc q7C (alc q95 (alc qgR (alc q4t (alc q4C (alc q4x (alc q7Z aln))))))) aln (b1 Tryz.func89) Tryz.func89
def qeO:FIn:=⟨[.str],[]⟩
def qel:List FOut:=[⟨(.tuple [(.int .i64),(.int .i64)]),[],none⟩]
noncomputable def qkY:=qe [(130,q9 jD jq qM),(176,q9 q70 q78 yZ)] [(236,Tryz.f236)] [] 0
noncomputable def q73:=qp qkY 236 Tryz.f236 true qeO qel
theorem qnM:qZ Tryz.prog qa 236 (q9 qeO qel q73):=sk qkY qc q8 (alc j4 (alc q8M aln)) aln (b1 Tryz.func236) Tryz.func236
def q2Z:FIn:=⟨[(.ptr 0 0),.str],[.cells [(.int .i64)]]⟩
def q3g:List FOut:=[⟨(.int .i64),[.cells [(.int .i64)]],none⟩]
noncomputable def qbQ:=qe [(236,q9 qeO qel q73)] [(215,Tryz.f215)] [] 1
noncomputable def zu:=qp qbQ 215 Tryz.f215 true q2Z q3g
theorem q7x:qZ Tryz.prog qa 215 (q9 q2Z q3g zu):=sk qbQ qc q8 (alc qnM aln) aln (b1 Tryz.func215) Tryz.func215
def q5S:FIn:=⟨[(.ptr 0 0),.str,.str,.str],[.cells [(.int .i64)]]⟩
def q5X:List FOut:=[⟨(.int .i64),[.cells [(.int .i64)]],none⟩]
noncomputable def qbL:=qe [(111,q9 j2 j1 qg),(160,q9 uF uH zr),(215,q9 q2Z q3g zu)] [(214,Tryz.f214)] [] 1
noncomputable def ud:=qp qbL 214 Tryz.f214 true q5S q5X
theorem qgk:qZ Tryz.prog qa 214 (q9 q5S q5X ud):=sk qbL qc q8 (alc jp (alc q12 (alc q7x aln))) aln (b1 Tryz.func214) Tryz.func214
def q6i:FIn:=⟨[.str,.str,.str,.str,.str],[]⟩
def q5Q:List FOut:=[⟨(.tuple [(.int .i64),(.int .i64)]),[],none⟩]
noncomputable def qbr:=qe [(111,q9 j2 j1 qg),(133,q9 u5 u6 qV),(134,q9 q2o q2l qN),(160,q9 uF uH zr),(182,q9 q4h q4n yi),(214,q9 q5S q5X ud),(215,q9 q2Z q3g zu)] [(183,Tryz.f183)] [] 0
noncomputable def q0e:=qp qbr 183 Tryz.f183 true q6i q5Q
theorem qgf:qZ Tryz.prog qa 183 (q9 q6i q5Q q0e):=sk qbr qc q8 (alc jp (alc ua (alc q1G (alc q12 (alc q9t (alc qgk (alc q7x aln))))))) aln (b1 Tryz.func183) Tryz.func183
def q7u:FIn:=⟨[.str,.str,.str],[]⟩
def q7i:List FOut:=[⟨(.tuple [(.int .i64),(.int .i64)]),[],none⟩]
noncomputable def qdS:=qe [(183,q9 q6i q5Q q0e)] [(150,Tryz.f150)] [] 0
noncomputable def q1t:=qp qdS 150 Tryz.f150 true q7u q7i
theorem qhd:qZ Tryz.prog qa 150 (q9 q7u q7i q1t):=sk qdS qc q8 (alc qgf aln) aln (b1 Tryz.func150) Tryz.func150
def q6k:FIn:=⟨[(.ptr 0 0),.str,.str,.str],[.cells [(.int .i64)]]⟩
def q6e:List FOut:=[⟨(.int .i64),[.cells [(.int .i64)]],none⟩]
noncomputable def qbq:=qe [(150,q9 q7u q7i q1t)] [(122,Tryz.f122)] [] 1
noncomputable def q0p:=qp qbq 122 Tryz.f122 true q6k q6e
theorem qgm:qZ Tryz.prog qa 122 (q9 q6k q6e q0p):=sk qbq qc q8 (alc qhd aln) aln (b1 Tryz.func122) Tryz.func122
def q27:FIn:=⟨[(.ptr 0 0),(.agg [.str,.str,.str]),(.agg [.str,.str,.str,.str,.str])],[.cells [(.int .i64)]]⟩
def q20:List FOut:=[⟨.bool,[.cells [(.int .i64)]],none⟩]
noncomputable def q9Y:=qe [(115,q9 q2Y q2X jl),(116,q9 q4o q4q wS),(119,q9 q1k q1q z6),(120,q9 q1B q1u zN),(121,q9 q1l q1s qX),(122,q9 q6k q6e q0p)] [(91,Tryz.f91)] [] 1
noncomputable def jS:=qp q9Y 91 Tryz.f91 true q27 q20
theorem q6Y:qZ Tryz.prog qa 91 (q9 q27 q20 jS):=sk q9Y qc q8 (alc q7C (alc q95 (alc q4t (alc q4C (alc q4x (alc qgm aln)))))) aln (b1 Tryz.func91) Tryz.func91
def wZ:FIn:=⟨[(.ptr 0 0),(.imm [.str,.str,.str]),(.agg [(.int .i64),(.int .i64),(.int .i64)])],[.cells [(.int .i64)]]⟩
def v7:List FOut:=[⟨.bool,[.cells [(.int .i64)]],none⟩]
def kI:Tmpl:={ t:=((.imm [.str,.str,.str])::(.fn 93 [] [(.ptr 4 0)])::qL 5 ((.int .i64)::(.int .i64)::qL 10 [])),h:=[.cells [(.int .i64)],.cells [(.ptr 0 0)],.cells [(.int .i64),(.int .i64),(.int .i64)],.cells [.str,.str,.str,.str,.str],.cells [(.fn 90 [] [(.ptr 1 0),(.ptr 3 0)])]],fs:=[[(.imm [.str,.str,.str]),(.fn 93 [] [(.ptr 4 0)]),.any,.any,(.blit false),(.imm [.str,.str,.str]),(.fn 93 [] [(.ptr 4 0)]),.any,.any],[(.ptr 0 0),(.imm [.str,.str,.str]),(.agg [(.int .i64),(.int .i64),(.int .i64)]),(.ptr 1 0),.any,(.ptr 2 0),(.blit false),(.ptr 3 0),.bool,(.ptr 4 0),(.tuple [(.agg [.str,.str,.str,.str,.str]),.bool]),(.ptr 0 0),(.imm [.str,.str,.str]),(.agg [(.int .i64),(.int .i64),(.int .i64)]),(.tuple [(.agg [.str,.str,.str,.str,.str]),.bool]),(.agg [.str,.str,.str,.str,.str]),.bool,(.fn 90 [] [(.ptr 1 0),(.ptr 3 0)]),.bool,(.blit true),(.imm [.str,.str,.str]),(.fn 93 [] [(.ptr 4 0)]),.any,.any,.any,.any,.any,.any,.any,.any,.any,.any],[]] }
def kD:List Out:=[⟨(.exit 0),{ t:=(qL 19 []),h:=[.cells [(.int .i64)],.cells [(.ptr 0 0)],.cells [(.int .i64),(.int .i64),(.int .i64)],.cells [.str,.str,.str,.str,.str],.cells [(.fn 90 [] [(.ptr 1 0),(.ptr 3 0)])]],fs:=[[(.imm [.str,.str,.str]),(.fn 93 [] [(.ptr 4 0)]),.any,.any,(.blit false),(.imm [.str,.str,.str]),(.fn 93 [] [(.ptr 4 0)]),.any,.any],[(.ptr 0 0),(.imm [.str,.str,.str]),(.agg [(.int .i64),(.int .i64),(.int .i64)]),(.ptr 1 0),.any,(.ptr 2 0),(.blit false),(.ptr 3 0),.bool,(.ptr 4 0),(.tuple [(.agg [.str,.str,.str,.str,.str]),.bool]),(.ptr 0 0),(.imm [.str,.str,.str]),(.agg [(.int .i64),(.int .i64),(.int .i64)]),(.tuple [(.agg [.str,.str,.str,.str,.str]),.bool]),(.agg [.str,.str,.str,.str,.str]),.bool,(.fn 90 [] [(.ptr 1 0),(.ptr 3 0)]),.bool,(.blit true),(.imm [.str,.str,.str]),(.fn 93 [] [(.ptr 4 0)]),.any,.any,.any,.any,.any,.any,.any,.any,.any,.any],[]] }⟩,⟨.ret,{ t:=(qL 4 ((.int .i64)::qL 14 [])),h:=[.cells [(.int .i64)],.cells [(.ptr 0 0)],.cells [(.int .i64),(.int .i64),(.int .i64)],.cells [.str,.str,.str,.str,.str],.cells [(.fn 90 [] [(.ptr 1 0),(.ptr 3 0)])]],fs:=[[(.imm [.str,.str,.str]),(.fn 93 [] [(.ptr 4 0)]),.any,.any,(.blit false),(.imm [.str,.str,.str]),(.fn 93 [] [(.ptr 4 0)]),.any,.any],[(.ptr 0 0),(.imm [.str,.str,.str]),(.agg [(.int .i64),(.int .i64),(.int .i64)]),(.ptr 1 0),.any,(.ptr 2 0),(.blit false),(.ptr 3 0),.bool,(.ptr 4 0),(.tuple [(.agg [.str,.str,.str,.str,.str]),.bool]),(.ptr 0 0),(.imm [.str,.str,.str]),(.agg [(.int .i64),(.int .i64),(.int .i64)]),(.tuple [(.agg [.str,.str,.str,.str,.str]),.bool]),(.agg [.str,.str,.str,.str,.str]),.bool,(.fn 90 [] [(.ptr 1 0),(.ptr 3 0)]),.bool,(.blit true),(.imm [.str,.str,.str]),(.fn 93 [] [(.ptr 4 0)]),.any,.any,.any,.any,.any,.any,.any,.any,.any,.any],[]] }⟩]
noncomputable def jy:=qe [(89,q9 q1U q1S vT),(91,q9 q27 q20 jS)] [(61,Tryz.f61),(90,Tryz.f90),(92,Tryz.f92),(93,Tryz.f93),(123,Tryz.f123)] [] 1
noncomputable def wJ:=yk jy 123 Tryz.f123 3 kI kD
theorem q7U:qt Tryz.prog qa jy.nimp (qC Tryz.prog jy.iter 123) (zW Tryz.f123 3) (qm kI kD (qj wJ)):=
 gk jy qc q8 (alc q75 (alc q6Y aln)) aln (alc (bk Tryz.func61) (alc (bk Tryz.func90) (alc (bk Tryz.func92) (alc (bk Tryz.func93) (alc (bk Tryz.func123) aln))))) Tryz.func123
noncomputable def q8G:=qe [(89,q9 q1U q1S vT),(91,q9 q27 q20 jS)] [(61,Tryz.f61),(90,Tryz.f90),(92,Tryz.f92),(93,Tryz.f93),(123,Tryz.f123)] [((123,3),qm kI kD (qj wJ))] 1
noncomputable def zl:=qp q8G 61 Tryz.f61 true wZ v7
theorem jc:qZ Tryz.prog qa 61 (q9 wZ v7 zl):=sk q8G qc q8 (alc q75 (alc q6Y aln)) (alc (lk Tryz.func123 q7U) aln) (alc (bk Tryz.func61) (alc (bk Tryz.func90) (alc (bk Tryz.func92) (alc (bk Tryz.func93) (alc (bk Tryz.func123) aln))))) Tryz.func61
def zh:FIn:=⟨[(.ptr 0 0),(.imm [.str,.str,.str])],[.cells [(.int .i64)]]⟩
def ze:List FOut:=[⟨(.tuple [(.agg [(.int .i64),(.int .i64),(.int .i64)]),.bool]),[.cells [(.int .i64)]],none⟩]
def q0n:Tmpl:={ t:=(.yld::(.ptr 5 0)::qL 6 ((.int .i64)::(.int .i64)::qL 35 [])),h:=[.cells [(.int .i64)],.cells [(.ptr 0 0)],.cells [(.imm [.str,.str,.str])],.cells [(.int .i64),(.int .i64),(.int .i64)],.cells [.bool],.cells [(.int .i64)]],fs:=[[.any,.any,(.ptr 1 0),(.ptr 2 0),(.ptr 3 0),(.ptr 4 0),.any,.any,.any,(.fn 129 [] [(.ptr 5 0)]),.any,.any,.any,.any,.any,.any,.any],[]] }
def q0b:List Out:=[⟨(.exit 0),{ t:=(.yld::(.ptr 5 0)::qL 43 []),h:=[.cells [(.int .i64)],.cells [(.ptr 0 0)],.cells [(.imm [.str,.str,.str])],.cells [(.int .i64),(.int .i64),(.int .i64)],.cells [.bool],.cells [(.int .i64)]],fs:=[[.any,.any,(.ptr 1 0),(.ptr 2 0),(.ptr 3 0),(.ptr 4 0),.any,.any,.any,(.fn 129 [] [(.ptr 5 0)]),.any,.any,.any,.any,.any,.any,.any],[]] }⟩,⟨.ret,{ t:=(qL 45 []),h:=[.cells [(.int .i64)],.cells [(.ptr 0 0)],.cells [(.imm [.str,.str,.str])],.cells [(.int .i64),(.int .i64),(.int .i64)],.cells [.bool],.cells [(.int .i64)]],fs:=[[.any,.any,(.ptr 1 0),(.ptr 2 0),(.ptr 3 0),(.ptr 4 0),.any,.any,.any,(.fn 129 [] [(.ptr 5 0)]),.any,.any,.any,.any,.any,.any,.any],[]],pend:=(.some .ret) }⟩]
noncomputable def yd:Env:={ tt:=q5O,glob:=qa,spec:=[(61,q9 wZ v7 zl)],body:=[(82,Tryz.f82),(106,Tryz.f106),(129,Tryz.f129)],loops:=[],nimp:=1,iter:=[(129,82,3)] }
noncomputable def vr:=qrM yd (some (82,Tryz.f82,3)) 129 Tryz.f129 2 q0n q0b
theorem q97:qt Tryz.prog qa yd.nimp (qC Tryz.prog yd.iter 129) (zW Tryz.f129 2) (qm q0n q0b (qj vr)):=
 q6N (E:=yd) qc ⟨uQ q8,(alc jc aln),aln,(alc (bk Tryz.func82) (alc (bk Tryz.func106) (alc (bk Tryz.func129) aln)))⟩ Tryz.func129 (by kernel_rfl) (y:=some (82,Tryz.f82,3)) ⟨Tryz.func82,by kernel_rfl⟩ (by kernel_rfl) (by kernel_rfl) (fun _=>rfl)
def ky:Tmpl:={ t:=(.yld::(.ptr 5 0)::.any::.any::(.int .i64)::(.int .i64)::qL 13 ((.int .i64)::(.int .i64)::qL 9 ((.vec 6)::(.int .i64)::(.int .i64)::qL 12 []))),h:=[.cells [(.int .i64)],.cells [(.ptr 0 0)],.cells [(.imm [.str,.str,.str])],.cells [(.int .i64),(.int .i64),(.int .i64)],.cells [.bool],.cells [(.int .i64)],.vec 3 [(.int .i64)]],fs:=[[.any,.any,(.ptr 1 0),(.ptr 2 0),(.ptr 3 0),(.ptr 4 0),.any,.any,.any,(.fn 129 [] [(.ptr 5 0)]),.any,.any,.any,.any,.any,.any,.any],[]] }
def kE:List Out:=[⟨(.exit 6),{ t:=(.yld::(.ptr 5 0)::.any::.any::(.int .i64)::(.int .i64)::qL 13 ((.int .i64)::(.int .i64)::qL 24 [])),h:=[.cells [(.int .i64)],.cells [(.ptr 0 0)],.cells [(.imm [.str,.str,.str])],.cells [(.int .i64),(.int .i64),(.int .i64)],.cells [.bool],.cells [(.int .i64)]],fs:=[[.any,.any,(.ptr 1 0),(.ptr 2 0),(.ptr 3 0),(.ptr 4 0),.any,.any,.any,(.fn 129 [] [(.ptr 5 0)]),.any,.any,.any,.any,.any,.any,.any],[]] }⟩,⟨.ret,{ t:=(qL 45 []),h:=[.cells [(.int .i64)],.cells [(.ptr 0 0)],.cells [(.imm [.str,.str,.str])],.cells [(.int .i64),(.int .i64),(.int .i64)],.cells [.bool],.cells [(.int .i64)]],fs:=[[.any,.any,(.ptr 1 0),(.ptr 2 0),(.ptr 3 0),(.ptr 4 0),.any,.any,.any,(.fn 129 [] [(.ptr 5 0)]),.any,.any,.any,.any,.any,.any,.any],[]],pend:=(.some .ret) }⟩]
noncomputable def jx:Env:={ tt:=q5O,glob:=qa,spec:=[(61,q9 wZ v7 zl)],body:=[(82,Tryz.f82),(106,Tryz.f106),(129,Tryz.f129)],loops:=[],nimp:=1,iter:=[(129,82,3)] }
noncomputable def wP:=qrM jx (some (82,Tryz.f82,3)) 129 Tryz.f129 20 ky kE
theorem q8q:qt Tryz.prog qa jx.nimp (qC Tryz.prog jx.iter 129) (zW Tryz.f129 20) (qm ky kE (qj wP)):=
 q6N (E:=jx) qc ⟨uQ q8,(alc jc aln),aln,(alc (bk Tryz.func82) (alc (bk Tryz.func106) (alc (bk Tryz.func129) aln)))⟩ Tryz.func129 (by kernel_rfl) (y:=some (82,Tryz.f82,3)) ⟨Tryz.func82,by kernel_rfl⟩ (by kernel_rfl) (by kernel_rfl) (fun _=>rfl)
def kC:Tmpl:={ t:=(.yld::(.ptr 5 0)::.any::.any::(.int .i64)::(.int .i64)::qL 13 ((.int .i64)::(.int .i64)::qL 24 [])),h:=[.cells [(.int .i64)],.cells [(.ptr 0 0)],.cells [(.imm [.str,.str,.str])],.cells [(.int .i64),(.int .i64),(.int .i64)],.cells [.bool],.cells [(.int .i64)]],fs:=[[.any,.any,(.ptr 1 0),(.ptr 2 0),(.ptr 3 0),(.ptr 4 0),.any,.any,.any,(.fn 129 [] [(.ptr 5 0)]),.any,.any,.any,.any,.any,.any,.any],[]] }
def kL:List Out:=[⟨(.exit 4),{ t:=(.yld::(.ptr 5 0)::qL 17 ((.int .i64)::(.int .i64)::qL 24 [])),h:=[.cells [(.int .i64)],.cells [(.ptr 0 0)],.cells [(.imm [.str,.str,.str])],.cells [(.int .i64),(.int .i64),(.int .i64)],.cells [.bool],.cells [(.int .i64)]],fs:=[[.any,.any,(.ptr 1 0),(.ptr 2 0),(.ptr 3 0),(.ptr 4 0),.any,.any,.any,(.fn 129 [] [(.ptr 5 0)]),.any,.any,.any,.any,.any,.any,.any],[]] }⟩,⟨.ret,{ t:=(qL 45 []),h:=[.cells [(.int .i64)],.cells [(.ptr 0 0)],.cells [(.imm [.str,.str,.str])],.cells [(.int .i64),(.int .i64),(.int .i64)],.cells [.bool],.cells [(.int .i64)]],fs:=[[.any,.any,(.ptr 1 0),(.ptr 2 0),(.ptr 3 0),(.ptr 4 0),.any,.any,.any,(.fn 129 [] [(.ptr 5 0)]),.any,.any,.any,.any,.any,.any,.any],[]],pend:=(.some .ret) }⟩]
noncomputable def jt:Env:={ tt:=q5O,glob:=qa,spec:=[(61,q9 wZ v7 zl)],body:=[(82,Tryz.f82),(106,Tryz.f106),(129,Tryz.f129)],loops:=[((129,20),qm ky kE (qj wP))],nimp:=1,iter:=[(129,82,3)] }
noncomputable def wH:=qrM jt (some (82,Tryz.f82,3)) 129 Tryz.f129 15 kC kL
theorem q7T:qt Tryz.prog qa jt.nimp (qC Tryz.prog jt.iter 129) (zW Tryz.f129 15) (qm kC kL (qj wH)):=
 q6N (E:=jt) qc ⟨uQ q8,(alc jc aln),(alc (lk Tryz.func129 q8q) aln),(alc (bk Tryz.func82) (alc (bk Tryz.func106) (alc (bk Tryz.func129) aln)))⟩ Tryz.func129 (by kernel_rfl) (y:=some (82,Tryz.f82,3)) ⟨Tryz.func82,by kernel_rfl⟩ (by kernel_rfl) (by kernel_rfl) (fun _=>rfl)
def q0y:Tmpl:={ t:=(.yld::(.ptr 5 0)::qL 17 ((.int .i64)::(.int .i64)::qL 24 [])),h:=[.cells [(.int .i64)],.cells [(.ptr 0 0)],.cells [(.imm [.str,.str,.str])],.cells [(.int .i64),(.int .i64),(.int .i64)],.cells [.bool],.cells [(.int .i64)]],fs:=[[.any,.any,(.ptr 1 0),(.ptr 2 0),(.ptr 3 0),(.ptr 4 0),.any,.any,.any,(.fn 129 [] [(.ptr 5 0)]),.any,.any,.any,.any,.any,.any,.any],[]] }
def q0H:List Out:=[⟨(.exit 2),{ t:=(qL 45 []),h:=[.cells [(.int .i64)],.cells [(.ptr 0 0)],.cells [(.imm [.str,.str,.str])],.cells [(.int .i64),(.int .i64),(.int .i64)],.cells [.bool],.cells [(.int .i64)]],fs:=[[.any,.any,(.ptr 1 0),(.ptr 2 0),(.ptr 3 0),(.ptr 4 0),.any,.any,.any,(.fn 129 [] [(.ptr 5 0)]),.any,.any,.any,.any,.any,.any,.any],[]] }⟩,⟨.ret,{ t:=(qL 45 []),h:=[.cells [(.int .i64)],.cells [(.ptr 0 0)],.cells [(.imm [.str,.str,.str])],.cells [(.int .i64),(.int .i64),(.int .i64)],.cells [.bool],.cells [(.int .i64)]],fs:=[[.any,.any,(.ptr 1 0),(.ptr 2 0),(.ptr 3 0),(.ptr 4 0),.any,.any,.any,(.fn 129 [] [(.ptr 5 0)]),.any,.any,.any,.any,.any,.any,.any],[]],pend:=(.some .ret) }⟩]
noncomputable def jP:Env:={ tt:=q5O,glob:=qa,spec:=[(61,q9 wZ v7 zl)],body:=[(82,Tryz.f82),(106,Tryz.f106),(129,Tryz.f129)],loops:=[((129,15),qm kC kL (qj wH))],nimp:=1,iter:=[(129,82,3)] }
noncomputable def vb:=qrM jP (some (82,Tryz.f82,3)) 129 Tryz.f129 9 q0y q0H
theorem q9m:qt Tryz.prog qa jP.nimp (qC Tryz.prog jP.iter 129) (zW Tryz.f129 9) (qm q0y q0H (qj vb)):=
 q6N (E:=jP) qc ⟨uQ q8,(alc jc aln),(alc (lk Tryz.func129 q7T) aln),(alc (bk Tryz.func82) (alc (bk Tryz.func106) (alc (bk Tryz.func129) aln)))⟩ Tryz.func129 (by kernel_rfl) (y:=some (82,Tryz.f82,3)) ⟨Tryz.func82,by kernel_rfl⟩ (by kernel_rfl) (by kernel_rfl) (fun _=>rfl)
noncomputable def qap:Env:={ tt:=q5O,glob:=qa,spec:=[(61,q9 wZ v7 zl)],body:=[(82,Tryz.f82),(106,Tryz.f106),(129,Tryz.f129)],loops:=[((129,2),qm q0n q0b (qj vr)),((129,9),qm q0y q0H (qj vb))],nimp:=1,iter:=[(129,82,3)] }
noncomputable def qz:=qp qap 82 Tryz.f82 true zh ze
theorem zg:qZ Tryz.prog qa 82 (q9 zh ze qz):=sk qap qc q8 (alc jc aln) (alc (lk Tryz.func129 q97) (alc (lk Tryz.func129 q9m) aln)) (alc (bk Tryz.func82) (alc (bk Tryz.func106) (alc (bk Tryz.func129) aln))) Tryz.func82
def qaW:FIn:=⟨[(.imm [.str,.str,.str])],[]⟩
def qaR:List FOut:=[⟨(.tuple [.bool,(.agg [(.int .i64),(.int .i64),(.int .i64)]),(.int .i64)]),[],none⟩]
noncomputable def qgt:=qe [(60,q9 jG jI wg),(82,q9 zh ze qz)] [(53,Tryz.f53)] [] 0
noncomputable def q41:=qp qgt 53 Tryz.f53 true qaW qaR
theorem qkr:qZ Tryz.prog qa 53 (q9 qaW qaR q41):=sk qgt qc q8 (alc vR (alc zg aln)) aln (b1 Tryz.func53) Tryz.func53
def qeJ:FIn:=⟨[.str,.str],[]⟩
def qeb:List FOut:=[⟨(.tuple [.str,(.int .i64)]),[],none⟩]
def qaO:Tmpl:={ t:=(.str::.str::qL 11 ((.vec 0)::(.int .i64)::(.int .i64)::qL 27 [])),h:=[.vec 148 [.str]] }
def qb9:List Out:=[⟨(.exit 0),{ t:=(.str::.str::qL 41 []),h:=[] }⟩,⟨.ret,{ t:=(qL 4 (.str::(.int .i64)::qL 37 [])),h:=[] }⟩]
noncomputable def q6F:=qe [(130,q9 jD jq qM),(131,q9 wi wj qA)] [(107,Tryz.f107)] [] 0
noncomputable def q1E:=yk q6F 107 Tryz.f107 3 qaO qb9
theorem qk0:qt Tryz.prog qa q6F.nimp (qC Tryz.prog q6F.iter 107) (zW Tryz.f107 3) (qm qaO qb9 (qj q1E)):=
 gk q6F qc q8 (alc j4 (alc wF aln)) aln (b1 Tryz.func107) Tryz.func107
noncomputable def qkX:=qe [(130,q9 jD jq qM),(131,q9 wi wj qA)] [(107,Tryz.f107)] [((107,3),qm qaO qb9 (qj q1E))] 0
noncomputable def q6W:=qp qkX 107 Tryz.f107 true qeJ qeb
theorem qm8:qZ Tryz.prog qa 107 (q9 qeJ qeb q6W):=sk qkX qc q8 (alc j4 (alc wF aln)) (alc (lk Tryz.func107 qk0) aln) (b1 Tryz.func107) Tryz.func107
def qfP:FIn:=⟨[(.int .i64),(.int .i64)],[]⟩
def qfT:List FOut:=[⟨(.tuple [.str,(.int .i64)]),[],none⟩]
noncomputable def qpw:=qe [(107,q9 qeJ qeb q6W),(108,q9 q3h q38 zt)] [(83,Tryz.f83)] [] 0
noncomputable def q8s:=qp qpw 83 Tryz.f83 true qfP qfT
theorem qji:qZ Tryz.prog qa 83 (q9 qfP qfT q8s):=sk qpw qc q8 (alc qm8 (alc q10 aln)) aln (b1 Tryz.func83) Tryz.func83
def q8i:FIn:=⟨[(.int .i64)],[]⟩
def q7F:List FOut:=[⟨.str,[],none⟩]
noncomputable def qjp:=qe [(108,q9 q3h q38 zt)] [(85,Tryz.f85)] [] 0
noncomputable def q0S:=qp qjp 85 Tryz.f85 true q8i q7F
theorem qdC:qZ Tryz.prog qa 85 (q9 q8i q7F q0S):=sk qjp qc q8 (alc q10 aln) aln (b1 Tryz.func85) Tryz.func85
def q4e:FIn:=⟨[(.agg [(.imm [(.int .i64),(.int .i64),(.int .i64),(.int .i64),(.int .i64),(.int .i64),.bool]),(.imm [(.int .i64),(.int .i64),(.int .i64),(.int .i64),(.int .i64),(.int .i64),.bool])]),(.agg [(.imm [(.int .i64),(.int .i64),(.int .i64)]),(.imm [(.int .i64),(.int .i64),(.int .i64)])])],[]⟩
def q4p:List FOut:=[⟨(.imm [.str,.str,.str]),[],none⟩]
def q5m:Tmpl:={ t:=(.any::.any::.any::(.ptr 1 0)::.any::(.vec 2)::qL 10 ((.imm [(.int .i64)])::(.int .i64)::(.int .i64)::qL 47 [])),h:=[.dead,.cells [(.imm [(.int .i64),(.int .i64),(.int .i64)]),(.imm [(.int .i64),(.int .i64),(.int .i64)])],.vec 118 [.str,.str,.str]],pro:=[(5,118,[.str,.str,.str])] }
def q5B:List Out:=[⟨(.exit 0),{ t:=(qL 5 ((.vec 2)::qL 60 [])),h:=[.dead,.dead,.vec 118 [.str,.str,.str]] }⟩]
noncomputable def q24:=qe [(49,q9 yv yj zq),(83,q9 qfP qfT q8s),(84,q9 q6g q5K q1c),(85,q9 q8i q7F q0S)] [(54,Tryz.f54)] [] 0
noncomputable def jY:=yk q24 54 Tryz.f54 4 q5m q5B
theorem qev:qt Tryz.prog qa q24.nimp (qC Tryz.prog q24.iter 54) (zW Tryz.f54 4) (qm q5m q5B (qj jY)):=
 gk q24 qc q8 (alc ur (alc qji (alc q6A (alc qdC aln)))) aln (b1 Tryz.func54) Tryz.func54
noncomputable def qdw:=qe [(49,q9 yv yj zq),(83,q9 qfP qfT q8s),(84,q9 q6g q5K q1c),(85,q9 q8i q7F q0S)] [(54,Tryz.f54)] [((54,4),qm q5m q5B (qj jY))] 0
noncomputable def yq:=qp qdw 54 Tryz.f54 true q4e q4p
theorem q9p:qZ Tryz.prog qa 54 (q9 q4e q4p yq):=sk qdw qc q8 (alc ur (alc qji (alc q6A (alc qdC aln)))) (alc (lk Tryz.func54 qev) aln) (b1 Tryz.func54) Tryz.func54
def q0X:FIn:=⟨[(.agg [(.imm [(.int .i64),(.int .i64),(.int .i64),(.int .i64),(.int .i64),(.int .i64),.bool]),(.imm [(.int .i64),(.int .i64),(.int .i64),(.int .i64),(.int .i64),(.int .i64),.bool])]),(.agg [(.imm [(.int .i64),(.int .i64),(.int .i64)]),(.imm [(.int .i64),(.int .i64),(.int .i64)])])],[]⟩
def q0W:List FOut:=[⟨(.tuple [.bool,(.agg [(.int .i64),(.int .i64),(.int .i64)]),(.int .i64)]),[],none⟩]
noncomputable def q9l:=qe [(43,q9 wX wY wk),(48,q9 q0s q05 wt),(49,q9 yv yj zq),(53,q9 qaW qaR q41),(54,q9 q4e q4p yq),(42,q9 qH qI qh)] [(22,Tryz.f22)] [] 0
noncomputable def zk:=qp q9l 22 Tryz.f22 true q0X q0W
theorem q5G:qZ Tryz.prog qa 22 (q9 q0X q0W zk):=sk q9l qc q8 (alc jh (alc q3D (alc ur (alc qkr (alc q9p (alc zy aln)))))) aln (b1 Tryz.func22) Tryz.func22
def q2c:FIn:=⟨[(.imm [.str,.str,.str])],[]⟩
def q2s:List FOut:=[⟨(.tuple [(.imm [(.int .i64)]),(.int .i64)]),[],none⟩]
def yl:Tmpl:={ t:=(.any::(.ptr 0 0)::(.ptr 2 0)::.any::.any::(.vec 4)::qL 4 ((.vec 3)::(.int .i64)::(.int .i64)::qL 26 [])),h:=[.cells [(.imm [.str,.str,.str])],.cells [(.int .i64)],.cells [(.ptr 1 0)],.vec 3 [(.int .i64)],.vec 118 [.str,.str,.str]],pro:=[(5,118,[.str,.str,.str])],fs:=[[.any,(.ptr 0 0),.any,.any,.any,(.ptr 2 0),(.fn 87 [] [(.ptr 0 0),(.ptr 2 0)]),(.int .i64),(.int .i64),.any,.any,.any,.any,.any,.any,.any,.any,.any,.any,.any,.any,(.int .i64),(.int .i64),.any,.any,.any,.any,(.int .i64),(.imm [.str,.str,.str]),(.int .i64),(.blit true),.any,.any,(.fn 87 [] [(.ptr 0 0),(.ptr 2 0)]),(.int .i64),(.int .i64),(.vec 3),.any,.any,.any,.any,.any,.any,.any,.any,.any,.any,.any,.any,.any,.any,.any,.any,.any,.any,.any,.any,.any,.any,.any,.any,.any,.any,.any,.any,.any,.any,.any,.any,.any,.any,.any,.any,.any,.any,.any,.any,.any],[]] }
def yu:List Out:=[⟨(.exit 0),{ t:=(.any::.any::(.ptr 2 0)::.any::.any::(.vec 4)::qL 33 []),h:=[.cells [(.imm [.str,.str,.str])],.cells [(.int .i64)],.cells [(.ptr 1 0)],.vec 3 [(.int .i64)],.vec 118 [.str,.str,.str]],fs:=[[.any,(.ptr 0 0),.any,.any,.any,(.ptr 2 0),(.fn 87 [] [(.ptr 0 0),(.ptr 2 0)]),(.int .i64),(.int .i64),.any,.any,.any,.any,.any,.any,.any,.any,.any,.any,.any,.any,(.int .i64),(.int .i64),.any,.any,.any,.any,(.int .i64),(.imm [.str,.str,.str]),(.int .i64),(.blit true),.any,.any,(.fn 87 [] [(.ptr 0 0),(.ptr 2 0)]),(.int .i64),(.int .i64),(.vec 3),.any,.any,.any,.any,.any,.any,.any,.any,.any,.any,.any,.any,.any,.any,.any,.any,.any,.any,.any,.any,.any,.any,.any,.any,.any,.any,.any,.any,.any,.any,.any,.any,.any,.any,.any,.any,.any,.any,.any,.any,.any],[]] }⟩]
noncomputable def wT:=qe [(60,q9 jG jI wg),(82,q9 zh ze qz)] [(57,Tryz.f57),(87,Tryz.f87)] [] 0
noncomputable def zb:=yk wT 87 Tryz.f87 4 yl yu
theorem q5D:qt Tryz.prog qa wT.nimp (qC Tryz.prog wT.iter 87) (zW Tryz.f87 4) (qm yl yu (qj zb)):=
 gk wT qc q8 (alc vR (alc zg aln)) aln (alc (bk Tryz.func57) (alc (bk Tryz.func87) aln)) Tryz.func87
def q0x:Tmpl:={ t:=(.any::(.ptr 0 0)::.any::.any::.any::(.ptr 2 0)::(.fn 87 [] [(.ptr 0 0),(.ptr 2 0)])::(.int .i64)::(.int .i64)::qL 12 ((.int .i64)::(.int .i64)::qL 55 [])),h:=[.cells [(.imm [.str,.str,.str])],.cells [(.int .i64)],.cells [(.ptr 1 0)]] }
def q0g:List Out:=[⟨(.exit 2),{ t:=(.any::(.ptr 0 0)::.any::.any::.any::(.ptr 2 0)::(.fn 87 [] [(.ptr 0 0),(.ptr 2 0)])::qL 14 ((.int .i64)::(.int .i64)::qL 55 [])),h:=[.cells [(.imm [.str,.str,.str])],.cells [(.int .i64)],.cells [(.ptr 1 0)]] }⟩,⟨.ret,{ t:=(.any::.any::(.vec 6)::(.int .i64)::qL 74 []),h:=[.dead,.dead,.dead,.dead,.dead,.dead,.vec 3 [(.int .i64)]] }⟩]
noncomputable def ye:=qe [(60,q9 jG jI wg),(82,q9 zh ze qz)] [(57,Tryz.f57),(87,Tryz.f87)] [((87,4),qm yl yu (qj zb))] 0
noncomputable def vg:=yk ye 57 Tryz.f57 15 q0x q0g
theorem q9q:qt Tryz.prog qa ye.nimp (qC Tryz.prog ye.iter 57) (zW Tryz.f57 15) (qm q0x q0g (qj vg)):=
 gk ye qc q8 (alc vR (alc zg aln)) (alc (lk Tryz.func87 q5D) aln) (alc (bk Tryz.func57) (alc (bk Tryz.func87) aln)) Tryz.func57
def q14:Tmpl:={ t:=(.any::(.ptr 0 0)::.any::.any::.any::(.ptr 2 0)::(.fn 87 [] [(.ptr 0 0),(.ptr 2 0)])::qL 14 ((.int .i64)::(.int .i64)::qL 55 [])),h:=[.cells [(.imm [.str,.str,.str])],.cells [(.int .i64)],.cells [(.ptr 1 0)]] }
def q0R:List Out:=[⟨(.exit 0),{ t:=(.any::(.ptr 0 0)::.any::.any::.any::(.ptr 2 0)::(.fn 87 [] [(.ptr 0 0),(.ptr 2 0)])::qL 71 []),h:=[.cells [(.imm [.str,.str,.str])],.cells [(.int .i64)],.cells [(.ptr 1 0)]] }⟩,⟨.ret,{ t:=(.any::.any::(.vec 6)::(.int .i64)::qL 74 []),h:=[.dead,.dead,.dead,.dead,.dead,.dead,.vec 3 [(.int .i64)]] }⟩]
noncomputable def yL:=qe [(60,q9 jG jI wg),(82,q9 zh ze qz)] [(57,Tryz.f57),(87,Tryz.f87)] [((57,15),qm q0x q0g (qj vg))] 0
noncomputable def vH:=yk yL 57 Tryz.f57 9 q14 q0R
theorem q9O:qt Tryz.prog qa yL.nimp (qC Tryz.prog yL.iter 57) (zW Tryz.f57 9) (qm q14 q0R (qj vH)):=
 gk yL qc q8 (alc vR (alc zg aln)) (alc (lk Tryz.func57 q9q) aln) (alc (bk Tryz.func57) (alc (bk Tryz.func87) aln)) Tryz.func57
def ym:Tmpl:={ t:=(.any::(.ptr 0 0)::(.ptr 2 0)::.any::.any::(.vec 4)::qL 4 ((.vec 3)::(.int .i64)::(.int .i64)::qL 26 [])),h:=[.cells [(.imm [.str,.str,.str])],.cells [(.int .i64)],.cells [(.ptr 1 0)],.vec 3 [(.int .i64)],.vec 118 [.str,.str,.str]],pro:=[(5,118,[.str,.str,.str])],fs:=[[.any,(.ptr 0 0),.any,.any,.any,(.ptr 2 0),(.fn 87 [] [(.ptr 0 0),(.ptr 2 0)]),.any,.any,(.int .i64),(.int .i64),(.int .i64),.any,.any,.any,.any,.any,.any,.any,.any,.any,.any,.any,.any,.any,.any,.any,.any,.any,.any,.any,.any,.any,.any,.any,.any,.any,.any,.any,.any,.any,.any,.any,(.int .i64),(.int .i64),.any,.any,.any,.any,.any,.any,.any,.any,.any,.any,.any,.any,(.int .i64),(.imm [.str,.str,.str]),(.int .i64),(.blit true),.any,.any,(.fn 87 [] [(.ptr 0 0),(.ptr 2 0)]),(.int .i64),(.int .i64),(.int .i64),(.vec 3),.any,.any,.any,.any,.any,.any,.any,.any,.any,.any],[]] }
def yw:List Out:=[⟨(.exit 0),{ t:=(.any::.any::(.ptr 2 0)::.any::.any::(.vec 4)::qL 33 []),h:=[.cells [(.imm [.str,.str,.str])],.cells [(.int .i64)],.cells [(.ptr 1 0)],.vec 3 [(.int .i64)],.vec 118 [.str,.str,.str]],fs:=[[.any,(.ptr 0 0),.any,.any,.any,(.ptr 2 0),(.fn 87 [] [(.ptr 0 0),(.ptr 2 0)]),.any,.any,(.int .i64),(.int .i64),(.int .i64),.any,.any,.any,.any,.any,.any,.any,.any,.any,.any,.any,.any,.any,.any,.any,.any,.any,.any,.any,.any,.any,.any,.any,.any,.any,.any,.any,.any,.any,.any,.any,(.int .i64),(.int .i64),.any,.any,.any,.any,.any,.any,.any,.any,.any,.any,.any,.any,(.int .i64),(.imm [.str,.str,.str]),(.int .i64),(.blit true),.any,.any,(.fn 87 [] [(.ptr 0 0),(.ptr 2 0)]),(.int .i64),(.int .i64),(.int .i64),(.vec 3),.any,.any,.any,.any,.any,.any,.any,.any,.any,.any],[]] }⟩]
noncomputable def wV:=qe [(60,q9 jG jI wg),(82,q9 zh ze qz)] [(57,Tryz.f57),(87,Tryz.f87)] [] 0
noncomputable def z8:=yk wV 87 Tryz.f87 4 ym yw
theorem q5E:qt Tryz.prog qa wV.nimp (qC Tryz.prog wV.iter 87) (zW Tryz.f87 4) (qm ym yw (qj z8)):=
 gk wV qc q8 (alc vR (alc zg aln)) aln (alc (bk Tryz.func57) (alc (bk Tryz.func87) aln)) Tryz.func87
def q0E:Tmpl:={ t:=(.any::(.ptr 0 0)::.any::.any::.any::(.ptr 2 0)::(.fn 87 [] [(.ptr 0 0),(.ptr 2 0)])::.any::.any::(.int .i64)::(.int .i64)::(.int .i64)::qL 31 ((.int .i64)::(.int .i64)::qL 33 [])),h:=[.cells [(.imm [.str,.str,.str])],.cells [(.int .i64)],.cells [(.ptr 1 0)]] }
def q02:List Out:=[⟨(.exit 8),{ t:=(.any::(.ptr 0 0)::.any::.any::.any::(.ptr 2 0)::(.fn 87 [] [(.ptr 0 0),(.ptr 2 0)])::.any::.any::(.int .i64)::(.int .i64)::qL 32 ((.int .i64)::(.int .i64)::qL 33 [])),h:=[.cells [(.imm [.str,.str,.str])],.cells [(.int .i64)],.cells [(.ptr 1 0)]] }⟩,⟨.ret,{ t:=(.any::.any::(.vec 6)::(.int .i64)::qL 74 []),h:=[.dead,.dead,.dead,.dead,.dead,.dead,.vec 3 [(.int .i64)]] }⟩]
noncomputable def jU:=qe [(60,q9 jG jI wg),(82,q9 zh ze qz)] [(57,Tryz.f57),(87,Tryz.f87)] [((87,4),qm ym yw (qj z8))] 0
noncomputable def vt:=yk jU 57 Tryz.f57 34 q0E q02
theorem q8I:qt Tryz.prog qa jU.nimp (qC Tryz.prog jU.iter 57) (zW Tryz.f57 34) (qm q0E q02 (qj vt)):=
 gk jU qc q8 (alc vR (alc zg aln)) (alc (lk Tryz.func87 q5E) aln) (alc (bk Tryz.func57) (alc (bk Tryz.func87) aln)) Tryz.func57
def q0u:Tmpl:={ t:=(.any::(.ptr 0 0)::.any::.any::.any::(.ptr 2 0)::(.fn 87 [] [(.ptr 0 0),(.ptr 2 0)])::.any::.any::(.int .i64)::(.int .i64)::qL 32 ((.int .i64)::(.int .i64)::qL 33 [])),h:=[.cells [(.imm [.str,.str,.str])],.cells [(.int .i64)],.cells [(.ptr 1 0)]] }
def q0t:List Out:=[⟨(.exit 6),{ t:=(.any::(.ptr 0 0)::.any::.any::.any::(.ptr 2 0)::(.fn 87 [] [(.ptr 0 0),(.ptr 2 0)])::qL 36 ((.int .i64)::(.int .i64)::qL 33 [])),h:=[.cells [(.imm [.str,.str,.str])],.cells [(.int .i64)],.cells [(.ptr 1 0)]] }⟩,⟨.ret,{ t:=(.any::.any::(.vec 6)::(.int .i64)::qL 74 []),h:=[.dead,.dead,.dead,.dead,.dead,.dead,.vec 3 [(.int .i64)]] }⟩]
noncomputable def yg:=qe [(60,q9 jG jI wg),(82,q9 zh ze qz)] [(57,Tryz.f57),(87,Tryz.f87)] [((57,34),qm q0E q02 (qj vt))] 0
noncomputable def vu:=yk yg 57 Tryz.f57 29 q0u q0t
theorem q9z:qt Tryz.prog qa yg.nimp (qC Tryz.prog yg.iter 57) (zW Tryz.f57 29) (qm q0u q0t (qj vu)):=
 gk yg qc q8 (alc vR (alc zg aln)) (alc (lk Tryz.func57 q8I) aln) (alc (bk Tryz.func57) (alc (bk Tryz.func87) aln)) Tryz.func57
def q0C:Tmpl:={ t:=(.any::(.ptr 0 0)::.any::.any::.any::(.ptr 2 0)::(.fn 87 [] [(.ptr 0 0),(.ptr 2 0)])::qL 36 ((.int .i64)::(.int .i64)::qL 33 [])),h:=[.cells [(.imm [.str,.str,.str])],.cells [(.int .i64)],.cells [(.ptr 1 0)]] }
def q0h:List Out:=[⟨(.exit 4),{ t:=(qL 5 ((.ptr 2 0)::qL 72 [])),h:=[.dead,.cells [(.int .i64)],.cells [(.ptr 1 0)]] }⟩,⟨.ret,{ t:=(.any::.any::(.vec 6)::(.int .i64)::qL 74 []),h:=[.dead,.dead,.dead,.dead,.dead,.dead,.vec 3 [(.int .i64)]] }⟩]
noncomputable def jV:=qe [(60,q9 jG jI wg),(82,q9 zh ze qz)] [(57,Tryz.f57),(87,Tryz.f87)] [((57,29),qm q0u q0t (qj vu))] 0
noncomputable def vl:=yk jV 57 Tryz.f57 23 q0C q0h
theorem q9C:qt Tryz.prog qa jV.nimp (qC Tryz.prog jV.iter 57) (zW Tryz.f57 23) (qm q0C q0h (qj vl)):=
 gk jV qc q8 (alc vR (alc zg aln)) (alc (lk Tryz.func57 q9z) aln) (alc (bk Tryz.func57) (alc (bk Tryz.func87) aln)) Tryz.func57
noncomputable def q6Q:=qe [(60,q9 jG jI wg),(82,q9 zh ze qz)] [(57,Tryz.f57),(87,Tryz.f87)] [((57,9),qm q14 q0R (qj vH)),((57,23),qm q0C q0h (qj vl))] 0
noncomputable def jH:=qp q6Q 57 Tryz.f57 true q2c q2s
theorem qby:qZ Tryz.prog qa 57 (q9 q2c q2s jH):=sk q6Q qc q8 (alc vR (alc zg aln)) (alc (lk Tryz.func57 q9O) (alc (lk Tryz.func57 q9C) aln)) (alc (bk Tryz.func57) (alc (bk Tryz.func87) aln)) Tryz.func57
def q7g:FIn:=⟨[(.agg [(.imm [(.int .i64),(.int .i64),(.int .i64),(.int .i64),(.int .i64),(.int .i64),.bool]),(.imm [(.int .i64),(.int .i64),(.int .i64),(.int .i64),(.int .i64),(.int .i64),.bool])]),(.agg [(.imm [(.int .i64),(.int .i64),(.int .i64)]),(.imm [(.int .i64),(.int .i64),(.int .i64)])])],[]⟩
def q7k:List FOut:=[⟨(.tuple [(.imm [(.int .i64)]),(.int .i64)]),[],none⟩]
noncomputable def qdR:=qe [(43,q9 wX wY wk),(48,q9 q0s q05 wt),(49,q9 yv yj zq),(54,q9 q4e q4p yq),(57,q9 q2c q2s jH),(42,q9 qH qI qh)] [(24,Tryz.f24)] [] 0
noncomputable def uI:=qp qdR 24 Tryz.f24 true q7g q7k
theorem qh4:qZ Tryz.prog qa 24 (q9 q7g q7k uI):=sk qdR qc q8 (alc jh (alc q3D (alc ur (alc q9p (alc qby (alc zy aln)))))) aln (b1 Tryz.func24) Tryz.func24
def q50:FIn:=⟨[(.int .i64)],[]⟩
def q5k:List FOut:=[⟨.bool,[],none⟩]
noncomputable def qaj:=qe [] [(128,Tryz.f128)] [] 0
noncomputable def wE:=qp qaj 128 Tryz.f128 true q50 q5k
theorem qfA:qZ Tryz.prog qa 128 (q9 q50 q5k wE):=sk qaj qc q8 aln aln (b1 Tryz.func128) Tryz.func128
def q2J:FIn:=⟨[(.agg [(.int .i64),(.int .i64)])],[]⟩
def q34:List FOut:=[⟨(.int .i64),[],none⟩]
noncomputable def qc5:=qe [(128,q9 q50 q5k wE)] [(96,Tryz.f96)] [] 0
noncomputable def ub:=qp qc5 96 Tryz.f96 true q2J q34
theorem q7E:qZ Tryz.prog qa 96 (q9 q2J q34 ub):=sk qc5 qc q8 (alc qfA aln) aln (b1 Tryz.func96) Tryz.func96
def j7:FIn:=⟨[(.imm [(.int .i64),(.int .i64)])],[]⟩
def jb:List FOut:=[⟨(.int .i64),[],none⟩]
def q06:Tmpl:={ t:=(qL 14 ((.imm [(.int .i64),(.int .i64)])::(.int .i64)::(.int .i64)::qL 12 [])),h:=[] }
def q0D:List Out:=[⟨(.exit 1),{ t:=(qL 29 []),h:=[] }⟩,⟨.ret,{ t:=(.any::.any::(.int .i64)::qL 26 []),h:=[] }⟩]
noncomputable def jX:=qe [(96,q9 q2J q34 ub)] [(66,Tryz.f66)] [] 0
noncomputable def vk:=yk jX 66 Tryz.f66 8 q06 q0D
theorem q8x:qt Tryz.prog qa jX.nimp (qC Tryz.prog jX.iter 66) (zW Tryz.f66 8) (qm q06 q0D (qj vk)):=
 gk jX qc q8 (alc q7E aln) aln (b1 Tryz.func66) Tryz.func66
noncomputable def q5F:=qe [(96,q9 q2J q34 ub)] [(66,Tryz.f66)] [((66,8),qm q06 q0D (qj vk))] 0
noncomputable def zm:=qp q5F 66 Tryz.f66 true j7 jb
theorem kt:qZ Tryz.prog qa 66 (q9 j7 jb zm):=sk q5F qc q8 (alc q7E aln) (alc (lk Tryz.func66 q8x) aln) (b1 Tryz.func66) Tryz.func66
def jQ:FIn:=⟨[(.imm [(.int .i64),(.int .i64)])],[]⟩
def ya:List FOut:=[⟨(.tuple [(.agg [(.int .i64),(.int .i64)]),(.int .i64)]),[],none⟩]
def q3y:Tmpl:={ t:=(.any::.any::(.ptr 0 0)::.any::.any::(.ptr 1 0)::qL 8 ((.imm [(.int .i64),(.int .i64)])::(.int .i64)::(.int .i64)::qL 17 [])),h:=[.cells [(.int .i64),(.int .i64)],.cells [(.int .i64),(.int .i64)]] }
def q3z:List Out:=[⟨(.exit 0),{ t:=(.any::.any::(.ptr 0 0)::.any::.any::(.ptr 1 0)::qL 28 []),h:=[.cells [(.int .i64),(.int .i64)],.cells [(.int .i64),(.int .i64)]] }⟩]
noncomputable def q00:=qe [(66,q9 j7 jb zm)] [(33,Tryz.f33)] [] 0
noncomputable def vX:=yk q00 33 Tryz.f33 8 q3y q3z
theorem qcK:qt Tryz.prog qa q00.nimp (qC Tryz.prog q00.iter 33) (zW Tryz.f33 8) (qm q3y q3z (qj vX)):=
 gk q00 qc q8 (alc kt aln) aln (b1 Tryz.func33) Tryz.func33
noncomputable def qau:=qe [(66,q9 j7 jb zm)] [(33,Tryz.f33)] [((33,8),qm q3y q3z (qj vX))] 0
noncomputable def zv:=qp qau 33 Tryz.f33 true jQ ya
theorem ke:qZ Tryz.prog qa 33 (q9 jQ ya zv):=sk qau qc q8 (alc kt aln) (alc (lk Tryz.func33 qcK) aln) (b1 Tryz.func33) Tryz.func33
def qhm:FIn:=⟨[],[]⟩
def qhY:List FOut:=[⟨(.agg [(.imm [(.int .i64),(.int .i64),(.int .i64),(.int .i64),(.int .i64),(.int .i64),.bool]),(.imm [(.int .i64),(.int .i64),(.int .i64),(.int .i64),(.int .i64),(.int .i64),.bool])]),[],none⟩]
def qdk:Tmpl:={ t:=((.ptr 0 0)::(.ptr 1 0)::.any::.any::.any::(.vec 2)::(.int .i64)::(.int .i64)::qL 24 []),h:=[.cells [.nils,.nils],.cells [(.vec 3),(.vec 4)],.vec 3 [(.int .i64)],.vec 68 [(.int .i64),(.int .i64),(.int .i64),(.int .i64),(.int .i64),(.int .i64),.bool],.vec 68 [(.int .i64),(.int .i64),(.int .i64),(.int .i64),(.int .i64),(.int .i64),.bool]],prc:=[(1,0,68,[(.int .i64),(.int .i64),(.int .i64),(.int .i64),(.int .i64),(.int .i64),.bool]),(1,1,68,[(.int .i64),(.int .i64),(.int .i64),(.int .i64),(.int .i64),(.int .i64),.bool])] }
def qdh:List Out:=[⟨(.exit 0),{ t:=((.ptr 0 0)::(.ptr 1 0)::qL 30 []),h:=[.cells [.nils,.nils],.cells [(.vec 3),(.vec 4)],.dead,.vec 68 [(.int .i64),(.int .i64),(.int .i64),(.int .i64),(.int .i64),(.int .i64),.bool],.vec 68 [(.int .i64),(.int .i64),(.int .i64),(.int .i64),(.int .i64),(.int .i64),.bool]] }⟩]
noncomputable def q7Q:=qe [] [(38,Tryz.f38)] [] 0
noncomputable def q2L:=yk q7Q 38 Tryz.f38 4 qdk qdh
theorem qlr:qt Tryz.prog qa q7Q.nimp (qC Tryz.prog q7Q.iter 38) (zW Tryz.f38 4) (qm qdk qdh (qj q2L)):=
 gk q7Q qc q8 aln aln (b1 Tryz.func38) Tryz.func38
noncomputable def qlX:=qe [] [(38,Tryz.f38)] [((38,4),qm qdk qdh (qj q2L))] 0
noncomputable def q8J:=qp qlX 38 Tryz.f38 true qhm qhY
theorem qo7:qZ Tryz.prog qa 38 (q9 qhm qhY q8J):=sk qlX qc q8 aln (alc (lk Tryz.func38 qlr) aln) (b1 Tryz.func38) Tryz.func38
def q7d:FIn:=⟨[(.int .i64)],[]⟩
def q7s:List FOut:=[⟨(.agg [(.imm [(.int .i64),(.int .i64),(.int .i64)]),(.imm [(.int .i64),(.int .i64),(.int .i64)])]),[],none⟩]
noncomputable def qdL:=qe [] [(39,Tryz.f39)] [] 0
noncomputable def uL:=qp qdL 39 Tryz.f39 true q7d q7s
theorem qhQ:qZ Tryz.prog qa 39 (q9 q7d q7s uL):=sk qdL qc q8 aln aln (b1 Tryz.func39) Tryz.func39
def uM:FIn:=⟨[],[]⟩
def uR:List FOut:=[⟨.bool,[],none⟩]
noncomputable def qiZ:=qe [(12,q9 kf km zZ),(14,q9 q2d q2B vQ),(18,q9 jj jk qF),(20,q9 uN kj zw),(22,q9 q0X q0W zk),(24,q9 q7g q7k uI),(33,q9 jQ ya zv),(38,q9 qhm qhY q8J),(39,q9 q7d q7s uL)] [(11,Tryz.f11)] [] 0
noncomputable def qx:=qp qiZ 11 Tryz.f11 true uM uR
theorem uK:qZ Tryz.prog qa 11 (q9 uM uR qx):=sk qiZ qc q8 (alc q2e (alc q5b (alc kG (alc q2E (alc q5G (alc qh4 (alc ke (alc qo7 (alc qhQ aln))))))))) aln (b1 Tryz.func11) Tryz.func11
def qkg:FIn:=⟨[(.int .i64)],[]⟩
def qki:List FOut:=[⟨.bool,[],none⟩]
noncomputable def qp1:=qe [] [(59,Tryz.f59)] [] 0
noncomputable def q4R:=qp qp1 59 Tryz.f59 true qkg qki
theorem qqb:qZ Tryz.prog qa 59 (q9 qkg qki q4R):=sk qp1 qc q8 aln aln (b1 Tryz.func59) Tryz.func59
def q8b:FIn:=⟨[(.agg [(.int .i64),(.int .i64)])],[]⟩
def q84:List FOut:=[⟨.bool,[],none⟩]
noncomputable def qiI:=qe [(59,q9 qkg qki q4R)] [(27,Tryz.f27)] [] 0
noncomputable def yS:=qp qiI 27 Tryz.f27 true q8b q84
theorem qdo:qZ Tryz.prog qa 27 (q9 q8b q84 yS):=sk qiI qc q8 (alc qqb aln) aln (b1 Tryz.func27) Tryz.func27
def qaa:FIn:=⟨[(.int .i64)],[]⟩
def q9Z:List FOut:=[⟨.bool,[],none⟩]
noncomputable def ql3:=qe [] [(103,Tryz.f103)] [] 0
noncomputable def jO:=qp ql3 103 Tryz.f103 true qaa q9Z
theorem qeo:qZ Tryz.prog qa 103 (q9 qaa q9Z jO):=sk ql3 qc q8 aln aln (b1 Tryz.func103) Tryz.func103
def qcr:FIn:=⟨[(.agg [(.int .i64),(.int .i64),(.int .i64),(.int .i64),(.int .i64),(.int .i64),.bool])],[]⟩
def qcG:List FOut:=[⟨(.int .i64),[],none⟩]
noncomputable def qjx:=qe [(27,q9 q8b q84 yS),(103,q9 qaa q9Z jO)] [(76,Tryz.f76)] [] 0
noncomputable def q2U:=qp qjx 76 Tryz.f76 true qcr qcG
theorem qlx:qZ Tryz.prog qa 76 (q9 qcr qcG q2U):=sk qjx qc q8 (alc qdo (alc qeo aln)) aln (b1 Tryz.func76) Tryz.func76
def qa0:FIn:=⟨[(.agg [(.int .i64),(.int .i64),(.int .i64),(.int .i64),(.int .i64),(.int .i64),.bool]),(.agg [(.int .i64),(.int .i64),(.int .i64),(.int .i64),(.int .i64),(.int .i64),.bool])],[]⟩
def qal:List FOut:=[⟨(.int .i64),[],none⟩]
noncomputable def qkZ:=qe [(76,q9 qcr qcG q2U)] [(46,Tryz.f46)] [] 0
noncomputable def q4P:=qp qkZ 46 Tryz.f46 true qa0 qal
theorem qff:qZ Tryz.prog qa 46 (q9 qa0 qal q4P):=sk qkZ qc q8 (alc qlx aln) aln (b1 Tryz.func46) Tryz.func46
def q17:FIn:=⟨[(.agg [(.imm [(.int .i64),(.int .i64),(.int .i64),(.int .i64),(.int .i64),(.int .i64),.bool]),(.imm [(.int .i64),(.int .i64),(.int .i64),(.int .i64),(.int .i64),(.int .i64),.bool])])],[]⟩
def q1e:List FOut:=[⟨(.int .i64),[],none⟩]
def q7l:Tmpl:={ t:=(.any::(.ptr 0 0)::.any::(.int .i64)::qL 37 []),h:=[.cells [(.imm [(.int .i64),(.int .i64),(.int .i64),(.int .i64),(.int .i64),(.int .i64),.bool]),(.imm [(.int .i64),(.int .i64),(.int .i64),(.int .i64),(.int .i64),(.int .i64),.bool])]] }
def q7h:List Out:=[⟨(.exit 0),{ t:=(qL 41 []),h:=[] }⟩,⟨.ret,{ t:=(.any::.any::(.int .i64)::qL 38 []),h:=[] }⟩]
noncomputable def q4d:=qe [(46,q9 qa0 qal q4P)] [(17,Tryz.f17)] [] 0
noncomputable def q1z:=yk q4d 17 Tryz.f17 12 q7l q7h
theorem qhI:qt Tryz.prog qa q4d.nimp (qC Tryz.prog q4d.iter 17) (zW Tryz.f17 12) (qm q7l q7h (qj q1z)):=
 gk q4d qc q8 (alc qff aln) aln (b1 Tryz.func17) Tryz.func17
noncomputable def qjn:=qe [(46,q9 qa0 qal q4P)] [(17,Tryz.f17)] [((17,12),qm q7l q7h (qj q1z))] 0
noncomputable def wU:=qp qjn 17 Tryz.f17 true q17 q1e
theorem q1r:qZ Tryz.prog qa 17 (q9 q17 q1e wU):=sk qjn qc q8 (alc qff aln) (alc (lk Tryz.func17 qhI) aln) (b1 Tryz.func17) Tryz.func17
def q8h:FIn:=⟨[(.agg [(.int .i64),(.int .i64),(.int .i64),(.int .i64),(.int .i64),(.int .i64),.bool])],[]⟩
def q7P:List FOut:=[⟨(.int .i64),[],none⟩]
noncomputable def qiU:=qe [] [(75,Tryz.f75)] [] 0
noncomputable def kh:=qp qiU 75 Tryz.f75 true q8h q7P
theorem qdX:qZ Tryz.prog qa 75 (q9 q8h q7P kh):=sk qiU qc q8 aln aln (b1 Tryz.func75) Tryz.func75
def q8y:FIn:=⟨[(.agg [(.imm [(.int .i64),(.int .i64),(.int .i64),(.int .i64),(.int .i64),(.int .i64),.bool]),(.imm [(.int .i64),(.int .i64),(.int .i64),(.int .i64),(.int .i64),(.int .i64),.bool])])],[]⟩
def q99:List FOut:=[⟨(.imm [(.int .i64)]),[],none⟩]
def qdb:Tmpl:={ t:=(.any::(.ptr 0 0)::.any::(.vec 1)::(.int .i64)::qL 34 []),h:=[.cells [(.imm [(.int .i64),(.int .i64),(.int .i64),(.int .i64),(.int .i64),(.int .i64),.bool]),(.imm [(.int .i64),(.int .i64),(.int .i64),(.int .i64),(.int .i64),(.int .i64),.bool])],.vec 3 [(.int .i64)]],pro:=[(3,3,[(.int .i64)])] }
def qcP:List Out:=[⟨(.exit 0),{ t:=(.any::.any::.any::(.vec 1)::qL 35 []),h:=[.dead,.vec 3 [(.int .i64)]] }⟩]
noncomputable def q85:=qe [(75,q9 q8h q7P kh)] [(41,Tryz.f41)] [] 0
noncomputable def q2N:=yk q85 41 Tryz.f41 4 qdb qcP
theorem qle:qt Tryz.prog qa q85.nimp (qC Tryz.prog q85.iter 41) (zW Tryz.f41 4) (qm qdb qcP (qj q2N)):=
 gk q85 qc q8 (alc qdX aln) aln (b1 Tryz.func41) Tryz.func41
noncomputable def qma:=qe [(75,q9 q8h q7P kh)] [(41,Tryz.f41)] [((41,4),qm qdb qcP (qj q2N))] 0
noncomputable def q2F:=qp qma 41 Tryz.f41 true q8y q99
theorem qba:qZ Tryz.prog qa 41 (q9 q8y q99 q2F):=sk qma qc q8 (alc qdX aln) (alc (lk Tryz.func41 qle) aln) (b1 Tryz.func41) Tryz.func41
def q9E:FIn:=⟨[(.agg [(.imm [(.int .i64),(.int .i64),(.int .i64),(.int .i64),(.int .i64),(.int .i64),.bool]),(.imm [(.int .i64),(.int .i64),(.int .i64),(.int .i64),(.int .i64),(.int .i64),.bool])])],[]⟩
def q9d:List FOut:=[⟨(.tuple [(.imm [(.int .i64)]),(.int .i64)]),[],none⟩]
noncomputable def qfb:=qe [(17,q9 q17 q1e wU),(41,q9 q8y q99 q2F)] [(13,Tryz.f13)] [] 0
noncomputable def q2k:=qp qfb 13 Tryz.f13 true q9E q9d
theorem qip:qZ Tryz.prog qa 13 (q9 q9E q9d q2k):=sk qfb qc q8 (alc q1r (alc qba aln)) aln (b1 Tryz.func13) Tryz.func13
def qeA:FIn:=⟨[(.agg [(.imm [(.int .i64),(.int .i64),(.int .i64),(.int .i64),(.int .i64),(.int .i64),.bool]),(.imm [(.int .i64),(.int .i64),(.int .i64),(.int .i64),(.int .i64),(.int .i64),.bool])])],[]⟩
def qeL:List FOut:=[⟨.bool,[],none⟩]
def qb5:Tmpl:={ t:=(.any::.any::.any::(.imm [(.int .i64)])::(.int .i64)::qL 13 []),h:=[] }
def qb2:List Out:=[⟨(.exit 0),{ t:=(qL 18 []),h:=[] }⟩,⟨.ret,{ t:=(.any::.any::.bool::qL 15 []),h:=[] }⟩]
noncomputable def q6z:=qe [(41,q9 q8y q99 q2F)] [(44,Tryz.f44)] [] 0
noncomputable def kz:=yk q6z 44 Tryz.f44 4 qb5 qb2
theorem qjC:qt Tryz.prog qa q6z.nimp (qC Tryz.prog q6z.iter 44) (zW Tryz.f44 4) (qm qb5 qb2 (qj kz)):=
 gk q6z qc q8 (alc qba aln) aln (b1 Tryz.func44) Tryz.func44
noncomputable def qkN:=qe [(41,q9 q8y q99 q2F)] [(44,Tryz.f44)] [((44,4),qm qb5 qb2 (qj kz))] 0
noncomputable def q6L:=qp qkN 44 Tryz.f44 true qeA qeL
theorem qnm:qZ Tryz.prog qa 44 (q9 qeA qeL q6L):=sk qkN qc q8 (alc qba aln) (alc (lk Tryz.func44 qjC) aln) (b1 Tryz.func44) Tryz.func44
def qfu:FIn:=⟨[(.agg [(.imm [(.int .i64),(.int .i64),(.int .i64),(.int .i64),(.int .i64),(.int .i64),.bool]),(.imm [(.int .i64),(.int .i64),(.int .i64),(.int .i64),(.int .i64),(.int .i64),.bool])])],[]⟩
def qfa:List FOut:=[⟨(.tuple [.bool,(.int .i64)]),[],none⟩]
noncomputable def ql8:=qe [(17,q9 q17 q1e wU),(44,q9 qeA qeL q6L)] [(15,Tryz.f15)] [] 0
noncomputable def q6K:=qp ql8 15 Tryz.f15 true qfu qfa
theorem qlV:qZ Tryz.prog qa 15 (q9 qfu qfa q6K):=sk ql8 qc q8 (alc q1r (alc qnm aln)) aln (b1 Tryz.func15) Tryz.func15
def q1J:FIn:=⟨[(.agg [(.imm [(.int .i64),(.int .i64),(.int .i64),(.int .i64),(.int .i64),(.int .i64),.bool]),(.imm [(.int .i64),(.int .i64),(.int .i64),(.int .i64),(.int .i64),(.int .i64),.bool])])],[]⟩
def q1R:List FOut:=[⟨.bool,[],none⟩]
noncomputable def wG:=qe [(11,q9 uM uR qx),(12,q9 kf km zZ),(13,q9 q9E q9d q2k),(14,q9 q2d q2B vQ),(15,q9 qfu qfa q6K),(16,q9 yo yn zM),(17,q9 q17 q1e wU),(18,q9 jj jk qF)] [(3,Tryz.f3)] [] 0
noncomputable def jd:=qp wG 3 Tryz.f3 true q1J q1R
theorem qaK:qZ Tryz.prog qa 3 (q9 q1J q1R jd):=sk wG qc q8 (alc uK (alc q2e (alc qip (alc q5b (alc qlV (alc un (alc q1r (alc kG aln)))))))) aln (b1 Tryz.func3) Tryz.func3
def qar:FIn:=⟨[(.agg [(.int .i64),(.int .i64),(.int .i64)])],[]⟩
def qas:List FOut:=[⟨(.int .i64),[],none⟩]
noncomputable def qkM:=qe [(27,q9 q8b q84 yS),(103,q9 qaa q9Z jO)] [(79,Tryz.f79)] [] 0
noncomputable def q2y:=qp qkM 79 Tryz.f79 true qar qas
theorem qeE:qZ Tryz.prog qa 79 (q9 qar qas q2y):=sk qkM qc q8 (alc qdo (alc qeo aln)) aln (b1 Tryz.func79) Tryz.func79
def q6w:FIn:=⟨[(.agg [(.int .i64),(.int .i64),(.int .i64),(.int .i64),(.int .i64),(.int .i64),.bool]),(.int .i64)],[]⟩
def q6t:List FOut:=[⟨.bool,[],none⟩]
noncomputable def qgs:=qe [] [(80,Tryz.f80)] [] 0
noncomputable def kP:=qp qgs 80 Tryz.f80 true q6w q6t
theorem qc8:qZ Tryz.prog qa 80 (q9 q6w q6t kP):=sk qgs qc q8 aln aln (b1 Tryz.func80) Tryz.func80
def q3i:FIn:=⟨[(.agg [(.imm [(.int .i64),(.int .i64),(.int .i64),(.int .i64),(.int .i64),(.int .i64),.bool]),(.imm [(.int .i64),(.int .i64),(.int .i64),(.int .i64),(.int .i64),(.int .i64),.bool])]),(.agg [(.imm [(.int .i64),(.int .i64),(.int .i64)]),(.imm [(.int .i64),(.int .i64),(.int .i64)])])],[]⟩
def q2O:List FOut:=[⟨(.int .i64),[],none⟩]
def q7q:Tmpl:={ t:=(.any::.any::(.ptr 0 0)::(.ptr 1 0)::.any::.any::(.int .i64)::qL 76 []),h:=[.cells [(.imm [(.int .i64),(.int .i64),(.int .i64),(.int .i64),(.int .i64),(.int .i64),.bool]),(.imm [(.int .i64),(.int .i64),(.int .i64),(.int .i64),(.int .i64),(.int .i64),.bool])],.cells [(.imm [(.int .i64),(.int .i64),(.int .i64)]),(.imm [(.int .i64),(.int .i64),(.int .i64)])]] }
def q7n:List Out:=[⟨(.exit 0),{ t:=(qL 83 []),h:=[] }⟩,⟨.ret,{ t:=(qL 4 ((.int .i64)::qL 78 [])),h:=[] }⟩]
noncomputable def q4i:=qe [(17,q9 q17 q1e wU),(79,q9 qar qas q2y),(80,q9 q6w q6t kP)] [(51,Tryz.f51)] [] 0
noncomputable def q1C:=yk q4i 51 Tryz.f51 10 q7q q7n
theorem qhX:qt Tryz.prog qa q4i.nimp (qC Tryz.prog q4i.iter 51) (zW Tryz.f51 10) (qm q7q q7n (qj q1C)):=
 gk q4i qc q8 (alc q1r (alc qeE (alc qc8 aln))) aln (b1 Tryz.func51) Tryz.func51
noncomputable def qiM:=qe [(17,q9 q17 q1e wU),(79,q9 qar qas q2y),(80,q9 q6w q6t kP)] [(51,Tryz.f51)] [((51,10),qm q7q q7n (qj q1C))] 0
noncomputable def jC:=qp qiM 51 Tryz.f51 true q3i q2O
theorem q4g:qZ Tryz.prog qa 51 (q9 q3i q2O jC):=sk qiM qc q8 (alc q1r (alc qeE (alc qc8 aln))) (alc (lk Tryz.func51 qhX) aln) (b1 Tryz.func51) Tryz.func51
def qhS:FIn:=⟨[(.agg [(.imm [(.int .i64),(.int .i64),(.int .i64),(.int .i64),(.int .i64),(.int .i64),.bool]),(.imm [(.int .i64),(.int .i64),(.int .i64),(.int .i64),(.int .i64),(.int .i64),.bool])]),(.agg [(.imm [(.int .i64),(.int .i64),(.int .i64)]),(.imm [(.int .i64),(.int .i64),(.int .i64)])])],[]⟩
def qha:List FOut:=[⟨.bool,[],none⟩]
noncomputable def qmW:=qe [(51,q9 q3i q2O jC)] [(47,Tryz.f47)] [] 0
noncomputable def q9u:=qp qmW 47 Tryz.f47 true qhS qha
theorem qoi:qZ Tryz.prog qa 47 (q9 qhS qha q9u):=sk qmW qc q8 (alc q4g aln) aln (b1 Tryz.func47) Tryz.func47
def qdl:FIn:=⟨[(.agg [(.imm [(.int .i64),(.int .i64),(.int .i64),(.int .i64),(.int .i64),(.int .i64),.bool]),(.imm [(.int .i64),(.int .i64),(.int .i64),(.int .i64),(.int .i64),(.int .i64),.bool])]),(.agg [(.imm [(.int .i64),(.int .i64),(.int .i64)]),(.imm [(.int .i64),(.int .i64),(.int .i64)])])],[]⟩
def qd5:List FOut:=[⟨.bool,[],none⟩]
noncomputable def qnI:=qe [(47,q9 qhS qha q9u)] [(19,Tryz.f19)] [] 0
noncomputable def q4B:=qp qnI 19 Tryz.f19 true qdl qd5
theorem qh0:qZ Tryz.prog qa 19 (q9 qdl qd5 q4B):=sk qnI qc q8 (alc qoi aln) aln (b1 Tryz.func19) Tryz.func19
def qfo:FIn:=⟨[(.agg [(.imm [(.int .i64),(.int .i64),(.int .i64),(.int .i64),(.int .i64),(.int .i64),.bool]),(.imm [(.int .i64),(.int .i64),(.int .i64),(.int .i64),(.int .i64),(.int .i64),.bool])]),(.agg [(.imm [(.int .i64),(.int .i64),(.int .i64)]),(.imm [(.int .i64),(.int .i64),(.int .i64)])]),(.int .i64)],[]⟩
def qej:List FOut:=[⟨(.int .i64),[],none⟩]
noncomputable def qkF:=qe [] [(63,Tryz.f63)] [] 0
noncomputable def q72:=qp qkF 63 Tryz.f63 true qfo qej
theorem qn9:qZ Tryz.prog qa 63 (q9 qfo qej q72):=sk qkF qc q8 aln aln (b1 Tryz.func63) Tryz.func63
def qcw:FIn:=⟨[(.agg [(.int .i64),(.int .i64)]),(.agg [(.int .i64),(.int .i64)])],[]⟩
def qcH:List FOut:=[⟨(.agg [(.int .i64),(.int .i64)]),[],none⟩]
noncomputable def qic:=qe [] [(62,Tryz.f62)] [] 0
noncomputable def q7W:=qp qic 62 Tryz.f62 true qcw qcH
theorem qlu:qZ Tryz.prog qa 62 (q9 qcw qcH q7W):=sk qic qc q8 aln aln (b1 Tryz.func62) Tryz.func62
def qcp:FIn:=⟨[(.agg [(.int .i64),(.int .i64)]),(.agg [(.int .i64),(.int .i64)])],[]⟩
def qd0:List FOut:=[⟨(.int .i64),[],none⟩]
noncomputable def qix:=qe [] [(105,Tryz.f105)] [] 0
noncomputable def q8d:=qp qix 105 Tryz.f105 true qcp qd0
theorem qlk:qZ Tryz.prog qa 105 (q9 qcp qd0 q8d):=sk qix qc q8 aln aln (b1 Tryz.func105) Tryz.func105
def qhr:FIn:=⟨[(.agg [(.int .i64),(.int .i64)]),(.agg [(.int .i64),(.int .i64)])],[]⟩
def qhj:List FOut:=[⟨(.int .i64),[],none⟩]
noncomputable def qmB:=qe [(62,q9 qcw qcH q7W),(105,q9 qcp qd0 q8d)] [(81,Tryz.f81)] [] 0
noncomputable def q9g:=qp qmB 81 Tryz.f81 true qhr qhj
theorem qov:qZ Tryz.prog qa 81 (q9 qhr qhj q9g):=sk qmB qc q8 (alc qlu (alc qlk aln)) aln (b1 Tryz.func81) Tryz.func81
def q6v:FIn:=⟨[(.agg [(.imm [(.int .i64),(.int .i64),(.int .i64),(.int .i64),(.int .i64),(.int .i64),.bool]),(.imm [(.int .i64),(.int .i64),(.int .i64),(.int .i64),(.int .i64),(.int .i64),.bool])]),(.agg [(.imm [(.int .i64),(.int .i64),(.int .i64)]),(.imm [(.int .i64),(.int .i64),(.int .i64)])]),(.int .i64)],[]⟩
def q6x:List FOut:=[⟨.bool,[],none⟩]
noncomputable def qgV:=qe [(63,q9 qfo qej q72),(81,q9 qhr qhj q9g)] [(52,Tryz.f52)] [] 0
noncomputable def q1D:=qp qgV 52 Tryz.f52 true q6v q6x
theorem qbO:qZ Tryz.prog qa 52 (q9 q6v q6x q1D):=sk qgV qc q8 (alc qn9 (alc qov aln)) aln (b1 Tryz.func52) Tryz.func52
def q8T:FIn:=⟨[(.agg [(.imm [(.int .i64),(.int .i64),(.int .i64),(.int .i64),(.int .i64),(.int .i64),.bool]),(.imm [(.int .i64),(.int .i64),(.int .i64),(.int .i64),(.int .i64),(.int .i64),.bool])]),(.agg [(.imm [(.int .i64),(.int .i64),(.int .i64)]),(.imm [(.int .i64),(.int .i64),(.int .i64)])])],[]⟩
def q9x:List FOut:=[⟨(.tuple [(.imm [(.int .i64)]),(.int .i64)]),[],none⟩]
def q5N:Tmpl:={ t:=(.any::.any::(.ptr 0 0)::(.ptr 1 0)::.any::.any::.any::(.vec 2)::(.int .i64)::qL 23 []),h:=[.cells [(.imm [(.int .i64),(.int .i64),(.int .i64),(.int .i64),(.int .i64),(.int .i64),.bool]),(.imm [(.int .i64),(.int .i64),(.int .i64),(.int .i64),(.int .i64),(.int .i64),.bool])],.cells [(.imm [(.int .i64),(.int .i64),(.int .i64)]),(.imm [(.int .i64),(.int .i64),(.int .i64)])],.vec 3 [(.int .i64)]],pro:=[(7,3,[(.int .i64)])] }
def q69:List Out:=[⟨(.exit 0),{ t:=(qL 7 ((.vec 2)::qL 24 [])),h:=[.dead,.dead,.vec 3 [(.int .i64)]] }⟩]
noncomputable def q33:=qe [(51,q9 q3i q2O jC),(52,q9 q6v q6x q1D)] [(21,Tryz.f21)] [] 0
noncomputable def ug:=yk q33 21 Tryz.f21 8 q5N q69
theorem qgb:qt Tryz.prog qa q33.nimp (qC Tryz.prog q33.iter 21) (zW Tryz.f21 8) (qm q5N q69 (qj ug)):=
 gk q33 qc q8 (alc q4g (alc qbO aln)) aln (b1 Tryz.func21) Tryz.func21
noncomputable def qeU:=qe [(51,q9 q3i q2O jC),(52,q9 q6v q6x q1D)] [(21,Tryz.f21)] [((21,8),qm q5N q69 (qj ug))] 0
noncomputable def q2p:=qp qeU 21 Tryz.f21 true q8T q9x
theorem qiu:qZ Tryz.prog qa 21 (q9 q8T q9x q2p):=sk qeU qc q8 (alc q4g (alc qbO aln)) (alc (lk Tryz.func21 qgb) aln) (b1 Tryz.func21) Tryz.func21
def q1P:FIn:=⟨[(.agg [(.imm [(.int .i64),(.int .i64),(.int .i64),(.int .i64),(.int .i64),(.int .i64),.bool]),(.imm [(.int .i64),(.int .i64),(.int .i64),(.int .i64),(.int .i64),(.int .i64),.bool])]),(.agg [(.imm [(.int .i64),(.int .i64),(.int .i64)]),(.imm [(.int .i64),(.int .i64),(.int .i64)])])],[]⟩
def q1O:List FOut:=[⟨.bool,[],none⟩]
noncomputable def zn:=qe [(11,q9 uM uR qx),(18,q9 jj jk qF),(19,q9 qdl qd5 q4B),(20,q9 uN kj zw),(21,q9 q8T q9x q2p)] [(4,Tryz.f4)] [] 0
noncomputable def j8:=qp zn 4 Tryz.f4 true q1P q1O
theorem qb7:qZ Tryz.prog qa 4 (q9 q1P q1O j8):=sk zn qc q8 (alc uK (alc kG (alc qh0 (alc q2E (alc qiu aln))))) aln (b1 Tryz.func4) Tryz.func4
end Go.Eng

namespace Go.Eng
open Go.Proofs
def qcW:FIn:=⟨[(.agg [(.imm [(.int .i64),(.int .i64),(.int .i64),(.int .i64),(.int .i64),(.int .i64),.bool]),(.imm [(.int .i64),(.int .i64),(.int .i64),(.int .i64),(.int .i64),(.int .i64),.bool])]),(.agg [(.imm [(.int .i64),(.int .i64),(.int .i64)]),(.imm [(.int .i64),(.int .i64),(.int .i64)])])],[]⟩
def qch:List FOut:=[⟨.bool,[],none⟩]
noncomputable def qjj:=qe [(19,q9 qdl qd5 q4B),(51,q9 q3i q2O jC)] [(26,Tryz.f26)] [] 0
noncomputable def q54:=qp qjj 26 Tryz.f26 true qcW qch
theorem qlf:qZ Tryz.prog qa 26 (q9 qcW qch q54):=sk qjj qc q8 (alc qh0 (alc q4g aln)) aln (b1 Tryz.func26) Tryz.func26
def ui:FIn:=⟨[(.int .i64),(.int .i64),(.ptr 0 0),(.ptr 1 0)],[.cells [(.int .i64)],.cells [(.imm [(.int .i64),(.int .i64)])]]⟩
def uq:List FOut:=[⟨.bool,[.cells [(.int .i64)],.cells [(.imm [(.int .i64),(.int .i64)])]],none⟩]
noncomputable def q8S:=qe [] [(67,Tryz.f67)] [] 2
noncomputable def v6:=qp q8S 67 Tryz.f67 true ui uq
theorem q1I:qZ Tryz.prog qa 67 (q9 ui uq v6):=sk q8S qc q8 aln aln (b1 Tryz.func67) Tryz.func67
def zT:FIn:=⟨[(.imm [(.int .i64)]),(.fn 67 [] [(.ptr 0 0),(.ptr 1 0)])],[.cells [(.int .i64)],.cells [(.imm [(.int .i64),(.int .i64)])]]⟩
def zV:List FOut:=[⟨(.imm [(.int .i64)]),[.cells [(.int .i64)],.cells [(.imm [(.int .i64),(.int .i64)])]],none⟩]
def zF:Tmpl:={ t:=(.any::(.fn 67 [] [(.ptr 0 0),(.ptr 1 0)])::.any::.any::.any::(.vec 2)::.any::.any::(.imm [(.int .i64)])::(.int .i64)::(.int .i64)::qL 14 []),h:=[.cells [(.int .i64)],.cells [(.imm [(.int .i64),(.int .i64)])],.vec 3 [(.int .i64)]],pro:=[(5,3,[(.int .i64)])] }
def zH:List Out:=[⟨(.exit 0),{ t:=(qL 5 ((.vec 2)::qL 19 [])),h:=[.cells [(.int .i64)],.cells [(.imm [(.int .i64),(.int .i64)])],.vec 3 [(.int .i64)]] }⟩]
noncomputable def qQ:=qe [(67,q9 ui uq v6)] [(42,Tryz.f42)] [] 2
noncomputable def qw:=yk qQ 42 Tryz.f42 4 zF zH
theorem kU:qt Tryz.prog qa qQ.nimp (qC Tryz.prog qQ.iter 42) (zW Tryz.f42 4) (qm zF zH (qj qw)):=
 gk qQ qc q8 (alc q1I aln) aln (b1 Tryz.func42) Tryz.func42
noncomputable def jf:=qe [(67,q9 ui uq v6)] [(42,Tryz.f42)] [((42,4),qm zF zH (qj qw))] 2
noncomputable def qG:=qp jf 42 Tryz.f42 true zT zV
theorem q0N:qZ Tryz.prog qa 42 (q9 zT zV qG):=sk jf qc q8 (alc q1I aln) (alc (lk Tryz.func42 kU) aln) (b1 Tryz.func42) Tryz.func42
def q0r:FIn:=⟨[(.imm [(.int .i64),(.int .i64)]),(.imm [(.int .i64)])],[]⟩
def q0J:List FOut:=[⟨(.tuple [(.int .i64),(.int .i64)]),[],none⟩]
noncomputable def qbJ:=qe [(66,q9 j7 jb zm),(67,q9 ui uq v6),(42,q9 zT zV qG)] [(31,Tryz.f31)] [] 0
noncomputable def z7:=qp qbJ 31 Tryz.f31 true q0r q0J
theorem q3w:qZ Tryz.prog qa 31 (q9 q0r q0J z7):=sk qbJ qc q8 (alc kt (alc q1I (alc q0N aln))) aln (b1 Tryz.func31) Tryz.func31
def q66:FIn:=⟨[(.agg [(.int .i64),(.int .i64)]),(.int .i64)],[]⟩
def q67:List FOut:=[⟨.bool,[],none⟩]
noncomputable def qnk:=qe [] [(36,Tryz.f36)] [] 0
noncomputable def q1f:=qp qnk 36 Tryz.f36 true q66 q67
theorem q6s:qZ Tryz.prog qa 36 (q9 q66 q67 q1f):=sk qnk qc q8 aln aln (b1 Tryz.func36) Tryz.func36
def qkz:FIn:=⟨[(.int .i64)],[]⟩
def qk3:List FOut:=[⟨.bool,[],none⟩]
noncomputable def qp9:=qe [] [(69,Tryz.f69)] [] 0
noncomputable def q4K:=qp qp9 69 Tryz.f69 true qkz qk3
theorem qpY:qZ Tryz.prog qa 69 (q9 qkz qk3 q4K):=sk qp9 qc q8 aln aln (b1 Tryz.func69) Tryz.func69
def q35:FIn:=⟨[(.agg [(.int .i64),(.int .i64)])],[]⟩
def q2K:List FOut:=[⟨(.int .i64),[],none⟩]
noncomputable def qiO:=qe [(69,q9 qkz qk3 q4K)] [(35,Tryz.f35)] [] 0
noncomputable def jE:=qp qiO 35 Tryz.f35 true q35 q2K
theorem q4m:qZ Tryz.prog qa 35 (q9 q35 q2K jE):=sk qiO qc q8 (alc qpY aln) aln (b1 Tryz.func35) Tryz.func35
def q0K:FIn:=⟨[(.imm [(.int .i64),(.int .i64)])],[]⟩
def q03:List FOut:=[⟨(.int .i64),[],none⟩]
def q6c:Tmpl:={ t:=((.imm [(.int .i64),(.int .i64)])::.any::.any::(.int .i64)::qL 27 []),h:=[] }
def q5U:List Out:=[⟨(.exit 0),{ t:=(qL 31 []),h:=[] }⟩,⟨.ret,{ t:=(.any::.any::(.int .i64)::qL 28 []),h:=[] }⟩]
noncomputable def q39:=qe [(35,q9 q35 q2K jE)] [(68,Tryz.f68)] [] 0
noncomputable def q0L:=yk q39 68 Tryz.f68 9 q6c q5U
theorem qgc:qt Tryz.prog qa q39.nimp (qC Tryz.prog q39.iter 68) (zW Tryz.f68 9) (qm q6c q5U (qj q0L)):=
 gk q39 qc q8 (alc q4m aln) aln (b1 Tryz.func68) Tryz.func68
noncomputable def qed:=qe [(35,q9 q35 q2K jE)] [(68,Tryz.f68)] [((68,9),qm q6c q5U (qj q0L))] 0
noncomputable def vL:=qp qed 68 Tryz.f68 true q0K q03
theorem q21:qZ Tryz.prog qa 68 (q9 q0K q03 vL):=sk qed qc q8 (alc q4m aln) (alc (lk Tryz.func68 qgc) aln) (b1 Tryz.func68) Tryz.func68
def qbb:FIn:=⟨[(.imm [(.int .i64),(.int .i64)]),(.imm [(.int .i64)])],[]⟩
def qbl:List FOut:=[⟨(.tuple [(.int .i64),(.int .i64)]),[],none⟩]
def q60:Tmpl:={ t:=((.imm [(.int .i64),(.int .i64)])::(.imm [(.int .i64)])::qL 5 ((.int .i64)::(.int .i64)::qL 33 [])),h:=[] }
def q65:List Out:=[⟨(.exit 0),{ t:=(qL 7 ((.int .i64)::qL 34 [])),h:=[] }⟩,⟨.ret,{ t:=(qL 4 ((.int .i64)::(.int .i64)::qL 36 [])),h:=[] }⟩]
noncomputable def q32:=qe [(36,q9 q66 q67 q1f),(68,q9 q0K q03 vL)] [(32,Tryz.f32)] [] 0
noncomputable def va:=yk q32 32 Tryz.f32 11 q60 q65
theorem qgp:qt Tryz.prog qa q32.nimp (qC Tryz.prog q32.iter 32) (zW Tryz.f32 11) (qm q60 q65 (qj va)):=
 gk q32 qc q8 (alc q6s (alc q21 aln)) aln (b1 Tryz.func32) Tryz.func32
noncomputable def qgX:=qe [(36,q9 q66 q67 q1f),(68,q9 q0K q03 vL)] [(32,Tryz.f32)] [((32,11),qm q60 q65 (qj va))] 0
noncomputable def q3U:=qp qgX 32 Tryz.f32 true qbb qbl
theorem qkk:qZ Tryz.prog qa 32 (q9 qbb qbl q3U):=sk qgX qc q8 (alc q6s (alc q21 aln)) (alc (lk Tryz.func32 qgp) aln) (b1 Tryz.func32) Tryz.func32
def q8U:FIn:=⟨[(.imm [(.int .i64),(.int .i64)])],[]⟩
def q8E:List FOut:=[⟨(.tuple [(.agg [(.int .i64),(.int .i64)]),(.int .i64)]),[],none⟩]
def q61:Tmpl:={ t:=((.imm [(.int .i64),(.int .i64)])::.any::(.ptr 0 0)::.any::.any::(.ptr 1 0)::(.int .i64)::qL 31 []),h:=[.cells [(.int .i64),(.int .i64)],.cells [(.int .i64),(.int .i64)]] }
def q6j:List Out:=[⟨(.exit 0),{ t:=(.any::.any::(.ptr 0 0)::.any::.any::(.ptr 1 0)::qL 32 []),h:=[.cells [(.int .i64),(.int .i64)],.cells [(.int .i64),(.int .i64)]] }⟩]
noncomputable def q2V:=qe [(68,q9 q0K q03 vL)] [(34,Tryz.f34)] [] 0
noncomputable def uf:=yk q2V 34 Tryz.f34 8 q61 q6j
theorem qgg:qt Tryz.prog qa q2V.nimp (qC Tryz.prog q2V.iter 34) (zW Tryz.f34 8) (qm q61 q6j (qj uf)):=
 gk q2V qc q8 (alc q21 aln) aln (b1 Tryz.func34) Tryz.func34
noncomputable def qfc:=qe [(68,q9 q0K q03 vL)] [(34,Tryz.f34)] [((34,8),qm q61 q6j (qj uf))] 0
noncomputable def q2q:=qp qfc 34 Tryz.f34 true q8U q8E
theorem qie:qZ Tryz.prog qa 34 (q9 q8U q8E q2q):=sk qfc qc q8 (alc q21 aln) (alc (lk Tryz.func34 qgg) aln) (b1 Tryz.func34) Tryz.func34
def q1b:FIn:=⟨[(.imm [(.int .i64),(.int .i64)]),(.imm [(.int .i64)])],[]⟩
def q16:List FOut:=[⟨.bool,[],none⟩]
noncomputable def zd:=qe [(11,q9 uM uR qx),(31,q9 q0r q0J z7),(32,q9 qbb qbl q3U),(33,q9 jQ ya zv),(34,q9 q8U q8E q2q)] [(8,Tryz.f8)] [] 0
noncomputable def vG:=qp zd 8 Tryz.f8 true q1b q16
theorem q9G:qZ Tryz.prog qa 8 (q9 q1b q16 vG):=sk zd qc q8 (alc uK (alc q3w (alc qkk (alc ke (alc qie aln))))) aln (b1 Tryz.func8) Tryz.func8
def q1d:FIn:=⟨[(.imm [(.int .i64),(.int .i64)]),(.int .u16)],[]⟩
def q19:List FOut:=[⟨.bool,[],none⟩]
def uB:Tmpl:={ t:=((.imm [(.int .i64),(.int .i64)])::(.int .u16)::.any::.any::.any::(.ptr 0 0)::.any::(.vec 1)::(.vec 2)::(.vec 3)::qL 19 ((.imm [(.int .i64),(.int .i64)])::(.int .i64)::(.int .i64)::qL 76 [])),h:=[.cells [(.int .i64),(.int .i64)],.vec 3 [(.int .i64)],.vec 3 [(.int .i64)],.vec 3 [(.int .i64)]],pro:=[(7,3,[(.int .i64)]),(8,3,[(.int .i64)]),(9,3,[(.int .i64)])],sw:=[(7,1)],swn:=0 }
def uA:List Out:=[⟨(.exit 0),{ t:=((.imm [(.int .i64),(.int .i64)])::qL 4 ((.ptr 0 0)::.any::(.vec 1)::(.vec 2)::(.vec 3)::qL 98 [])),h:=[.cells [(.int .i64),(.int .i64)],.vec 3 [(.int .i64)],.vec 3 [(.int .i64)],.vec 3 [(.int .i64)]] }⟩,⟨.ret,{ t:=(qL 4 (.bool::qL 103 [])),h:=[] }⟩]
noncomputable def j6:=qe [(11,q9 uM uR qx),(31,q9 q0r q0J z7),(33,q9 jQ ya zv),(35,q9 q35 q2K jE),(36,q9 q66 q67 q1f)] [(9,Tryz.f9)] [] 0
noncomputable def zC:=yk j6 9 Tryz.f9 11 uB uA
theorem q7j:qt Tryz.prog qa j6.nimp (qC Tryz.prog j6.iter 9) (zW Tryz.f9 11) (qm uB uA (qj zC)):=
 gk j6 qc q8 (alc uK (alc q3w (alc ke (alc q4m (alc q6s aln))))) aln (b1 Tryz.func9) Tryz.func9
noncomputable def zf:=qe [(11,q9 uM uR qx),(31,q9 q0r q0J z7),(33,q9 jQ ya zv),(35,q9 q35 q2K jE),(36,q9 q66 q67 q1f)] [(9,Tryz.f9)] [((9,11),qm uB uA (qj zC))] 0
noncomputable def vM:=qp zf 9 Tryz.f9 true q1d q19
theorem q9H:qZ Tryz.prog qa 9 (q9 q1d q19 vM):=sk zf qc q8 (alc uK (alc q3w (alc ke (alc q4m (alc q6s aln))))) (alc (lk Tryz.func9 q7j) aln) (b1 Tryz.func9) Tryz.func9
def q1W:FIn:=⟨[(.imm [(.int .i64),(.int .i64),(.int .i64),(.int .i64),(.int .i64),(.int .i64),.bool]),(.imm [(.int .i64),(.int .i64),(.int .i64)])],[]⟩
def q1X:List FOut:=[⟨(.int .i64),[],none⟩]
def q3v:Tmpl:={ t:=((.imm [(.int .i64),(.int .i64),(.int .i64),(.int .i64),(.int .i64),(.int .i64),.bool])::(.imm [(.int .i64),(.int .i64),(.int .i64)])::qL 12 ((.imm [(.int .i64),(.int .i64),(.int .i64),(.int .i64),(.int .i64),(.int .i64),.bool])::(.int .i64)::(.int .i64)::qL 26 [])),h:=[] }
def q3r:List Out:=[⟨(.exit 0),{ t:=((.imm [(.int .i64),(.int .i64),(.int .i64),(.int .i64),(.int .i64),(.int .i64),.bool])::(.imm [(.int .i64),(.int .i64),(.int .i64)])::qL 41 []),h:=[] }⟩,⟨.ret,{ t:=(qL 4 ((.int .i64)::qL 38 [])),h:=[] }⟩]
noncomputable def kW:=qe [(72,q9 yM yQ zY),(97,q9 q4M q4S uY)] [(70,Tryz.f70)] [] 0
noncomputable def yB:=yk kW 70 Tryz.f70 6 q3v q3r
theorem qcN:qt Tryz.prog qa kW.nimp (qC Tryz.prog kW.iter 70) (zW Tryz.f70 6) (qm q3v q3r (qj yB)):=
 gk kW qc q8 (alc yp (alc q5q aln)) aln (b1 Tryz.func70) Tryz.func70
def q2u:Tmpl:={ t:=(qL 31 ((.imm [(.int .i64),(.int .i64),(.int .i64)])::(.int .i64)::(.int .i64)::qL 9 [])),h:=[] }
def q2x:List Out:=[⟨(.exit 2),{ t:=(qL 43 []),h:=[] }⟩,⟨.ret,{ t:=(qL 4 ((.int .i64)::qL 38 [])),h:=[] }⟩]
noncomputable def uP:=qe [(72,q9 yM yQ zY),(97,q9 q4M q4S uY)] [(70,Tryz.f70)] [] 0
noncomputable def jM:=yk uP 70 Tryz.f70 19 q2u q2x
theorem qcc:qt Tryz.prog qa uP.nimp (qC Tryz.prog uP.iter 70) (zW Tryz.f70 19) (qm q2u q2x (qj jM)):=
 gk uP qc q8 (alc yp (alc q5q aln)) aln (b1 Tryz.func70) Tryz.func70
noncomputable def qao:=qe [(72,q9 yM yQ zY),(97,q9 q4M q4S uY)] [(70,Tryz.f70)] [((70,6),qm q3v q3r (qj yB)),((70,19),qm q2u q2x (qj jM))] 0
noncomputable def yh:=qp qao 70 Tryz.f70 true q1W q1X
theorem q6U:qZ Tryz.prog qa 70 (q9 q1W q1X yh):=sk qao qc q8 (alc yp (alc q5q aln)) (alc (lk Tryz.func70 qcN) (alc (lk Tryz.func70 qcc) aln)) (b1 Tryz.func70) Tryz.func70
def q11:FIn:=⟨[(.agg [(.int .i64),(.int .i64),(.int .i64),(.int .i64),(.int .i64),(.int .i64),.bool,(.int .i64)]),(.int .i64)],[]⟩
def q0T:List FOut:=[⟨(.int .i64),[],none⟩]
noncomputable def q5j:=qe [(74,q9 ki uS wh)] [(99,Tryz.f99)] [] 0
noncomputable def vJ:=qp q5j 99 Tryz.f99 true q11 q0T
theorem q9L:qZ Tryz.prog qa 99 (q9 q11 q0T vJ):=sk q5j qc q8 (alc q4N aln) aln (b1 Tryz.func99) Tryz.func99
def qbm:FIn:=⟨[(.agg [(.int .i64),(.int .i64),(.int .i64),(.int .i64),(.int .i64),(.int .i64),.bool]),(.int .i64)],[]⟩
def qbd:List FOut:=[⟨.bool,[],none⟩]
noncomputable def qgU:=qe [] [(100,Tryz.f100)] [] 0
noncomputable def q3V:=qp qgU 100 Tryz.f100 true qbm qbd
theorem qjQ:qZ Tryz.prog qa 100 (q9 qbm qbd q3V):=sk qgU qc q8 aln aln (b1 Tryz.func100) Tryz.func100
def qa8:FIn:=⟨[(.agg [(.int .i64),(.int .i64),(.int .i64),(.int .i64),(.int .i64),(.int .i64),.bool]),(.agg [(.int .i64),(.int .i64),(.int .i64)])],[]⟩
def qaC:List FOut:=[⟨.bool,[],none⟩]
noncomputable def ql2:=qe [(73,q9 qfS qg1 q5T),(98,q9 qda qcz q63),(99,q9 q11 q0T vJ),(100,q9 qbm qbd q3V)] [(71,Tryz.f71)] [] 0
noncomputable def q4F:=qp ql2 71 Tryz.f71 true qa8 qaC
theorem qea:qZ Tryz.prog qa 71 (q9 qa8 qaC q4F):=sk ql2 qc q8 (alc qiv (alc qgP (alc q9L (alc qjQ aln)))) aln (b1 Tryz.func71) Tryz.func71
def q7e:FIn:=⟨[(.imm [(.int .i64),(.int .i64),(.int .i64),(.int .i64),(.int .i64),(.int .i64),.bool]),(.imm [(.int .i64),(.int .i64),(.int .i64)])],[]⟩
def q7c:List FOut:=[⟨(.tuple [(.imm [(.int .i64)]),(.int .i64)]),[],none⟩]
def q5A:Tmpl:={ t:=(.any::(.imm [(.int .i64),(.int .i64),(.int .i64)])::qL 5 ((.vec 0)::qL 8 ((.imm [(.int .i64),(.int .i64),(.int .i64),(.int .i64),(.int .i64),(.int .i64),.bool])::(.int .i64)::(.int .i64)::qL 17 []))),h:=[.vec 3 [(.int .i64)]],pro:=[(7,3,[(.int .i64)])] }
def q4X:List Out:=[⟨(.exit 0),{ t:=(qL 7 ((.vec 0)::qL 28 [])),h:=[.vec 3 [(.int .i64)]] }⟩]
noncomputable def q28:=qe [(70,q9 q1W q1X yh),(71,q9 qa8 qaC q4F)] [(37,Tryz.f37)] [] 0
noncomputable def uX:=yk q28 37 Tryz.f37 8 q5A q4X
theorem qeN:qt Tryz.prog qa q28.nimp (qC Tryz.prog q28.iter 37) (zW Tryz.f37 8) (qm q5A q4X (qj uX)):=
 gk q28 qc q8 (alc q6U (alc qea aln)) aln (b1 Tryz.func37) Tryz.func37
noncomputable def qdP:=qe [(70,q9 q1W q1X yh),(71,q9 qa8 qaC q4F)] [(37,Tryz.f37)] [((37,8),qm q5A q4X (qj uX))] 0
noncomputable def uJ:=qp qdP 37 Tryz.f37 true q7e q7c
theorem qhq:qZ Tryz.prog qa 37 (q9 q7e q7c uJ):=sk qdP qc q8 (alc q6U (alc qea aln)) (alc (lk Tryz.func37 qeN) aln) (b1 Tryz.func37) Tryz.func37
def q0i:FIn:=⟨[(.agg [(.imm [(.int .i64),(.int .i64),(.int .i64),(.int .i64),(.int .i64),(.int .i64),.bool]),(.imm [(.int .i64),(.int .i64),(.int .i64),(.int .i64),(.int .i64),(.int .i64),.bool])]),(.agg [(.imm [(.int .i64),(.int .i64),(.int .i64)]),(.imm [(.int .i64),(.int .i64),(.int .i64)])])],[]⟩
def q0M:List FOut:=[⟨.bool,[],none⟩]
noncomputable def qY:=qe [(11,q9 uM uR qx),(14,q9 q2d q2B vQ),(20,q9 uN kj zw),(22,q9 q0X q0W zk),(26,q9 qcW qch q54),(37,q9 q7e q7c uJ)] [(10,Tryz.f10)] [] 0
noncomputable def vw:=qp qY 10 Tryz.f10 true q0i q0M
theorem q8R:qZ Tryz.prog qa 10 (q9 q0i q0M vw):=sk qY qc q8 (alc uK (alc q5b (alc q2E (alc q5G (alc qlf (alc qhq aln)))))) aln (b1 Tryz.func10) Tryz.func10
end Go.Eng

