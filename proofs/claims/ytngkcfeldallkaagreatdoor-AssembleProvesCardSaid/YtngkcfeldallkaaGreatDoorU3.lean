/- Texts of the proof, merged: what the code computes, and plain laws. No statement stands here. -/
import Derived.KernelRfl
import Derived.Shelf.Strings.SlTrimAscii
import Derived.Shelf.Strings.Search2
import Derived.Shelf.Small.Strs
import Derived.Shelf.Strconv.Itoa3
import Derived.Shelf.Strconv.Atoi
import Derived.Shelf.Strings.BuilderK
import Derived.Shelf.LaysM
import Derived.Test.YtngkcfeldallkaaGreatDoorProg
import Derived.WalkKit
import Derived.BigCall
import Derived.Deep.RegionWith
import Derived.Laws.Externs
import Derived.Lib.Builder
import Derived.Lib.AppendStr
import Derived.Test.YtngkcfeldallkaaGreatDoorU2
namespace Go.Eng
inductive PK where
 | i|b|s|r
inductive PV where
 | i (n:Int)|b (x:Bool)|s (l:List UInt8)|r (l:R)
def PV.kind:PV→PK|.i _=>.i|.b _=>.b|.s _=>.s|.r _=>.r
def PV.toI:PV→Int|.i n=>n|_=>0
def PV.toB:PV→Bool|.b x=>x|_=>false
def PV.toS:PV→List UInt8|.s x=>x|_=>[]
def PV.toR:PV→R|.r x=>x|_=>[]
inductive AP where
 | any|yld
 | int (k:IntKind)|bool|str|blit (b:Bool)
 | nilp|ptr (b off:Nat)|eptr (sh:List Sh) (off:Nat)|mptr (sh:List Sh) (off:Nat)|vptr (b off:Nat)
 | nils|imm (sh:List Sh)|vec (b:Nat)
 | nilf|fn (f:FuncId) (first caps:List AP)
 | agg (l:List AP)|tuple (l:List AP)
def qI:Nat→List AP→List AP
 | 0,l=>l
 | n+1,l=>.any::qI n l
def qz7:Option (List PV)→Option (List PV)→Option (List PV)
 | some a,some b=>some (a++b)
 | _,_=>none
mutual
def AP.take:AP→AV→Option (List PV)
 | .any,_=>some []
 | .yld,.yld=>some []
 | .int k,.int k' n=>if k=k' then some [.i n] else none
 | .int k,.ilit k' n=>if k=k' then some [.i n] else none
 | .bool,.bool b=>some [.b b]
 | .bool,.blit b=>some [.b b]
 | .str,.str s=>some [.s s]
 | .blit b,.blit b'=>if b=b' then some [] else none
 | .nilp,.nilp=>some []
 | .ptr b off,.ptr b' off'=>if b=b'∧off=off' then some [] else none
 | .eptr sh off,.eptr sh' l i off'=>if Sh.beqL sh sh'=true∧off=off' then some [.r l,.i i] else none
 | .mptr _ _,.nilp=>some [.b false,.r [],.i 0]
 | .mptr sh off,.eptr sh' l i off'=>if Sh.beqL sh sh'=true∧off=off' then some [.b true,.r l,.i i] else none
 | .mptr sh off,.mptr c sh' l i off'=>if Sh.beqL sh sh'=true∧off=off' then some [.b c,.r l,.i i] else none
 | .vptr b off,.vptr b' i off'=>if b=b'∧off=off' then some [.i i] else none
 | .nils,.nils=>some []
 | .imm sh,.imm sh' l=>if Sh.beqL sh sh'=true then some [.r l] else none
 | .imm _,.nils=>some [.r []]
 | .vec b,.vec b'=>if b=b' then some [] else none
 | .nilf,.nilf=>some []
 | .fn f p q,.fn g a c=>if f=g then qz7 (AP.takeL p a) (AP.takeL q c) else none
 | .agg l,.agg a=>AP.takeL l a
 | .tuple l,.tuple a=>AP.takeL l a
 | _,_=>none
def AP.takeL:List AP→List AV→Option (List PV)
 | [],[]=>some []
 | p::l,a::azz=>qz7 (p.take a) (AP.takeL l azz)
 | _,_=>none
end
mutual
def AP.make:AP→List PV→AV×List PV
 | .any,ps=>(.undef,ps)
 | .yld,ps=>(.yld,ps)
 | .int k,.i n::ps=>(.int k n,ps)
 | .bool,.b x::ps=>(.bool x,ps)
 | .str,.s x::ps=>(.str x,ps)
 | .blit b,ps=>(.blit b,ps)
 | .nilp,ps=>(.nilp,ps)
 | .ptr b off,ps=>(.ptr b off,ps)
 | .eptr sh off,.r l::.i i::ps=>(.eptr sh l i off,ps)
 | .mptr sh off,.b c::.r l::.i i::ps=>(.mptr c sh l i off,ps)
 | .vptr b off,.i i::ps=>(.vptr b i off,ps)
 | .nils,ps=>(.nils,ps)
 | .imm sh,.r l::ps=>(.imm sh l,ps)
 | .vec b,ps=>(.vec b,ps)
 | .nilf,ps=>(.nilf,ps)
 | .fn f p q,ps=>let x:=AP.makeL p ps;let y:=AP.makeL q x.2;(.fn f x.1 y.1,y.2)
 | .agg l,ps=>let x:=AP.makeL l ps;(.agg x.1,x.2)
 | .tuple l,ps=>let x:=AP.makeL l ps;(.tuple x.1,x.2)
 | _,ps=>(.undef,ps)
def AP.makeL:List AP→List PV→List AV×List PV
 | [],ps=>([],ps)
 | p::l,ps=>let x:=p.make ps;let y:=AP.makeL l x.2;(x.1::y.1,y.2)
end
mutual
def AP.kinds:AP→List PK
 | .int _=>[.i]|.bool=>[.b]|.str=>[.s]
 | .eptr _ _=>[.r,.i]|.mptr _ _=>[.b,.r,.i]|.vptr _ _=>[.i]|.imm _=>[.r]
 | .fn _ p q=>AP.kindsL p++AP.kindsL q
 | .agg l=>AP.kindsL l
 | .tuple l=>AP.kindsL l
 | _=>[]
def AP.kindsL:List AP→List PK
 | []=>[]
 | p::l=>p.kinds++AP.kindsL l
end
theorem q3R{a b:Option (List PV)}{c:List PV}(h:qz7 a b=some c):∃x y,a=some x∧b=some y∧c=x++y:=by
 cases a<;>cases b<;>simp[qz7] at h
 exact⟨_,_,rfl,rfl,h.symm⟩
mutual
theorem AP.take_ok{X:Ctx}:∀(p:AP) (a:AV) (ps rest:List PV),p.take a=some ps→(p.make (ps++rest)).2=rest∧ps.map PV.kind=p.kinds∧∀v,Rep X a v→Rep X (p.make (ps++rest)).1 v
 | .any,a,ps,rest,h=>by simp only[AP.take,Option.some.injEq] at h;subst h;exact⟨rfl,rfl,fun v _=>.undef v⟩
 | .yld,a,ps,rest,h=>by
  cases a<;>simp only[AP.take] at h<;>first|(cases h;done)|skip
  cases h;exact⟨rfl,rfl,fun v hv=>hv⟩
 | .int k,a,ps,rest,h=>by
  cases a<;>simp only[AP.take] at h<;>first|(cases h;done)|skip
  all_goals
   split at h
   ·rename_i hk;cases h;subst hk
    refine⟨rfl,rfl,fun v hv=>?_⟩
    cases hv
    exact .int _ _
   ·cases h
 | .bool,a,ps,rest,h=>by
  cases a<;>simp only[AP.take] at h<;>first|(cases h;done)|skip
  all_goals
   cases h
   refine⟨rfl,rfl,fun v hv=>?_⟩
   cases hv
   exact .bool _
 | .str,a,ps,rest,h=>by
  cases a<;>simp only[AP.take] at h<;>first|(cases h;done)|skip
  cases h
  exact⟨rfl,rfl,fun v hv=>hv⟩
 | .blit b,a,ps,rest,h=>by
  cases a<;>simp only[AP.take] at h<;>first|(cases h;done)|skip
  split at h
  ·rename_i hb;cases h;subst hb;exact⟨rfl,rfl,fun v hv=>hv⟩
  ·cases h
 | .nilp,a,ps,rest,h=>by
  cases a<;>simp only[AP.take] at h<;>first|(cases h;done)|skip
  cases h;exact⟨rfl,rfl,fun v hv=>hv⟩
 | .ptr b off,a,ps,rest,h=>by
  cases a<;>simp only[AP.take] at h<;>first|(cases h;done)|skip
  split at h
  ·rename_i hb;cases h;obtain⟨rfl,rfl⟩:=hb;exact⟨rfl,rfl,fun v hv=>hv⟩
  ·cases h
 | .eptr sh off,a,ps,rest,h=>by
  cases a<;>simp only[AP.take] at h<;>first|(cases h;done)|skip
  split at h
  ·rename_i hb;cases h;obtain⟨hb,rfl⟩:=hb;have:=Sh.beqL_eq _ _ hb;subst this;exact⟨rfl,rfl,fun v hv=>hv⟩
  ·cases h
 | .mptr sh off,a,ps,rest,h=>by
  cases a<;>simp only[AP.take] at h<;>first|(cases h;done)|skip
  ·cases h
   refine⟨rfl,rfl,fun v hv=>?_⟩
   cases hv
   exact .mnil _ _ _ _
  ·split at h
   ·rename_i hb;cases h;obtain⟨hb,rfl⟩:=hb;have:=Sh.beqL_eq _ _ hb;subst this
    refine⟨rfl,rfl,fun v hv=>?_⟩
    cases hv with
    | eptr _ _ _ _ a h1 h2 h3 h4=>exact .mptr _ _ _ _ a h1 h2 h3 h4
   ·cases h
  ·split at h
   ·rename_i hb;cases h;obtain⟨hb,rfl⟩:=hb;have:=Sh.beqL_eq _ _ hb;subst this;exact⟨rfl,rfl,fun v hv=>hv⟩
   ·cases h
 | .vptr b off,a,ps,rest,h=>by
  cases a<;>simp only[AP.take] at h<;>first|(cases h;done)|skip
  split at h
  ·rename_i hb;cases h;obtain⟨rfl,rfl⟩:=hb;exact⟨rfl,rfl,fun v hv=>hv⟩
  ·cases h
 | .nils,a,ps,rest,h=>by
  cases a<;>simp only[AP.take] at h<;>first|(cases h;done)|skip
  cases h;exact⟨rfl,rfl,fun v hv=>hv⟩
 | .imm sh,a,ps,rest,h=>by
  cases a<;>simp only[AP.take] at h<;>first|(cases h;done)|skip
  ·cases h
   refine⟨rfl,rfl,fun v hv=>?_⟩
   cases hv
   exact .imm _ _ _ (.inl ⟨rfl,rfl⟩)
  ·split at h
   ·rename_i hb;cases h;have:=Sh.beqL_eq _ _ hb;subst this;exact⟨rfl,rfl,fun v hv=>hv⟩
   ·cases h
 | .vec b,a,ps,rest,h=>by
  cases a<;>simp only[AP.take] at h<;>first|(cases h;done)|skip
  split at h
  ·rename_i hb;cases h;subst hb;exact⟨rfl,rfl,fun v hv=>hv⟩
  ·cases h
 | .nilf,a,ps,rest,h=>by
  cases a<;>simp only[AP.take] at h<;>first|(cases h;done)|skip
  cases h;exact⟨rfl,rfl,fun v hv=>hv⟩
 | .fn f p q,a,ps,rest,h=>by
  cases a<;>simp only[AP.take] at h<;>first|(cases h;done)|skip
  rename_i g a c
  split at h
  ·rename_i hf;subst hf
   obtain⟨x,y,h1,h2,rfl⟩:=q3R h
   obtain⟨a1,a2,a3⟩:=AP.takeL_ok (X:=X) p a x (y++rest) h1
   obtain⟨b1,b2,b3⟩:=AP.takeL_ok (X:=X) q c y rest h2
   simp only[AP.make,List.append_assoc,a1,b1,AP.kinds,List.map_append,a2,b2,true_and]
   intro v hv
   cases hv with
   | fn _ _ _ vf vc g1 g2=>exact .fn _ _ _ vf vc (a3 _ g1) (b3 _ g2)
  ·cases h
 | .agg l,a,ps,rest,h=>by
  cases a<;>simp only[AP.take] at h<;>first|(cases h;done)|skip
  obtain⟨a1,a2,a3⟩:=AP.takeL_ok (X:=X) l _ ps rest h
  simp only[AP.make,a1,AP.kinds,a2,true_and]
  intro v hv
  cases hv with
  | agg _ vs g=>exact .agg _ vs (a3 _ g)
 | .tuple l,a,ps,rest,h=>by
  cases a<;>simp only[AP.take] at h<;>first|(cases h;done)|skip
  obtain⟨a1,a2,a3⟩:=AP.takeL_ok (X:=X) l _ ps rest h
  simp only[AP.make,a1,AP.kinds,a2,true_and]
  intro v hv
  cases hv with
  | tuple _ vs g=>exact .tuple _ vs (a3 _ g)
theorem AP.takeL_ok{X:Ctx}:∀(p:List AP) (a:List AV) (ps rest:List PV),AP.takeL p a=some ps→(AP.makeL p (ps++rest)).2=rest∧ps.map PV.kind=AP.kindsL p∧∀v,RepL X a v→RepL X (AP.makeL p (ps++rest)).1 v
 | [],a,ps,rest,h=>by
  cases a<;>simp only[AP.takeL] at h<;>cases h
  exact⟨rfl,rfl,fun v hv=>hv⟩
 | p::l,a,ps,rest,h=>by
  cases a with
  | nil=>simp only[AP.takeL] at h;cases h
  | cons a azz=>
   simp only[AP.takeL] at h
   obtain⟨x,y,h1,h2,rfl⟩:=q3R h
   obtain⟨a1,a2,a3⟩:=AP.take_ok (X:=X) p a x (y++rest) h1
   obtain⟨b1,b2,b3⟩:=AP.takeL_ok (X:=X) l azz y rest h2
   simp only[AP.makeL,List.append_assoc,a1,b1,AP.kindsL,List.map_append,a2,b2,true_and]
   intro v hv
   cases hv with
   | cons g1 g2=>exact .cons (a3 _ g1) (b3 _ g2)
end
def AP.takeLL:List (List AP)→List (List AV)→Option (List PV)
 | [],[]=>some []
 | p::l,a::azz=>qz7 (AP.takeL p a) (AP.takeLL l azz)
 | _,_=>none
def AP.makeLL:List (List AP)→List PV→List (List AV)×List PV
 | [],ps=>([],ps)
 | p::l,ps=>let x:=AP.makeL p ps;let y:=AP.makeLL l x.2;(x.1::y.1,y.2)
def AP.kindsLL:List (List AP)→List PK
 | []=>[]
 | p::l=>AP.kindsL p++AP.kindsLL l
theorem AP.takeLL_ok{X:Ctx}:∀(p:List (List AP)) (a:List (List AV)) (ps rest:List PV),AP.takeLL p a=some ps→(AP.makeLL p (ps++rest)).2=rest∧ps.map PV.kind=AP.kindsLL p∧∀v,RepLL X a v→RepLL X (AP.makeLL p (ps++rest)).1 v
 | [],a,ps,rest,h=>by
  cases a<;>simp only[AP.takeLL] at h<;>cases h
  exact⟨rfl,rfl,fun v hv=>hv⟩
 | p::l,a,ps,rest,h=>by
  cases a with
  | nil=>simp only[AP.takeLL] at h;cases h
  | cons a azz=>
   simp only[AP.takeLL] at h
   obtain⟨x,y,h1,h2,rfl⟩:=q3R h
   obtain⟨a1,a2,a3⟩:=AP.takeL_ok (X:=X) p a x (y++rest) h1
   obtain⟨b1,b2,b3⟩:=AP.takeLL_ok (X:=X) l azz y rest h2
   simp only[AP.makeLL,List.append_assoc,a1,b1,AP.kindsLL,List.map_append,a2,b2,true_and]
   intro v hv
   cases hv with
   | cons g1 g2=>exact .cons (a3 _ g1) (b3 _ g2)
inductive BP where
 | cells (l:List AP)|big (l:List AP) (k:IntKind) (n:Nat)|vec (e:TypeId) (sh:List Sh)|frz (e:TypeId) (sh:List Sh)|dead
def BP.take:BP→Blk→Option (List PV)
 | .cells l,.cells cs=>AP.takeL l cs
 | .big l k n,.big cs k' n' r=>if k=k'∧n=n' then qz7 (AP.takeL l cs) (some [.r r]) else none
 | .vec e sh,.vec e' sh' l=>if e=e'∧Sh.beqL sh sh'=true then some [.r l] else none
 | .frz e sh,.frz e' sh' l=>if e=e'∧Sh.beqL sh sh'=true then some [.r l] else none
 | .dead,_=>some []
 | _,_=>none
def BP.make:BP→List PV→Blk×List PV
 | .cells l,ps=>let x:=AP.makeL l ps;(.cells x.1,x.2)
 | .big l k n,ps=>let x:=AP.makeL l ps;match x.2 with
  | .r r::qs=>(.big x.1 k n r,qs)
  | qs=>(.dead,qs)
 | .vec e sh,.r l::ps=>(.vec e sh l,ps)
 | .frz e sh,.r l::ps=>(.frz e sh l,ps)
 | _,ps=>(.dead,ps)
def BP.kinds:BP→List PK
 | .cells l=>AP.kindsL l
 | .big l _ _=>AP.kindsL l++[.r]
 | .vec _ _=>[.r]
 | .frz _ _=>[.r]
 | .dead=>[]
def BP.takeL:List BP→List Blk→Option (List PV)
 | [],[]=>some []
 | p::l,b::bs=>qz7 (p.take b) (BP.takeL l bs)
 | _,_=>none
def BP.makeL:List BP→List PV→List Blk×List PV
 | [],ps=>([],ps)
 | p::l,ps=>let x:=p.make ps;let y:=BP.makeL l x.2;(x.1::y.1,y.2)
def BP.kindsL:List BP→List PK
 | []=>[]
 | p::l=>p.kinds++BP.kindsL l
def BP.isCells:BP→Bool
 | .cells _|.big _ _ _=>true
 | _=>false
theorem BP.take_ok{X:Ctx}(p:BP)(k:Blk)(ps rest:List PV)(h:p.take k=some ps):(p.make (ps++rest)).2=rest∧ps.map PV.kind=p.kinds∧Wk X k (p.make (ps++rest)).1 ∧
  (p.isCells=true→(p.make (ps++rest)).1.solid=true):=by
 cases p with
 | cells l=>
  cases k<;>simp only[BP.take] at h<;>first|(cases h;done)|skip
  obtain⟨a1,a2,a3⟩:=AP.takeL_ok (X:=X) l _ ps rest h
  simp only[BP.make,a1,BP.kinds,a2,true_and]
  exact⟨.inr (.inr (.inl ⟨_,_,rfl,rfl,a3⟩)),fun _=>rfl⟩
 | big l kk n=>
  cases k<;>simp only[BP.take] at h<;>first|(cases h;done)|skip
  split at h
  ·rename_i hb;obtain⟨rfl,rfl⟩:=hb
   obtain⟨x,y,h1,h2,rfl⟩:=q3R h
   cases h2
   rename_i cs r
   obtain⟨a1,a2,a3⟩:=AP.takeL_ok (X:=X) l _ x ([.r r]++rest) h1
   simp only[List.cons_append,List.nil_append] at a1 a3
   simp only[BP.make,List.append_assoc,a1,List.cons_append,List.nil_append,BP.kinds,List.map_append,a2,List.map_cons,List.map_nil,PV.kind,true_and]
   exact⟨.inr (.inr (.inr ⟨_,_,_,_,_,rfl,rfl,a3⟩)),fun _=>rfl⟩
  ·cases h
 | vec e sh=>
  cases k<;>simp only[BP.take] at h<;>first|(cases h;done)|skip
  split at h
  ·rename_i hb;cases h;obtain⟨rfl,hb⟩:=hb;have:=Sh.beqL_eq _ _ hb;subst this;exact⟨rfl,rfl,.inr (.inl rfl),fun h=>by cases h⟩
  ·cases h
 | frz e sh=>
  cases k<;>simp only[BP.take] at h<;>first|(cases h;done)|skip
  split at h
  ·rename_i hb;cases h;obtain⟨rfl,hb⟩:=hb;have:=Sh.beqL_eq _ _ hb;subst this;exact⟨rfl,rfl,.inr (.inl rfl),fun h=>by cases h⟩
  ·cases h
 | dead=>
  have:ps=[]:=by cases k<;>simp[BP.take] at h<;>exact h
  subst this
  exact⟨rfl,rfl,.inl rfl,fun h=>by cases h⟩
theorem BP.takeL_ok{X:Ctx}:∀(p:List BP) (k:List Blk) (ps rest:List PV),BP.takeL p k=some ps→(BP.makeL p (ps++rest)).2=rest∧ps.map PV.kind=BP.kindsL p ∧
  (BP.makeL p (ps++rest)).1.length=k.length∧p.length=k.length∧∀(b:Nat) (k':Blk),(BP.makeL p (ps++rest)).1[b]?=some k'→∃k0,k[b]?=some k0∧Wk X k0 k'∧∀q:BP,p[b]?=some q→q.isCells=true→k'.solid=true
 | [],k,ps,rest,h=>by
  cases k<;>simp only[BP.takeL] at h<;>cases h
  exact⟨rfl,rfl,rfl,rfl,fun b k' hb=>by simp[BP.makeL] at hb⟩
 | p::l,k,ps,rest,h=>by
  cases k with
  | nil=>simp only[BP.takeL] at h;cases h
  | cons k ks=>
   simp only[BP.takeL] at h
   obtain⟨x,y,h1,h2,rfl⟩:=q3R h
   obtain⟨a1,a2,a3,a4⟩:=BP.take_ok (X:=X) p k x (y++rest) h1
   obtain⟨b1,b2,b3,b4,b5⟩:=BP.takeL_ok (X:=X) l ks y rest h2
   simp only[BP.makeL,List.append_assoc,a1,b1,BP.kindsL,List.map_append,a2,b2,List.length_cons,b3,b4,true_and]
   intro b k' hb
   cases b with
   | zero=>
    simp only[List.getElem?_cons_zero,Option.some.injEq] at hb
    subst hb
    exact⟨k,rfl,a3,fun q hq hc=>by simp only[List.getElem?_cons_zero,Option.some.injEq] at hq;subst hq;exact a4 hc⟩
   | succ b=>
    simp only[List.getElem?_cons_succ] at hb ⊢
    exact b5 b k' hb
def qtY(n:Nat):Nat→Option Nat:=fun b=>if Nat.blt b n then some b else none
theorem qyN{n b b':Nat}(h:qtY n b=some b'):b'=b∧b<n:=by
 unfold qtY at h
 split at h
 ·rename_i hb;cases h;exact⟨rfl,by simpa[Nat.blt_eq] using hb⟩
 ·cases h
def Ctx.cut(X:Ctx)(n:Nat):Ctx:={ X with h:=(X.h.take n).map (Blk.ren (qtY n)) }
theorem Ctx.cut_get{X:Ctx}{n b:Nat}{k:Blk}(h:(X.cut n).h[b]?=some k):b<n∧∃k0,X.h[b]?=some k0∧k=k0.ren (qtY n):=by
 have h':((X.h.take n).map (Blk.ren (qtY n)))[b]?=some k:=h
 rw[List.getElem?_map,List.getElem?_take] at h'
 split at h'
 ·rename_i hb
  refine⟨hb,?_⟩
  cases hk:X.h[b]? with
  | none=>rw[hk] at h';cases h'
  | some k0=>rw[hk] at h';exact⟨k0,rfl,(Option.some.inj h').symm⟩
 ·cases h'
theorem qwu{B:Base}{X:Ctx}(hs:HSim B X){n:Nat}(hn:B.imps.length≤n):HSim B (X.cut n)∧Move X (X.cut n) (qtY n):=by
 have hvec:∀b sh m,(X.cut n).isVec b sh m→X.isVec b sh m:=by
  intro b sh m ⟨e,l,h1,h2⟩
  refine⟨e,l,?_,h2⟩
  rcases h1 with h1|h1
  ·obtain⟨_,k0,h3,h4⟩:=Ctx.cut_get h1
   cases k0<;>simp[Blk.ren] at h4
   obtain⟨rfl,rfl,rfl⟩:=h4;exact .inl h3
  ·obtain⟨_,k0,h3,h4⟩:=Ctx.cut_get h1
   cases k0<;>simp[Blk.ren] at h4
   obtain⟨rfl,rfl,rfl⟩:=h4;exact .inr h3
 have hm:Move X (X.cut n) (qtY n):=by
  refine Move.of (fun _ h=>h) (fun _ _=>rfl) (fun b b' hb hf=>?_)
  obtain⟨rfl,hlt⟩:=qyN hf
  exact⟨by simp[Ctx.cut];omega,rfl,hvec b',fun sh m _ k hk c T fr hc=>⟨c,T,fr,hc,rfl⟩⟩
 have hown:∀b m,(X.cut n).own b m→X.own b m:=by
  intro b m ⟨h1,k,h2,h3⟩
  obtain⟨_,k0,h4,h5⟩:=Ctx.cut_get h2
  exact⟨h1,k0,h4,by rw[h5,Blk.mut_ren] at h3;exact h3⟩
 refine⟨⟨?_,fun b b' m h h'=>hs.inj b b' m (hown _ _ h) (hown _ _ h'),fun b m h=>hs.notM b m (hown _ _ h),hs.ltM,hs.M0,hs.newM,hs.os,hs.tape,hs.output,hs.size,hs.frame,hs.imps,?_,fun b m h=>hs.fresh b m (hown _ _ h),hs.kept⟩,hm⟩
 ·intro b k hk
  obtain⟨_,k0,h1,h2⟩:=Ctx.cut_get hk
  rw[h2]
  exact yQ.move hm.toMove0 rfl (fun _ _=>rfl) (hs.blk b k0 h1)
 ·intro b hb
  obtain⟨cs,h1,h2⟩:=hs.impc b hb
  refine⟨cs.ren (qtY n),?_,by rw[Blk.solid_ren];exact h2⟩
  show ((X.h.take n).map (Blk.ren (qtY n)))[b]?=_
  rw[List.getElem?_map,List.getElem?_take,if_pos (by omega),h1]
  rfl
end Go.Eng

namespace Go.Eng
def Ex.beq:Ex→Ex→Bool
 | .normal,.normal=>true
 | .ret,.ret=>true
 | .exit i,.exit j=>Nat.beq i j
 | _,_=>false
theorem Ex.beq_eq{x y:Ex}(h:x.beq y=true):x=y:=by
 cases x<;>cases y<;>simp[Ex.beq] at h ⊢
 exact h
def peq:Option Ex→Option Ex→Bool
 | none,none=>true
 | some x,some y=>x.beq y
 | _,_=>false
theorem qDF{x y:Option Ex}(h:peq x y=true):x=y:=by
 cases x<;>cases y<;>simp[peq] at h ⊢
 exact Ex.beq_eq h
structure Tmpl where
 t:List AP
 h:List BP
 pro:List (Nat×TypeId×List Sh):=[]
 fs:List (List AP):=[[]]
 pend:Option Ex:=none
 sw:List (Nat×Nat):=[]
 swn:Nat:=0
 prc:List (Nat×Nat×TypeId×List Sh):=[]
def qwE:List (Nat×TypeId×List Sh)→St→St
 | [],st=>st
 | (i,e,sh)::l,st=>match st.t[i]? with
  | some .nils=>qwE l { st with t:=st.t.set i (.vec st.h.length),h:=st.h++[.vec e sh []] }
  | _=>qwE l st
def qlb:List (Nat×Nat×TypeId×List Sh)→St→St
 | [],st=>st
 | (i,off,e,sh)::l,st=>match st.t[i]? with
  | some (.ptr b _)=>(match st.h[b]? with
   | some (.cells cs)=>(match cs[off]? with
    | some .nils=>qlb l { st with h:=(st.h++[Blk.vec e sh []]).set b (.cells (cs.set off (.vec st.h.length))) }
    | _=>qlb l st)
   | _=>qlb l st)
  | _=>qlb l st
def qbJ(n:Nat)(h:List BP):Bool:=Nat.ble n h.length&&(h.take n).all BP.isCells
def swp(b c x:Nat):Nat:=if Nat.beq x b then c else if Nat.beq x c then b else x
def swB(b c:Nat):Nat→Option Nat:=fun x=>some (swp b c x)
def qur(b c:Nat)(h:List Blk):List Blk:=(h.set b (h.getD c .dead)).set c (h.getD b .dead)
def St.swap(b c:Nat)(st:St):St:={ t:=AV.renL (swB b c) st.t,fs:=st.fs.map (AV.renL (swB b c)),h:=(qur b c st.h).map (Blk.ren (swB b c)),pend:=st.pend }
def qDJ:AV→Option Nat
 | .ptr b _=>some b
 | .vec b=>some b
 | _=>none
def qEd(st:St)(i:Nat):Option Nat:=match Nat.blt i 1000000 with
 | true=>(st.t[i]?).bind qDJ
 | false=>match st.t[i%1000000]? with
  | some (.ptr b _)=>(match st.h[b]? with
   | some (.cells cs)=>(cs[i/1000000-1]?).bind qDJ
   | _=>none)
  | _=>none
def qn1(n:Nat):List (Nat×Nat)→St→St
 | [],st=>st
 | (i,b)::l,st=>match qEd st i with
  | some c=>(match Nat.ble n b&&Nat.ble n c&&Nat.blt b st.h.length&&Nat.blt c st.h.length&&!(Nat.beq b c) with
   | true=>qn1 n l (st.swap b c)
   | false=>qn1 n l st)
  | none=>qn1 n l st
def Tmpl.take1(tm:Tmpl)(st:St):Option (List PV):=match peq tm.pend st.pend with
 | true=>qz7 (AP.takeL tm.t (AV.renL (qtY tm.h.length) st.t)) (qz7 (AP.takeLL tm.fs (st.fs.map (AV.renL (qtY tm.h.length)))) (BP.takeL tm.h ((st.h.take tm.h.length).map (Blk.ren (qtY tm.h.length)))))
 | false=>none
def Tmpl.take(tm:Tmpl)(st:St):Option (List PV):=tm.take1 (qn1 tm.swn tm.sw (qlb tm.prc (qwE tm.pro st)))
def Tmpl.ok(n:Nat)(tm:Tmpl):Bool:=qbJ n tm.h&&(tm.sw.isEmpty||Nat.ble n tm.swn)
def Tmpl.make(tm:Tmpl)(ps:List PV):St:=let x:=AP.makeL tm.t ps;let y:=AP.makeLL tm.fs x.2;{ t:=x.1,fs:=y.1,h:=(BP.makeL tm.h y.2).1,pend:=tm.pend }
def Tmpl.kinds(tm:Tmpl):List PK:=AP.kindsL tm.t++(AP.kindsLL tm.fs++BP.kindsL tm.h)
theorem qn3{n:Nat}{h:List BP}(hc:qbJ n h=true):n≤h.length∧∀b,b<n→∃q,h[b]?=some q∧q.isCells=true:=by
 simp only[qbJ,Bool.and_eq_true,Nat.ble_eq,List.all_eq_true] at hc
 refine⟨hc.1,fun b hb=>?_⟩
 have hlt:b<h.length:=by omega
 refine⟨h[b],List.getElem?_eq_getElem hlt,hc.2 _ ?_⟩
 rw[List.mem_take_iff_getElem]
 exact⟨b,by omega,rfl⟩
theorem qnj{E:Env}{X X':Ctx}(hM:∀n,X.M n→X'.M n)(hw:X'.w=X.w)(hy:X'.y=X.y)
  (h:∀x,x∈E.glob→(∃sh l i off,x.2=.eptr sh l i off)∧qA9 X x) :
  ∀x,x∈E.glob→(∃sh l i off,x.2=.eptr sh l i off)∧qA9 X' x:=by
 intro x hx
 obtain⟨⟨sh,l,i,off,he⟩,hr⟩:=h x hx
 refine⟨⟨sh,l,i,off,he⟩,hr.move hM (fun _ _=>by rw[hw]) ?_⟩
 have hr:=hr.1
 rw[he] at hr ⊢
 exact hr.noMen rfl hM (fun _ _=>by rw[hw]) hy
theorem qk8{E:Env}{B:Base}{a:Act}:∀(l:List (Nat×TypeId×List Sh)) {X:Ctx} {st:St},Sim E B X st a→∃X',X'.w=X.w∧Sim E B X' (qwE l st) a
 | [],X,st,hs=>⟨X,rfl,hs⟩
 | (i,e,sh)::l,X,st,hs=>by
  simp only[qwE]
  split
  ·rename_i hi
   have hw:=PushW.same X
   have hk:yQ (X.pushW (.vec e sh []) none X.w) X.h.length (.vec e sh []):=.inl ⟨by simp[Ctx.pushW],rfl⟩
   have hs1:=HSim.push hs.hs hw hk
   have hx:=Ctx.push_ext hs.hs (.vec e sh []) hw
   have hsim:=hs.ext hx hs1
   obtain⟨v,g1,g2⟩:=hs.t.get i _ hi
   have hv:v=.slice none 0 0:=by cases g2;rfl
   subst hv
   have hrep:Rep (X.pushW (.vec e sh []) none X.w) (.vec st.h.length) (.slice none 0 0):=by
    rw[←hs.h]
    refine .vec _ _ _ _ (by simp[Ctx.pushW]) fun sh' m hv=>?_
    unfold qtW
    simp[Ctx.pushW]
   have hset:=RepL.set hrep hsim.t i
   have he:a.tmps.toList.set i (.slice none 0 0)=a.tmps.toList:=by
    apply List.ext_getElem?
    intro j
    by_cases hj:j=i
    ·subst hj;rw[List.getElem?_set_self (qp g1),g1]
    ·rw[List.getElem?_set_ne (Ne.symm hj)]
   rw[he] at hset
   obtain⟨X2,q1,q2⟩:=qk8 l (X:=X.pushW (.vec e sh []) none X.w) (st:={ st with t:=st.t.set i (.vec st.h.length),h:=st.h++[.vec e sh []] })
    ⟨hs1,by simp[Ctx.pushW,hs.h],hset,hsim.fs,hsim.glob,hsim.df,hsim.ni,hsim.y,hsim.pin⟩
   exact⟨X2,q1,q2⟩
  ·exact qk8 l hs
theorem q9W{E:Env}{B:Base}{a:Act}:∀(l:List (Nat×Nat×TypeId×List Sh)) {X:Ctx} {st:St},Sim E B X st a→∃X',X'.w=X.w∧Sim E B X' (qlb l st) a
 | [],X,st,hs=>⟨X,rfl,hs⟩
 | (i,off,e,sh)::l,X,st,hs=>by
  simp only[qlb]
  split
  ·rename_i b o hi
   split
   ·rename_i cs hb
    split
    ·rename_i hc
     have hw:=PushW.same X
     have hk:yQ (X.pushW (.vec e sh []) none X.w) X.h.length (.vec e sh []):=.inl ⟨by simp[Ctx.pushW],rfl⟩
     have hs1:=HSim.push hs.hs hw hk
     have hx:=Ctx.push_ext hs.hs (.vec e sh []) hw
     have hsim:=hs.ext hx hs1
     have hbX:X.h[b]?=some (.cells cs):=by rw[hs.h];exact hb
     have hbl:=qp hbX
     obtain⟨n,c,T,g1,g2,g3⟩:=hs.hs.blk b _ hbX
     have hb1:(X.pushW (.vec e sh []) none X.w).h[b]?=some (.cells cs):=by
      show (X.h++[Blk.vec e sh []])[b]?=_
      rw[List.getElem?_append_left hbl];exact hbX
     have g1':(X.pushW (.vec e sh []) none X.w).σ b=some n:=by
      show (if b=X.h.length then none else X.σ b)=_
      rw[if_neg (by omega)];exact g1
     have g3':=g3.ext hx
     have hrep:Rep (X.pushW (.vec e sh []) none X.w) (.vec st.h.length) (.slice none 0 0):=by
      rw[←hs.h]
      refine .vec _ _ _ _ (by simp[Ctx.pushW]) fun sh' m hv=>?_
      unfold qtW
      simp[Ctx.pushW]
     obtain⟨v,k1,k2⟩:=g3'.get off _ hc
     have hv:v=.slice none 0 0:=by cases k2;rfl
     subst hv
     have hset:=RepL.set hrep g3' off
     have he:c.toList.set off (.slice none 0 0)=c.toList:=by
      apply List.ext_getElem?
      intro j
      by_cases hj:j=off
      ·subst hj;rw[List.getElem?_set_self (qp k1),k1]
      ·rw[List.getElem?_set_ne (Ne.symm hj)]
     rw[he] at hset
     have hup:UpdW (X.pushW (.vec e sh []) none X.w) n c c T X.w:=⟨g2,g2,rfl,fun _ _=>rfl,rfl,rfl,rfl,rfl⟩
     have hown:(X.pushW (.vec e sh []) none X.w).own b n:=⟨g1',_,hb1,rfl⟩
     have hx2:=Ctx.upd_ext (k':=.cells (cs.set off (.vec st.h.length))) hs1 hb1 hown hup trivial
     have hs2:=hs1.upd (k':=.cells (cs.set off (.vec st.h.length))) hb1 hown hup trivial ⟨n,c,T,g1',g2,hset.ext hx2⟩
     have hsim2:=hsim.ext hx2 hs2
     have hh:((X.pushW (.vec e sh []) none X.w).upd b (.cells (cs.set off (.vec st.h.length))) X.w).h=(st.h++[Blk.vec e sh []]).set b (.cells (cs.set off (.vec st.h.length))):=by
      show (X.h++[Blk.vec e sh []]).set b _=_
      rw[hs.h]
     obtain⟨X3,q1,q2⟩:=q9W l hsim2
     refine⟨X3,q1,?_⟩
     rw[hh] at q2
     exact q2
    ·exact q9W l hs
   ·exact q9W l hs
  ·exact q9W l hs
theorem qo9(b c x:Nat):swp b c (swp b c x)=x:=by
 unfold swp
 simp only[Nat.beq_eq]
 by_cases h1:x=b
 ·subst h1
  by_cases h2:c=x
  ·simp[h2]
  ·simp[h2]
 ·by_cases h2:x=c
  ·subst h2;simp[h1]
  ·simp[h1,h2]
theorem qDR{b c x n:Nat}(hb:n≤b)(hc:n≤c):n≤swp b c x↔n≤x:=by
 unfold swp
 simp only[Nat.beq_eq]
 split
 ·rename_i h;subst h;exact⟨fun _=>hb,fun _=>hc⟩
 ·split
  ·rename_i h;subst h;exact⟨fun _=>hc,fun _=>hb⟩
  ·exact Iff.rfl
theorem qCN{b c x n:Nat}(hb:b<n)(hc:c<n):swp b c x<n↔x<n:=by
 unfold swp
 simp only[Nat.beq_eq]
 split
 ·rename_i h;subst h;exact⟨fun _=>hb,fun _=>hc⟩
 ·split
  ·rename_i h;subst h;exact⟨fun _=>hc,fun _=>hb⟩
  ·exact Iff.rfl
theorem qBv{b c x n:Nat}(hb:n≤b)(hc:n≤c)(hx:x<n):swp b c x=x:=by
 unfold swp
 simp only[Nat.beq_eq]
 rw[if_neg (by omega),if_neg (by omega)]
theorem qzO{b c:Nat}{h:List Blk}(hb:b<h.length)(hc:c<h.length)(hbc:b≠c)(i:Nat):(qur b c h)[i]?=h[swp b c i]?:=by
 have e1:h.getD c .dead=h[c]:=by simp[List.getD_eq_getElem?_getD,hc]
 have e2:h.getD b .dead=h[b]:=by simp[List.getD_eq_getElem?_getD,hb]
 unfold qur swp
 simp only[Nat.beq_eq]
 rw[e1,e2]
 by_cases h1:i=b
 ·subst h1
  rw[if_pos rfl,List.getElem?_set_ne (Ne.symm hbc),List.getElem?_set_self hb,List.getElem?_eq_getElem hc]
 ·by_cases h2:i=c
  ·subst h2
   rw[if_neg h1,if_pos rfl,List.getElem?_set_self (by simpa using hc),List.getElem?_eq_getElem hb]
  ·rw[if_neg h1,if_neg h2,List.getElem?_set_ne (Ne.symm h2),List.getElem?_set_ne (Ne.symm h1)]
def Ctx.swap(X:Ctx)(b c:Nat):Ctx:={ X with σ:=fun x=>X.σ (swp b c x),h:=(qur b c X.h).map (Blk.ren (swB b c)) }
theorem qyE{B:Base}{X:Ctx}(hs:HSim B X){b c:Nat}(hb:B.imps.length≤b)(hc:B.imps.length≤c)(hbl:b<X.h.length)(hcl:c<X.h.length)(hbc:b≠c) :
  HSim B (X.swap b c)∧Move X (X.swap b c) (swB b c):=by
 have hget:∀i,(X.swap b c).h[i]?=(X.h[swp b c i]?).map (Blk.ren (swB b c)):=fun i=>by
  show ((qur b c X.h).map _)[i]?=_
  rw[List.getElem?_map,qzO hbl hcl hbc]
 have hget':∀i k,(X.swap b c).h[i]?=some k→∃k0,X.h[swp b c i]?=some k0∧k=k0.ren (swB b c):=by
  intro i k h
  rw[hget] at h
  cases hk:X.h[swp b c i]? with
  | none=>rw[hk] at h;cases h
  | some k0=>rw[hk] at h;exact⟨k0,rfl,(Option.some.inj h).symm⟩
 have hσ:∀i,(X.swap b c).σ i=X.σ (swp b c i):=fun _=>rfl
 have hm:Move X (X.swap b c) (swB b c):=by
  refine Move.of (fun _ h=>h) (fun _ _=>rfl) (fun b1 b2 hb1 hf=>?_)
  have hf':b2=swp b c b1:=(Option.some.inj hf).symm
  subst hf'
  refine⟨?_,by rw[hσ,qo9],fun sh m ⟨e,l,h1,h2⟩=>⟨e,l,?_,h2⟩,fun sh m _ n hn c T fr hc=>⟨c,T,fr,hc,rfl⟩⟩
  ·show _<((qur b c X.h).map _).length
   simp only[qur,List.length_map,List.length_set]
   exact(qCN hbl hcl).2 hb1
  ·rcases h1 with h1|h1
   ·obtain⟨k0,h3,h4⟩:=hget' _ _ h1
    rw[qo9] at h3
    rcases qkh (.inl h4) with rfl|rfl
    ·exact .inl h3
    ·exact .inr h3
   ·obtain⟨k0,h3,h4⟩:=hget' _ _ h1
    rw[qo9] at h3
    rcases qkh (.inr h4) with rfl|rfl
    ·exact .inl h3
    ·exact .inr h3
 have hown:∀i n,(X.swap b c).own i n→X.own (swp b c i) n:=by
  intro i n ⟨h1,k,h2,h3⟩
  obtain⟨k0,h4,h5⟩:=hget' i k h2
  exact⟨h1,k0,h4,by rw[h5,Blk.mut_ren] at h3;exact h3⟩
 refine⟨⟨?_,?_,fun i n h=>hs.notM _ n (hown _ _ h),hs.ltM,hs.M0,hs.newM,hs.os,hs.tape,hs.output,hs.size,hs.frame,?_,?_,?_,hs.kept⟩,hm⟩
 ·intro i k hk
  obtain⟨k0,h1,h2⟩:=hget' i k hk
  rw[h2]
  exact yQ.move hm.toMove0 (hσ i) (fun _ _=>rfl) (hs.blk _ k0 h1)
 ·intro i j n h1 h2
  have:=hs.inj _ _ n (hown _ _ h1) (hown _ _ h2)
  rw[←qo9 b c i,this,qo9]
 ·intro i hi
  rw[hσ,qBv hb hc hi];exact hs.imps i hi
 ·intro i hi
  obtain⟨k,h1,h2⟩:=hs.impc i hi
  exact⟨k.ren (swB b c),by rw[hget,qBv hb hc hi,h1];rfl,by rw[Blk.solid_ren];exact h2⟩
 ·intro i n h1 h2
  exact hs.fresh _ n (hown _ _ h1) ((qDR hb hc).2 h2)
theorem qcZ{E:Env}{B:Base}{a:Act}{n:Nat}(hn:B.imps.length≤n):∀(l:List (Nat×Nat)) {X:Ctx} {st:St},Sim E B X st a→∃X',X'.w=X.w∧Sim E B X' (qn1 n l st) a
 | [],X,st,hs=>⟨X,rfl,hs⟩
 | (i,b)::l,X,st,hs=>by
  simp only[qn1]
  split
  ·rename_i c hc
   split
   ·rename_i hcond
    simp only[Bool.and_eq_true,Nat.ble_eq,Nat.blt_eq,Bool.not_eq_true'] at hcond
    obtain⟨⟨⟨⟨c1,c2⟩,c3⟩,c4⟩,c5⟩:=hcond
    have hne:b≠c:=fun e=>by subst e;simp at c5
    obtain⟨g1,g2⟩:=qyE hs.hs (b:=b) (c:=c) (by omega) (by omega) (by rw[hs.h];exact c3) (by rw[hs.h];exact c4) hne
    obtain⟨X2,q1,q2⟩:=qcZ hn l (X:=X.swap b c) (st:=st.swap b c) ⟨g1,by simp[Ctx.swap,St.swap,hs.h],hs.t.ren g2.toMove0,hs.fs.ren g2.toMove0,qnj (X:=X) (fun _ h=>h) rfl rfl hs.glob,hs.df,hs.ni,hs.y,hs.pin⟩
    exact⟨X2,q1,q2⟩
   ·exact qcZ hn l hs
  ·exact qcZ hn l hs
theorem Tmpl.weaken1{tm:Tmpl}{E:Env}{B:Base}{X:Ctx}{st:St}{a:Act}{ps:List PV}(hk:qbJ E.nimp tm.h=true)(h:tm.take1 st=some ps)(hs:Sim E B X st a) :
  ps.map PV.kind=tm.kinds∧∃X',X'.w=X.w∧Sim E B X' (tm.make ps) a:=by
 unfold Tmpl.take1 at h
 split at h
 ·rename_i hpe
  have hpe':=qDF hpe
  obtain⟨x,yz,h1,h0,rfl⟩:=q3R h
  obtain⟨y,z,h2,h3,rfl⟩:=q3R h0
  obtain⟨hc1,hc2⟩:=qn3 hk
  obtain⟨c1,c2⟩:=qwu hs.hs (n:=tm.h.length) (Nat.le_trans hs.ni hc1)
  obtain⟨a1,a2,a3⟩:=AP.takeL_ok (X:=X.cut tm.h.length) _ _ x (y++z) h1
  obtain⟨d1,d2,d3⟩:=AP.takeLL_ok (X:=X.cut tm.h.length) _ _ y z h2
  obtain⟨b1,b2,b3,b4,b5⟩:=BP.takeL_ok (X:=X.cut tm.h.length) _ _ z [] h3
  have hch:(X.cut tm.h.length).h=(st.h.take tm.h.length).map (Blk.ren (qtY tm.h.length)):=by rw[←hs.h];rfl
  rw[←hch] at b3 b5
  rw[List.append_nil] at b3 b5
  obtain⟨e1,e2⟩:=qc0 c1 (h':=(BP.makeL tm.h z).1) b3 (fun b k' hb=>by obtain⟨k0,e1,e2,_⟩:=b5 b k' hb;exact⟨k0,e1,e2⟩)
   (fun b hb k' hk'=>by
    obtain⟨q,q1,q2⟩:=hc2 b (by have:=hs.ni;omega)
    obtain⟨k0,_,_,e3⟩:=b5 b k' hk'
    exact e3 q q1 q2)
  refine⟨by simp[Tmpl.kinds,a2,d2,b2],{ X.cut tm.h.length with h:=(BP.makeL tm.h z).1 },rfl,⟨e1,?_,?_,?_,?_,?_,hs.ni,hs.y,?_⟩⟩
  ·simp only[Tmpl.make,a1,d1]
  ·simp only[Tmpl.make]
   exact(a3 _ (hs.t.ren c2.toMove0)).ext e2
  ·simp only[Tmpl.make,a1]
   exact(d3 _ (hs.fs.ren c2.toMove0)).ext e2
  ·exact qnj (X:=X) (fun _ h=>h) rfl rfl hs.glob
  ·show qvc X.kept (B.pin tm.pend) a.defers
   rw[hpe'];exact hs.df
  ·show ∀p,p∈B.pin tm.pend→p∈X.kept
   rw[hpe'];exact hs.pin
 ·cases h
theorem Tmpl.weaken{tm:Tmpl}{E:Env}{B:Base}{X:Ctx}{st:St}{a:Act}{ps:List PV}(hk:tm.ok E.nimp=true)(h:tm.take st=some ps)(hs:Sim E B X st a) :
  ps.map PV.kind=tm.kinds∧∃X',X'.w=X.w∧Sim E B X' (tm.make ps) a:=by
 unfold Tmpl.ok at hk
 simp only[Bool.and_eq_true,Bool.or_eq_true,List.isEmpty_iff,Nat.ble_eq] at hk
 obtain⟨X0,h0,h2'⟩:=qk8 tm.pro hs
 obtain⟨X1,h1',h2⟩:=q9W tm.prc h2'
 have h1:=h1'.trans h0
 have:∃X',X'.w=X1.w∧Sim E B X' (qn1 tm.swn tm.sw (qlb tm.prc (qwE tm.pro st))) a:=by
  rcases hk.2 with h0|h0
  ·rw[h0];exact⟨X1,rfl,h2⟩
  ·exact qcZ (Nat.le_trans hs.ni h0) tm.sw h2
 obtain⟨X1',h1',h2'⟩:=this
 obtain⟨g1,X2,g2,g3⟩:=Tmpl.weaken1 hk.1 h h2'
 exact⟨g1,X2,(g2.trans h1').trans h1,g3⟩
structure Out where
 x:Ex
 tm:Tmpl
abbrev TR:=Tree (Nat×List PV)
def qCG:List Out→Nat→Ex×St→TR
 | [],_,_=>.fail
 | o::l,j,r=>match Ex.beq o.x r.1,o.tm.take r.2 with
  | true,some ps=>.leaf (j,ps)
  | _,_=>qCG l (j+1) r
def okR(R:TR):Bool:=R.run.isSome
def jR(R:TR):Nat:=match R.run with|some r=>r.1|none=>0
def pR(R:TR)(i:Nat):PV:=match R.run with|some r=>r.2.getD i (.i 0)|none=>.i 0
def gI(R:TR)(i:Nat):Int:=(pR R i).toI
def gB(R:TR)(i:Nat):Bool:=(pR R i).toB
def gS(R:TR)(i:Nat):List UInt8:=(pR R i).toS
def gR(R:TR)(i:Nat):Go.Eng.R:=(pR R i).toR
def jIs(R:TR)(j:Nat):Bool:=Nat.beq (jR R) j
def qlO(R:TR):List PK→Nat→List PV
 | [],_=>[]
 | .i::l,n=>.i (gI R n)::qlO R l (n+1)
 | .b::l,n=>.b (gB R n)::qlO R l (n+1)
 | .s::l,n=>.s (gS R n)::qlO R l (n+1)
 | .r::l,n=>.r (gR R n)::qlO R l (n+1)
theorem qjJ{R:TR}{j:Nat}{ps:List PV}(hR:R.run=some (j,ps)):∀(ks:List PK) (n:Nat),(ps.drop n).map PV.kind=ks→qlO R ks n=ps.drop n
 | [],n,h=>by simp at h;simp[qlO];exact h
 | k::ks,n,h=>by
  cases hd:ps.drop n with
  | nil=>rw[hd] at h;cases h
  | cons v rest=>
   rw[hd] at h
   simp only[List.map_cons,List.cons.injEq] at h
   have hn:ps[n]?=some v:=by
    have:(ps.drop n)[0]?=some v:=by rw[hd];rfl
    rwa [List.getElem?_drop,Nat.add_zero] at this
   have hr:ps.drop (n+1)=rest:=by rw[←List.drop_drop,hd];rfl
   have ih:=qjJ hR ks (n+1) (by rw[hr];exact h.2)
   have hp:pR R n=v:=by simp[pR,hR,List.getD_eq_getElem?_getD,hn]
   rw[hr] at ih
   cases v<;>simp only[PV.kind] at h<;>obtain⟨rfl,_⟩:=h<;>simp only[qlO,ih,gI,gB,gS,gR,hp,PV.toI,PV.toB,PV.toS,PV.toR]
def qDy(R:TR):List Out→Nat→Tree (Ex×St)
 | [],_=>.fail
 | o::l,j=>match l with
  | []=>.leaf (o.x,o.tm.make (qlO R o.tm.kinds 0))
  | _::_=>.br (jIs R j) (.leaf (o.x,o.tm.make (qlO R o.tm.kinds 0))) (qDy R l (j+1))
theorem qwd{R:TR}{j:Nat}{ps:List PV}(hR:R.run=some (j,ps)):∀(outs:List Out) (k:Nat) (o:Out) (r:Ex×St),k≤j→outs[j-k]?=some o→ps.map PV.kind=o.tm.kinds →
  (qDy R outs k).run=some r→r=(o.x,o.tm.make ps)
 | [],k,o,r,_,h,_,_=>by simp at h
 | o'::l,k,o,r,hk,h,hp,hr=>by
  have hj:jR R=j:=by simp[jR,hR]
  simp only[qDy] at hr
  cases l with
  | nil=>
   have:j-k=0:=by
    rcases Nat.eq_zero_or_pos (j-k) with h0|h0
    ·exact h0
    ·rw[List.getElem?_eq_none (by simp;omega)] at h;cases h
   rw[this] at h
   simp only[List.getElem?_cons_zero,Option.some.injEq] at h
   subst h
   simp only[Tree.run,Option.some.injEq] at hr
   rw[←hr,qjJ hR _ 0 (by simpa using hp)];rfl
  | cons o2 l=>
   simp only[Tree.run] at hr
   by_cases hjk:j=k
   ·have hb:jIs R k=true:=by simp[jIs,hj,hjk]
    rw[hb] at hr
    simp only[Option.some.injEq] at hr
    subst hjk
    simp only[Nat.sub_self,List.getElem?_cons_zero,Option.some.injEq] at h
    subst h
    rw[←hr,qjJ hR _ 0 (by simpa using hp)];rfl
   ·have hb:jIs R k=false:=by
     simp only[jIs,hj]
     cases hq:Nat.beq j k with
     | false=>rfl
     | true=>exact absurd (Nat.eq_of_beq_eq_true hq) hjk
    rw[hb] at hr
    simp only at hr
    refine qwd hR (o2::l) (k+1) o r (by omega) ?_ hp hr
    rw[show j-k=(j-(k+1))+1 by omega,List.getElem?_cons_succ] at h
    exact h
theorem qw6:∀(outs:List Out) (k:Nat) (r:Ex×St) (j:Nat) (ps:List PV),(qCG outs k r).run=some (j,ps)→k≤j∧∃o,outs[j-k]?=some o∧o.x=r.1∧o.tm.take r.2=some ps
 | [],k,r,j,ps,h=>by simp only[qCG] at h;cases h
 | o::l,k,r,j,ps,h=>by
  simp only[qCG] at h
  split at h
  ·rename_i ps' hb ht
   simp only[Tree.run,Option.some.injEq,Prod.mk.injEq] at h
   obtain⟨rfl,rfl⟩:=h
   exact⟨Nat.le_refl _,o,by simp,Ex.beq_eq hb,ht⟩
  ·obtain⟨h1,o',h2,h3,h4⟩:=qw6 l (k+1) r j ps h
   refine⟨by omega,o',?_,h3,h4⟩
   rw[show j-k=(j-(k+1))+1 by omega,List.getElem?_cons_succ]
   exact h2
def ql(tin:Tmpl)(outs:List Out)(T:List PV→TR):St→Tree (Ex×St):=fun st=>match tin.take st with
 | none=>.fail
 | some ps=>.br (okR (T ps)) (qDy (T ps) outs 0) .fail
theorem qxH{tin:Tmpl}{outs:List Out}{T:List PV→TR}{st:St}{r:Ex×St}(h:(ql tin outs T st).run=some r) :
  ∃ps j qs,tin.take st=some ps∧(T ps).run=some (j,qs)∧(qDy (T ps) outs 0).run=some r:=by
 unfold ql at h
 cases ht:tin.take st with
 | none=>rw[ht] at h;cases h
 | some ps=>
  rw[ht] at h
  simp only[Tree.run] at h
  cases hr:(T ps).run with
  | none=>simp[okR,hr] at h
  | some q=>
   obtain⟨j,qs⟩:=q
   simp only[okR,hr,Option.isSome_some] at h
   exact⟨ps,j,qs,rfl,hr,h⟩
theorem qv6.env{E E':Env}(he:E.glob=E'.glob)(hn:E.nimp=E'.nimp){B:Base}{r:Ex×St}{e:Exit}{a:Act}{w:World}(h:qv6 E B r e a w):qv6 E' B r e a w:=by
 obtain⟨h1,X',h2,h3⟩:=h
 exact⟨h1,X',h2,h3.env he hn⟩
theorem qCc{ni:Nat}{outs:List Out}(h:(outs.all fun o=>o.tm.ok ni)=true){j:Nat}{o:Out}(ho:outs[j]?=some o):o.tm.ok ni=true:=
 List.all_eq_true.1 h o (List.mem_of_getElem? ho)
theorem qre{p:Nat→Prop}(h:∃n,p n):∃n,p n∧∀m,p m→n≤m:=by
 obtain⟨n,hn⟩:=h
 induction n using Nat.strongRecOn with
 | _ n ih=>
  by_cases hlt:∃m,m<n∧p m
  ·obtain⟨m,h1,h2⟩:=hlt;exact ih m h1 h2
  ·exact⟨n,hn,fun m hm=>Nat.le_of_not_lt fun h=>hlt ⟨m,h,hm⟩⟩
open Classical in
noncomputable def qqd(p:Nat→Prop):Nat:=if h:∃n,p n then Classical.choose (qre h) else 0
theorem qlt{p:Nat→Prop}(h:∃n,p n):p (qqd p)∧∀m,p m→qqd p≤m:=by
 unfold qqd
 rw[dif_pos h]
 exact Classical.choose_spec (qre h)
def qAC(tin:Tmpl)(outs:List Out)(r:Ex×St):TR:=match r.1 with
 | .normal=>match tin.take r.2 with
  | some ps=>.leaf (0,ps)
  | none=>.fail
 | _=>qCG outs 1 r
def qiR(S:List PV→TR):Nat→List PV→TR
 | 0,_=>.fail
 | n+1,ps=>(S ps).bind fun r=>match r.1 with
  | 0=>qiR S n r.2
  | j+1=>.leaf (j,r.2)
theorem qyB{E:Env}{P:Program}{c:Code}{BO:Base→Prop}{ev:St→Tree (Ex×St)}(hev:∀(n0:Nat) B X st a r,BO B→Sim E B X st a→(ev st).run=some r→c.wpIn (q1u B.ro) n0 P (qv6 E B r) a X.w)
  {tin:Tmpl} {outs:List Out} {S T:List PV→TR} (hk:tin.ok E.nimp=true) (hko:(outs.all fun o=>o.tm.ok E.nimp)=true)
  (hS:∀ps r,ps.map PV.kind=tin.kinds→(S ps).run=some r→((ev (tin.make ps)).bind (qAC tin outs)).run=some r) (hT:∀ps,∃n,T ps=qiR S n ps) :
  qo P E.glob E.nimp BO (.loop c) (ql tin outs T):=by
 intro E' B X st a r he hn hbo hs h nf
 obtain⟨ps,j,qs,h1,h2,h3⟩:=qxH h
 obtain⟨hkd,X',hw,hs'⟩:=Tmpl.weaken hk h1 (hs.env he hn)
 obtain⟨n0,hn0⟩:=hT ps
 have hend:∀(o:Out) (X3:Ctx) (a':Act),outs[j]?=some o→qs.map PV.kind=o.tm.kinds→Sim E B X3 (o.tm.make qs) a'→qv6 E' B r o.x.out a' X3.w:=by
  intro o X3 a' q1 hkd2 hs3
  have hr:=qwd h2 outs 0 o r (Nat.zero_le _) q1 hkd2 h3
  subst hr
  exact qv6.env he.symm hn.symm ⟨rfl,X3,rfl,hs3⟩
 rw[hn0] at h2
 let I:Nat→Act→World→Prop:=fun n a' w'=>∃X1 ps1,X1.w=w'∧ps1.map PV.kind=tin.kinds∧Sim E B X1 (tin.make ps1) a'∧(qiR S n ps1).run=some (j,qs)
 have key:∀a' w',(∃n,I n a' w')→c.wpIn (q1u B.ro) nf P (Exit.then (fun a'' w''=>∃n,I n a'' w''∧∀m,I m a' w'→n<m) (qv6 E' B r)) a' w':=by
  intro a' w' hex
  have hmin:=qre hex
  obtain⟨n,⟨X1,ps1,rfl,hk1,hs1,hit⟩,hleast⟩:=hmin
  cases n with
  | zero=>simp only[qiR] at hit;cases hit
  | succ n=>
   simp only[qiR] at hit
   obtain⟨s,g1,g2⟩:=bind_some hit
   obtain⟨r1,g3,g4⟩:=bind_some (hS ps1 s hk1 g1)
   refine wpIn_mono (hev nf B X1 _ a' r1 hbo hs1 g3) fun e a'' w'' ⟨p1,X2,p2,p3⟩=>?_
   subst p1 p2
   obtain⟨x1,s1⟩:=r1
   have other:∀(_:(qCG outs 1 (x1,s1)).run=some s),qv6 E' B r x1.out a'' X2.w:=by
    intro hf
    obtain⟨sj,sps⟩:=s
    obtain⟨f1,o,f2,f3,f4⟩:=qw6 _ _ _ _ _ hf
    cases sj with
    | zero=>omega
    | succ sj=>
     simp only[Tree.run,Option.some.injEq,Prod.mk.injEq] at g2
     obtain⟨rfl,rfl⟩:=g2
     simp only[Nat.add_sub_cancel] at f2
     obtain⟨hkd2,X3,hw3,hs3⟩:=Tmpl.weaken (qCc hko f2) f4 p3
     have f3':o.x=x1:=f3
     rw[←f3',←hw3]
     exact hend o X3 a'' f2 hkd2 hs3
   cases x1 with
   | normal=>
    simp only[qAC] at g4
    cases htk:tin.take s1 with
    | none=>rw[htk] at g4;cases g4
    | some ps2=>
     rw[htk] at g4
     simp only[Tree.run,Option.some.injEq] at g4
     subst g4
     obtain⟨hkd2,X3,hw3,hs3⟩:=Tmpl.weaken hk htk p3
     refine⟨n,⟨X3,ps2,hw3,hkd2,hs3,g2⟩,fun m hm=>?_⟩
     have:=hleast m hm
     omega
   | exit i=>exact other g4
   | ret=>exact other g4
 rw[←hw]
 have hI0:∃n,I n a X'.w:=⟨n0,X',ps,rfl,hkd,hs',h2⟩
 refine wpIn_loop (fun a' w'=>∃n,I n a' w') (fun a' w'=>qqd fun n=>I n a' w') hI0 fun a' w' hex=>?_
 refine wpIn_mono (key a' w' hex) fun e a'' w'' hq=>?_
 cases e with
 | normal=>
  obtain⟨n,hn1,hn2⟩:=hq
  exact⟨⟨n,hn1⟩,Nat.lt_of_le_of_lt ((qlt ⟨n,hn1⟩).2 n hn1) (hn2 _ (qlt hex).1)⟩
 | exit i=>exact hq
 | goto i=>exact hq
 | ret=>exact hq
 | panic ch=>exact hq
 | outgrown=>exact hq
end Go.Eng

namespace Go.Eng
structure FOut where
 res:AP
 h:List BP
 pro:Option (Nat×TypeId×List Sh):=none
def qBQ:Nat→AV→Bool
 | i,.tuple vs=>match vs[i]? with|some .nils=>true|_=>false
 | 0,.nils=>true
 | _,_=>false
def qEk(i:Nat)(v:AV):AV→AV
 | .tuple vs=>.tuple (vs.set i v)
 | .nils=>v
 | x=>x
def qDV(p:Option (Nat×TypeId×List Sh))(r:AV×List Blk):AV×List Blk:=match p with
 | none=>r
 | some (i,e,sh)=>match qBQ i r.1 with
  | true=>(qEk i (.vec r.2.length) r.1,r.2++[.vec e sh []])
  | false=>r
def qvu(h:List Blk):Blk→Blk
 | .cells cs=>.cells (AV.lendL h cs)
 | k=>k
def qcu(fz:Bool)(r:AV×List Blk):AV×List Blk:=match fz with
 | false=>r
 | true=>let h1:=zJ r.2 (List.range r.2.length);(r.1.lend h1,h1.map (qvu h1))
def FOut.take1(o:FOut)(r:AV×List Blk):Option (List PV):=
 qz7 (o.res.take (r.1.ren (qtY o.h.length))) (BP.takeL o.h ((r.2.take o.h.length).map (Blk.ren (qtY o.h.length))))
def FOut.take(o:FOut)(r:AV×List Blk):Option (List PV):=o.take1 (qDV o.pro r)
def FOut.make(o:FOut)(ps:List PV):AV×List Blk:=let x:=o.res.make ps;(x.1,(BP.makeL o.h x.2).1)
def FOut.kinds(o:FOut):List PK:=o.res.kinds++BP.kindsL o.h
def qCJ:List FOut→Nat→AV×List Blk→TR
 | [],_,_=>.fail
 | o::l,j,r=>match o.take r with
  | some ps=>.leaf (j,ps)
  | none=>qCJ l (j+1) r
def qCI(R:TR):List FOut→Nat→Tree (AV×List Blk)
 | [],_=>.fail
 | o::l,j=>match l with
  | []=>.leaf (o.make (qlO R o.kinds 0))
  | _::_=>.br (jIs R j) (.leaf (o.make (qlO R o.kinds 0))) (qCI R l (j+1))
structure FIn where
 args:List AP
 h:List BP
def FIn.take(i:FIn)(args:List AV)(h:List Blk):Option (List PV):=qz7 (AP.takeL i.args args) (BP.takeL i.h h)
def FIn.make(i:FIn)(ps:List PV):List AV×List Blk:=let x:=AP.makeL i.args ps;(x.1,(BP.makeL i.h x.2).1)
def FIn.kinds(i:FIn):List PK:=AP.kindsL i.args++BP.kindsL i.h
def q9(i:FIn)(outs:List FOut)(T:List PV→TR):q1h:=fun args h=>match i.take args h with
 | none=>.fail
 | some ps=>.br (okR (T ps)) (qCI (T ps) outs 0) .fail
theorem qqz{R:TR}{j:Nat}{ps:List PV}(hR:R.run=some (j,ps)):∀(outs:List FOut) (k:Nat) (o:FOut) (r:AV×List Blk),k≤j→outs[j-k]?=some o→ps.map PV.kind=o.kinds →
  (qCI R outs k).run=some r→r=o.make ps
 | [],k,o,r,_,h,_,_=>by simp at h
 | o'::l,k,o,r,hk,h,hp,hr=>by
  have hj:jR R=j:=by simp[jR,hR]
  simp only[qCI] at hr
  cases l with
  | nil=>
   have:j-k=0:=by
    rcases Nat.eq_zero_or_pos (j-k) with h0|h0
    ·exact h0
    ·rw[List.getElem?_eq_none (by simp;omega)] at h;cases h
   rw[this] at h
   simp only[List.getElem?_cons_zero,Option.some.injEq] at h
   subst h
   simp only[Tree.run,Option.some.injEq] at hr
   rw[←hr,qjJ hR _ 0 (by simpa using hp)];rfl
  | cons o2 l=>
   simp only[Tree.run] at hr
   by_cases hjk:j=k
   ·have hb:jIs R k=true:=by simp[jIs,hj,hjk]
    rw[hb] at hr
    simp only[Option.some.injEq] at hr
    subst hjk
    simp only[Nat.sub_self,List.getElem?_cons_zero,Option.some.injEq] at h
    subst h
    rw[←hr,qjJ hR _ 0 (by simpa using hp)];rfl
   ·have hb:jIs R k=false:=by
     simp only[jIs,hj]
     cases hq:Nat.beq j k with
     | false=>rfl
     | true=>exact absurd (Nat.eq_of_beq_eq_true hq) hjk
    rw[hb] at hr
    simp only at hr
    refine qqz hR (o2::l) (k+1) o r (by omega) ?_ hp hr
    rw[show j-k=(j-(k+1))+1 by omega,List.getElem?_cons_succ] at h
    exact h
theorem qwy:∀(outs:List FOut) (k:Nat) (r:AV×List Blk) (j:Nat) (ps:List PV),(qCJ outs k r).run=some (j,ps)→k≤j∧∃o,outs[j-k]?=some o∧o.take r=some ps
 | [],k,r,j,ps,h=>by simp only[qCJ] at h;cases h
 | o::l,k,r,j,ps,h=>by
  simp only[qCJ] at h
  split at h
  ·rename_i ps' ht
   simp only[Tree.run,Option.some.injEq,Prod.mk.injEq] at h
   obtain⟨rfl,rfl⟩:=h
   exact⟨Nat.le_refl _,o,by simp,ht⟩
  ·obtain⟨h1,o',h2,h4⟩:=qwy l (k+1) r j ps h
   refine⟨by omega,o',?_,h4⟩
   rw[show j-k=(j-(k+1))+1 by omega,List.getElem?_cons_succ]
   exact h2
theorem qs6{i:FIn}{outs:List FOut}{T:List PV→TR}{args:List AV}{h:List Blk}{r:AV×List Blk}(hr:(q9 i outs T args h).run=some r) :
  ∃ps j qs,i.take args h=some ps∧(T ps).run=some (j,qs)∧(qCI (T ps) outs 0).run=some r:=by
 unfold q9 at hr
 cases ht:i.take args h with
 | none=>rw[ht] at hr;cases hr
 | some ps=>
  rw[ht] at hr
  simp only[Tree.run] at hr
  cases hq:(T ps).run with
  | none=>simp[okR,hq] at hr
  | some q=>
   obtain⟨j,qs⟩:=q
   simp only[okR,hq,Option.isSome_some] at hr
   exact⟨ps,j,qs,rfl,hq,hr⟩
theorem qoB{B:Base}{X:Ctx}(hs:HSim B X)(fz:Bool){r:AV×List Blk}{v:Value}(hr:Rep X r.1 v)(hh:X.h=r.2) :
  ∃X',X'.w=X.w∧X'.h=(qcu fz r).2∧HSim B X'∧Rep X' (qcu fz r).1 v∧X'.y=X.y:=by
 cases fz with
 | false=>exact⟨X,rfl,hh,hs,hr,rfl⟩
 | true=>
  obtain⟨X1,f⟩:=q79 (List.range r.2.length) hs
  have hf:X1.h=zJ r.2 (List.range r.2.length):=by rw[f.h,hh]
  obtain⟨d1,d2⟩:=qc0 f.hs (h':=X1.h.map (qvu X1.h)) (by simp) (fun b k' hb=>by
   rw[List.getElem?_map] at hb
   cases hk:X1.h[b]? with
   | none=>rw[hk] at hb;cases hb
   | some k0=>
    rw[hk] at hb
    simp only[Option.map_some,Option.some.injEq] at hb
    refine⟨k0,rfl,?_⟩
    cases k0 with
    | cells cs=>exact .inr (.inr (.inl ⟨cs,_,rfl,hb.symm,fun vs hv=>qcv f.hs hv⟩))
    | _=>exact .inr (.inl hb.symm)) (fun b hb k' hk'=>by
   obtain⟨cs,hc,hc2⟩:=f.hs.impc b hb
   rw[List.getElem?_map,hc] at hk'
   simp only[Option.map_some,Option.some.injEq] at hk'
   subst hk'
   cases cs<;>first|(cases hc2;done)|rfl)
  refine⟨{ X1 with h:=X1.h.map (qvu X1.h) },f.w,?_,d1,?_,f.ext.y⟩
  ·simp only[qcu,hf]
  ·have:=(qww f.hs (hr.ext f.ext)).ext d2
   simp only[qcu]
   rw[←hf]
   exact this
theorem qym{B:Base}{X:Ctx}(hs:HSim B X)(p:Option (Nat×TypeId×List Sh)){r:AV×List Blk}{v:Value}(hr:Rep X r.1 v)(hh:X.h=r.2) :
  ∃X',X'.w=X.w∧X'.h=(qDV p r).2∧HSim B X'∧Rep X' (qDV p r).1 v∧X'.y=X.y:=by
 cases p with
 | none=>exact⟨X,rfl,hh,hs,hr,rfl⟩
 | some p=>
  obtain⟨i,e,sh⟩:=p
  obtain⟨a,h⟩:=r
  simp only at hr hh
  subst hh
  simp only[qDV]
  cases hn:qBQ i a with
  | false=>exact⟨X,rfl,rfl,hs,hr,rfl⟩
  | true=>
   simp only
   have hw:=PushW.same X
   have hk:yQ (X.pushW (.vec e sh []) none X.w) X.h.length (.vec e sh []):=.inl ⟨by simp[Ctx.pushW],rfl⟩
   have hs1:=HSim.push hs hw hk
   have hx:=Ctx.push_ext hs (.vec e sh []) hw
   have hrep:Rep (X.pushW (.vec e sh []) none X.w) (.vec X.h.length) (.slice none 0 0):=by
    refine .vec _ _ _ _ (by simp[Ctx.pushW]) fun sh' m hv=>?_
    unfold qtW
    simp[Ctx.pushW]
   refine⟨X.pushW (.vec e sh []) none X.w,rfl,by simp[Ctx.pushW],hs1,?_,rfl⟩
   cases a with
   | nils=>
    cases hr
    exact hrep
   | tuple vs=>
    cases hr with
    | tuple _ us hu=>
     simp only[qBQ] at hn
     cases hg:vs[i]? with
     | none=>rw[hg] at hn;cases hn
     | some x=>
      rw[hg] at hn
      cases x<;>first|(cases hn;done)|skip
      obtain⟨u,g1,g2⟩:=hu.get i _ hg
      have hue:u=.slice none 0 0:=by cases g2;rfl
      subst hue
      have hset:=RepL.set hrep (hu.ext hx) i
      have he:us.set i (.slice none 0 0)=us:=by
       apply List.ext_getElem?
       intro j
       by_cases hj:j=i
       ·subst hj;rw[List.getElem?_set_self (qp g1),g1]
       ·rw[List.getElem?_set_ne (Ne.symm hj)]
      rw[he] at hset
      exact .tuple _ _ hset
   | _=>cases i<;>cases hn
theorem FOut.weaken1{o:FOut}{B:Base}{X:Ctx}{r:AV×List Blk}{ps:List PV}{v:Value}(hk:qbJ B.imps.length o.h=true)(h:o.take1 r=some ps)(hs:HSim B X)(hr:Rep X r.1 v)(hh:X.h=r.2) :
  ps.map PV.kind=o.kinds∧∃X',X'.w=X.w∧X'.h=(o.make ps).2∧HSim B X'∧Rep X' (o.make ps).1 v∧X'.y=X.y:=by
 unfold FOut.take1 at h
 obtain⟨x,y,h1,h2,rfl⟩:=q3R h
 obtain⟨hc1,hc2⟩:=qn3 hk
 obtain⟨c1,c2⟩:=qwu hs (n:=o.h.length) hc1
 obtain⟨a1,a2,a3⟩:=AP.take_ok (X:=X.cut o.h.length) _ _ x y h1
 obtain⟨b1,b2,b3,b4,b5⟩:=BP.takeL_ok (X:=X.cut o.h.length) _ _ y [] h2
 have hch:(X.cut o.h.length).h=(r.2.take o.h.length).map (Blk.ren (qtY o.h.length)):=by rw[←hh];rfl
 rw[←hch] at b3 b5
 rw[List.append_nil] at b3 b5
 obtain⟨d1,d2⟩:=qc0 c1 (h':=(BP.makeL o.h y).1) b3 (fun b k' hb=>by obtain⟨k0,e1,e2,_⟩:=b5 b k' hb;exact⟨k0,e1,e2⟩)
  (fun b hb k' hk'=>by
   obtain⟨q,q1,q2⟩:=hc2 b hb
   obtain⟨k0,_,_,e3⟩:=b5 b k' hk'
   exact e3 q q1 q2)
 refine⟨by simp[FOut.kinds,a2,b2],{ X.cut o.h.length with h:=(BP.makeL o.h y).1 },rfl,?_,d1,?_,rfl⟩
 ·simp only[FOut.make,a1]
 ·simp only[FOut.make]
  exact(a3 _ (hr.ren c2.toMove0)).ext d2
theorem FOut.weaken{o:FOut}{B:Base}{X:Ctx}{r:AV×List Blk}{ps:List PV}{v:Value}(hk:qbJ B.imps.length o.h=true)(h:o.take r=some ps)(hs:HSim B X)(hr:Rep X r.1 v)(hh:X.h=r.2) :
  ps.map PV.kind=o.kinds∧∃X',X'.w=X.w∧X'.h=(o.make ps).2∧HSim B X'∧Rep X' (o.make ps).1 v∧X'.y=X.y:=by
 obtain⟨X1,h1,h2,h3,h4,h5⟩:=qym hs o.pro hr hh
 obtain⟨g1,X2,g2,g3,g4,g5,g6⟩:=FOut.weaken1 hk h h3 h4 h2
 exact⟨g1,X2,g2.trans h1,g3,g4,g5,g6.trans h5⟩
theorem qyw{E:Env}{P:Program}(hm:P.follows .mixedOrders=true)(hE:E.tok P)(hS:E.specs P)(hL:E.loopsOK P)(hb:E.bodies P){f:FuncId}{fn:Func}(hf:P.funcs[f]?=some fn)
  (hn:(fn.name == "runtime.NumGoroutine")=false) (hbd:fn.body.isNone=false) {n:Nat} {fz:Bool} {i:FIn} {outs:List FOut} {T:List PV→TR}
  (hi:i.h.length=E.nimp∧i.h.all BP.isCells=true) (ho:(outs.all fun o=>qbJ E.nimp o.h)=true)
  (hT:∀ps r,ps.map PV.kind=i.kinds→(T ps).run=some r→((qvG E n f fn (i.make ps).1 (i.make ps).2).bind fun q=>qCJ outs 0 (qcu fz q)).run=some r) :
  zb P E.glob f (q9 i outs T):=by
 refine⟨q2z hf hn hbd,fun B X args vargs r hs hen hgl ha h=>?_⟩
 obtain⟨ps,j,qs,h1,h2,h3⟩:=qs6 h
 unfold FIn.take at h1
 obtain⟨x,y,g1,g2,rfl⟩:=q3R h1
 obtain⟨a1,a2,a3⟩:=AP.takeL_ok (X:=X) _ _ x y g1
 obtain⟨b1,b2,b3,b4,b5⟩:=BP.takeL_ok (X:=X) _ _ y [] g2
 rw[List.append_nil] at b3 b5
 have himp:B.imps.length=X.h.length:=by rw[hen.imps];simp
 obtain⟨d1,d2⟩:=qc0 hs (h':=(BP.makeL i.h y).1) b3 (fun b k' hb=>by obtain⟨k0,e1,e2,_⟩:=b5 b k' hb;exact⟨k0,e1,e2⟩)
  (fun b hb k' hk'=>by
   obtain⟨k0,_,_,e3⟩:=b5 b k' hk'
   have hlt:b<i.h.length:=by omega
   exact e3 i.h[b] (List.getElem?_eq_getElem hlt) (List.all_eq_true.1 hi.2 _ (List.getElem_mem hlt)))
 have hkd:(x++y).map PV.kind=i.kinds:=by simp[FIn.kinds,a2,b2]
 have hgl1:qaI E.glob ({ X with h:=(BP.makeL i.h y).1 }:Ctx):=qnj (X:=X) (fun _ h=>h) rfl rfl hgl
 obtain⟨q,k1,k2⟩:=bind_some (hT _ _ hkd h2)
 have hmk:i.make (x++y)=((AP.makeL i.args (x++y)).1,(BP.makeL i.h y).1):=by simp only[FIn.make,a1]
 rw[hmk] at k1
 have hcalls:=qsp hm hE hS hL hb hf (n:=n) d1 (by omega) hgl1 ((a3 _ ha).ext d2) k1
 refine hcalls.mono fun e w' ⟨v,X',e1,e2,e3,e4,e5,e6⟩=>?_
 obtain⟨X2,p1,p2,p3,p4,p5⟩:=qoB e5 fz e3 e4
 obtain⟨_,o,q1,q2⟩:=qwy _ _ _ _ _ k2
 have hco:qbJ B.imps.length o.h=true:=by
  rw[himp,←b4,hi.1]
  exact List.all_eq_true.1 ho o (List.mem_of_getElem? q1)
 obtain⟨m1,X3,m2,m3,m4,m5,m6⟩:=FOut.weaken hco q2 p3 p4 p2
 have hre:=qqz h2 outs 0 o r (Nat.zero_le _) q1 m1 h3
 subst hre
 exact⟨v,X3,e1,by rw[m2,p1,e2],m5,m3,m4,(m6.trans p5).trans e6⟩
def qEf(l:List (FIn×q1h)):q1h:=fun args h=>match l.find? fun c=>(c.1.take args h).isSome with
 | some c=>c.2 args h
 | none=>.fail
theorem qAz{P:Program}{gl:List (Nat×AV)}{f:FuncId}{l:List (FIn×q1h)}(he:qjh P f)(hl:∀c,c∈l→zb P gl f c.2):zb P gl f (qEf l):=by
 refine⟨he,fun B X args vargs r hs hen hg ha h=>?_⟩
 unfold qEf at h
 cases hc:l.find? fun c=>(c.1.take args X.h).isSome with
 | none=>rw[hc] at h;cases h
 | some c=>
  rw[hc] at h
  exact(hl c (List.mem_of_find?_eq_some hc)).2 B X args vargs r hs hen hg ha h
theorem qCn{P:Program}{gl:List (Nat×AV)}{f:FuncId}:∀c,c∈([]:List (FIn×q1h))→zb P gl f c.2:=fun _ h=>by cases h
theorem qwC{P:Program}{gl:List (Nat×AV)}{f:FuncId}{i:FIn}{G:q1h}{l:List (FIn×q1h)}(h:zb P gl f G)(t:∀c,c∈l→zb P gl f c.2):∀c,c∈(i,G)::l→zb P gl f c.2:=fun c hc=>by
 rcases List.mem_cons.1 hc with rfl|hc
 ·exact h
 ·exact t c hc
end Go.Eng

namespace Go.Eng
def q5d(fn:Func):Code:=fn.body.getD .skip
def zH(fn:Func)(k:Nat):Code:=((zn (q5d fn))[k]?).getD .skip
def qjN:Code→Code
 | .loop c=>c
 | c=>c
def qEq(E:Env)(f:FuncId)(fn:Func)(k:Nat):qwS:=match zH fn k with
 | .rangeFunc _ ps a b=>qs8 (yN E (q7Z E 9) (q7i E) (qhn E (q7Z E 9)) f a (k+1)) (yN E (q7Z E 9) (q7i E) (qhn E (q7Z E 9)) f b (k+1+wd a)) ps.toList
 | _=>fun _ _=>.fail
def hdl(E:Env):Option (FuncId×Func×Nat)→q5l
 | none=>q7Z E 9
 | some (fc,fnc,kc)=>qAP (qEq E fc fnc kc) (q7Z E 9)
def rgh(E:Env):Option (FuncId×Func×Nat)→qcG
 | none=>qhn E (q7Z E 9)
 | some _=>qrx
def qkZ(E:Env)(y:Option (FuncId×Func×Nat))(f:FuncId)(fn:Func)(k:Nat)(st:St):Tree (Ex×St):=yN E (hdl E y) (q7i E) (rgh E y) f (qjN (zH fn k)) (k+1) st
def jl(E:Env)(f:FuncId)(fn:Func)(k:Nat)(tin:Tmpl)(outs:List Out)(ps:List PV):TR:=(qkZ E none f fn k (tin.make ps)).bind (qAC tin outs)
def qsK(E:Env)(y:Option (FuncId×Func×Nat))(f:FuncId)(fn:Func)(k:Nat)(tin:Tmpl)(outs:List Out)(ps:List PV):TR:=(qkZ E y f fn k (tin.make ps)).bind (qAC tin outs)
def qt(E:Env)(f:FuncId)(fn:Func)(fz:Bool)(i:FIn)(outs:List FOut)(ps:List PV):TR:=(qvG E 9 f fn (i.make ps).1 (i.make ps).2).bind fun q=>qCJ outs 0 (qcu fz q)
def qfB:Nat:=2^70
def qh(S:List PV→TR)(ps:List PV):TR:=qiR S qfB ps
structure EnvOK (E:Env) (P:Program):Prop where
 tok:E.tok P
 specs:E.specs P
 loops:E.loopsOK P
 bodies:E.bodies P
theorem q53{P:Program}{E:Env}(h:E.tt.map (fun x=>qtr P x.1)=E.tt.map (·.2)):E.tok P:=by
 intro x hx
 have:∀(l:List (TypeId×TI)),l.map (fun x=>qtr P x.1)=l.map (·.2)→∀x,x∈l→qtr P x.1=x.2:=by
  intro l
  induction l with
  | nil=>intro _ x hx;cases hx
  | cons y l ih=>
   intro h x hx
   simp only[List.map_cons,List.cons.injEq] at h
   rcases List.mem_cons.1 hx with rfl|hx
   ·exact h.1
   ·exact ih h.2 x hx
 exact this _ h x hx
theorem aln{α:Type}{p:α→Prop}:∀x,x∈([]:List α)→p x:=fun _ h=>by cases h
theorem alc{α:Type}{p:α→Prop}{a:α}{l:List α}(h:p a)(t:∀x,x∈l→p x):∀x,x∈a::l→p x:=fun x hx=>by
 rcases List.mem_cons.1 hx with rfl|hx
 ·exact h
 ·exact t x hx
theorem qyP {P:Program} {f:FuncId} {fn:Func} (h:P.funcs[f]?=some fn) (hn:(fn.name == "runtime.NumGoroutine")=false):P.funcs[(f,fn).1]?=some (f,fn).2∧((f,fn).2.name == "runtime.NumGoroutine")=false:=⟨h,hn⟩
theorem qBZ{P:Program}{gl:List (Nat×AV)}{ni:Nat}{f k:Nat}{fn:Func}{L:St→Tree (Ex×St)}(hf:P.funcs[f]?=some fn)(hb:fn.body.isSome=true)
  (hn:((zn (q5d fn))[k]?).isSome=true) {it:List (FuncId×FuncId×Nat)} (hg:qo P gl ni (qC P it f) (zH fn k) L) :
  ∃fn' c c',P.funcs[((f,k),L).1.1]?=some fn'∧fn'.body=some c∧(zn c)[((f,k),L).1.2]?=some c'∧qo P gl ni (qC P it ((f,k),L).1.1) c' ((f,k),L).2:=by
 refine⟨fn,q5d fn,zH fn k,hf,?_,?_,hg⟩
 ·unfold q5d
  cases h:fn.body with
  | none=>rw[h] at hb;cases hb
  | some c=>rfl
 ·show (zn (q5d fn))[k]?=some (zH fn k)
  unfold zH
  cases h:(zn (q5d fn))[k]? with
  | none=>rw[h] at hn;cases hn
  | some c=>rfl
def qtR:Code→Bool
 | .loop _=>true
 | _=>false
theorem qvr{A C:List Code}(hA:∀(k:Nat) (d:Code),A[k]?=some d→∀(j:Nat) (c':Code),(zn d)[j]?=some c'→A[k+j]?=some c')(hC:∀(k:Nat) (d:Code),C[k]?=some d→∀(j:Nat) (c':Code),(zn d)[j]?=some c'→C[k+j]?=some c') :
  ∀(k:Nat) (d:Code),(A++C)[k]?=some d→∀(j:Nat) (c':Code),(zn d)[j]?=some c'→(A++C)[k+j]?=some c':=by
 intro k d hd j c' hc
 rcases Nat.lt_or_ge k A.length with h|h
 ·rw[List.getElem?_append_left h] at hd
  have:=hA k d hd j c' hc
  rw[List.getElem?_append_left (qp this)];exact this
 ·rw[List.getElem?_append_right h] at hd
  have:=hC _ d hd j c' hc
  rw[List.getElem?_append_right (by omega),show k+j-A.length=k-A.length+j by omega];exact this
theorem qqL{c:Code}{l:List Code}(hc:zn c=c::l)(hl:∀(k:Nat) (d:Code),l[k]?=some d→∀(j:Nat) (c':Code),(zn d)[j]?=some c'→l[k+j]?=some c') :
  ∀(k:Nat) (d:Code),(c::l)[k]?=some d→∀(j:Nat) (c':Code),(zn d)[j]?=some c'→(c::l)[k+j]?=some c':=by
 intro k d hd j c' hj
 cases k with
 | zero=>
  simp only[List.getElem?_cons_zero,Option.some.injEq] at hd
  subst hd
  rw[hc] at hj
  simpa using hj
 | succ k=>
  simp only[List.getElem?_cons_succ] at hd
  have:=hl k d hd j c' hj
  rw[show k+1+j=(k+j)+1 by omega,List.getElem?_cons_succ];exact this
theorem qsQ:∀(c:Code) (k:Nat) (d:Code),(zn c)[k]?=some d→∀(j:Nat) (c':Code),(zn d)[j]?=some c'→(zn c)[k+j]?=some c':=by
 intro c
 induction c with
 | seq a b iha ihb=>exact qqL rfl (qvr iha ihb)
 | cond x a b iha ihb=>exact qvr iha ihb
 | block id c ih=>exact ih
 | scope c ih=>exact ih
 | loop c ih=>exact qqL rfl ih
 | rangeFunc x ps a b iha ihb=>exact qqL rfl (qvr iha ihb)
 | _=>intro k d hd;simp[zn] at hd
theorem qyJ{fn:Func}{k:Nat}(h:((zn (q5d fn))[k]?).isSome=true):(zn (q5d fn))[k]?=some (zH fn k):=by
 unfold zH
 cases h':(zn (q5d fn))[k]? with
 | none=>rw[h'] at h;cases h
 | some c=>rfl
def qDp(E:Env)(P:Program)(f:FuncId):Option (FuncId×Func×Nat)→Prop
 | none=>q77 E.iter f=true
 | some (fc,fnc,kc)=>P.funcs[fc]?=some fnc∧(qpo E.iter f fc kc&&(q77 E.iter fc&&(fnc.body.isSome&&((zn (q5d fnc))[kc]?).isSome)))=true
theorem qql{fn:Func}(h:fn.body.isSome=true):fn.body=some (q5d fn):=by
 unfold q5d
 cases hb:fn.body with
 | none=>rw[hb] at h;cases h
 | some c=>rfl
theorem qCD{E:Env}{P:Program}(hm:P.follows .mixedOrders=true)(h:EnvOK E P){f:FuncId}{y:Option (FuncId×Func×Nat)}(hy:qDp E P f y):(∀B,qC P E.iter f B→CallOK E P (hdl E y) B)∧qht E P (rgh E y):=by
 have hcall:=qeD hm h.tok h.specs h.loops h.bodies 9
 cases y with
 | none=>exact⟨fun B _=>hcall B,qcc hm h.tok h.specs h.loops h.bodies hcall⟩
 | some y=>
  obtain⟨fc,fnc,kc⟩:=y
  obtain⟨hf,hc⟩:=hy
  simp only[Bool.and_eq_true] at hc
  obtain⟨c1,c2,c3,c4⟩:=hc
  refine⟨fun B hB=>⟨(hcall B).fn,?_⟩,qjU E P⟩
  have hfi:qg5 E.iter f=some (fc,kc):=by
   unfold qpo at c1
   split at c1
   ·rename_i z hz
    simp only[Bool.and_eq_true] at c1
    rw[hz]
    obtain⟨z1,z2⟩:=z
    have e1:z1=fc:=Nat.eq_of_beq_eq_true c1.1
    have e2:z2=kc:=Nat.eq_of_beq_eq_true c1.2
    rw[e1,e2]
   ·cases c1
  obtain⟨_,hI⟩:=hB
  rw[hfi] at hI
  have hnode:=qyJ c4
  have hsub:=qsQ (q5d fnc) kc _ hnode
  intro args st r X a vargs hs ha hr
  simp only[hdl,qAP,qEq] at hr
  cases hn:zH fnc kc with
  | rangeFunc x ps c d=>
   rw[hn] at hr hnode hsub
   refine qwk hf (qql c3) hnode c2 (fun B X st act r hbo hs hr n=>?_) (fun B X st act r hbo hs hr n=>?_) hI args st r X a vargs hs ha hr
   ·refine qax hm h.tok h.specs h.loops hf (qql c3) (fun B _=>hcall B) (qav hm h.tok h.specs h.loops h.bodies) (q73 E) (qcc hm h.tok h.specs h.loops h.bodies hcall) c (kc+1) (fun j c' hj=>?_) hbo hs hr
    have:=hsub (1+j) c' (by simp only[zn];rw[Nat.add_comm,List.getElem?_cons_succ,List.getElem?_append_left (qp hj)];exact hj)
    rw[show kc+1+j=kc+(1+j) by omega];exact this
   ·refine qax hm h.tok h.specs h.loops hf (qql c3) (fun B _=>hcall B) (qav hm h.tok h.specs h.loops h.bodies) (q73 E) (qcc hm h.tok h.specs h.loops h.bodies hcall) d (kc+1+wd c) (fun j c' hj=>?_) hbo hs hr
    have:=hsub (1+wd c+j) c' (by
     simp only[zn]
     rw[show 1+wd c+j=(wd c+j)+1 by omega,List.getElem?_cons_succ,List.getElem?_append_right (by rw[ka];omega),ka]
     rw[show wd c+j-wd c=j by omega];exact hj)
    rw[show kc+1+wd c+j=kc+(1+wd c+j) by omega];exact this
  | _=>rw[hn] at hr;cases hr
theorem q7r{E:Env}{P:Program}(hm:P.follows .mixedOrders=true)(h:EnvOK E P){f k:Nat}{fn:Func}(hf:P.funcs[f]?=some fn)
  (hlp:qtR (zH fn k)=true) {tin:Tmpl} {outs:List Out} {S:List PV→TR} {y:Option (FuncId×Func×Nat)} (hy:qDp E P f y)
  (hk:(tin.ok E.nimp&&outs.all fun o=>o.tm.ok E.nimp)=true)
  (hnk:(fn.body.isSome&&((zn (q5d fn))[k]?).isSome)=true)
  (hS:∀ps,S ps=qsK E y f fn k tin outs ps):qo P E.glob E.nimp (qC P E.iter f) (zH fn k) (ql tin outs (qh S)):=by
 simp only[Bool.and_eq_true] at hk hnk
 have hnode:=qyJ hnk.2
 have hsub:∀j c',(zn (qjN (zH fn k)))[j]?=some c'→(zn (q5d fn))[k+1+j]?=some c':=by
  intro j c' hj
  have:=qsQ (q5d fn) k _ hnode (1+j) c' (by
   cases hn:zH fn k<;>simp[hn,qtR] at hlp
   rw[hn] at hj
   simp only[zn,qjN] at hj ⊢
   rw[Nat.add_comm,List.getElem?_cons_succ];exact hj)
  rw[show k+1+j=k+(1+j) by omega];exact this
 have hc:zH fn k=.loop (qjN (zH fn k)):=by
  cases hn:zH fn k<;>simp[hn,qtR] at hlp
  rfl
 rw[hc]
 refine qyB (ev:=qkZ E y f fn k) (S:=S) ?_ hk.1 hk.2 (fun ps r _ hr=>by rw[hS] at hr;exact hr) (fun ps=>⟨qfB,rfl⟩)
 intro n0 B X st a r hbo hs hr
 obtain⟨w1,w2⟩:=qCD hm h hy
 exact qax hm h.tok h.specs h.loops hf (qql hnk.1) w1 (qav hm h.tok h.specs h.loops h.bodies) (q73 E) w2 (qjN (zH fn k)) (k+1) hsub hbo hs hr
theorem quZ{E:Env}{P:Program}(hm:P.follows .mixedOrders=true)(h:EnvOK E P){f k:Nat}{fn:Func}(hf:P.funcs[f]?=some fn)
  (hlp:qtR (zH fn k)=true) {tin:Tmpl} {outs:List Out} {S:List PV→TR} (hni:q77 E.iter f=true)
  (hk:(tin.ok E.nimp&&outs.all fun o=>o.tm.ok E.nimp)=true)
  (hnk:(fn.body.isSome&&((zn (q5d fn))[k]?).isSome)=true)
  (hS:∀ps,S ps=jl E f fn k tin outs ps):qo P E.glob E.nimp (qC P E.iter f) (zH fn k) (ql tin outs (qh S)):=
 q7r hm h hf hlp (y:=none) hni hk hnk hS
theorem qkW{E:Env}{P:Program}(hm:P.follows .mixedOrders=true)(h:EnvOK E P){f:FuncId}{fn:Func}(hf:P.funcs[f]?=some fn)
  (hn:((fn.name == "runtime.NumGoroutine")||fn.body.isNone)=false) {fz:Bool} {i:FIn} {outs:List FOut} {T:List PV→TR}
  (hk:(Nat.beq i.h.length E.nimp&&i.h.all BP.isCells&&outs.all fun o=>qbJ E.nimp o.h)=true)
  (hT:∀ps,T ps=qt E f fn fz i outs ps):zb P E.glob f (q9 i outs T):=by
 simp only[Bool.or_eq_false_iff] at hn
 simp only[Bool.and_eq_true] at hk
 exact qyw hm h.tok h.specs h.loops h.bodies hf hn.1 hn.2 (n:=9) (fz:=fz) ⟨Nat.eq_of_beq_eq_true hk.1.1,hk.1.2⟩ hk.2 (fun ps r _ hr=>by rw[hT] at hr;exact hr)
theorem b1 {P:Program} {f:FuncId} {fn:Func} (h:P.funcs[f]?=some fn) (hn:(fn.name == "runtime.NumGoroutine")=false:=by kernel_rfl):∀x,x∈[(f,fn)]→P.funcs[x.1]?=some x.2∧(x.2.name == "runtime.NumGoroutine")=false:=alc (qyP h hn) aln
theorem bk {P:Program} {f:FuncId} {fn:Func} (h:P.funcs[f]?=some fn) (hn:(fn.name == "runtime.NumGoroutine")=false:=by kernel_rfl):P.funcs[(f,fn).1]?=some (f,fn).2∧((f,fn).2.name == "runtime.NumGoroutine")=false:=qyP h hn
theorem lk{P:Program}{gl:List (Nat×AV)}{ni:Nat}{f k:Nat}{fn:Func}{L:St→Tree (Ex×St)}(hf:P.funcs[f]?=some fn)
  {it:List (FuncId×FuncId×Nat)} (hg:qo P gl ni (qC P it f) (zH fn k) L) (hb:fn.body.isSome=true:=by kernel_rfl) (hn:((zn (q5d fn))[k]?).isSome=true:=by kernel_rfl) :
  ∃fn' c c',P.funcs[((f,k),L).1.1]?=some fn'∧fn'.body=some c∧(zn c)[((f,k),L).1.2]?=some c'∧qo P gl ni (qC P it ((f,k),L).1.1) c' ((f,k),L).2:=qBZ hf hb hn hg
theorem sk(E:Env){P:Program}(hm:P.follows .mixedOrders=true)(ht:E.tt.map (fun x=>qtr P x.1)=E.tt.map (·.2))(hs:E.specs P)(hl:E.loopsOK P)(hb:E.bodies P){f:FuncId}{fn:Func}(hf:P.funcs[f]?=some fn)
  {i:FIn} {outs:List FOut} {T:List PV→TR} (hT:∀ps,T ps=qt E f fn true i outs ps:=by exact fun _=>rfl) (hn:((fn.name == "runtime.NumGoroutine")||fn.body.isNone)=false:=by kernel_rfl)
  (hk:(Nat.beq i.h.length E.nimp&&i.h.all BP.isCells&&outs.all fun o=>qbJ E.nimp o.h)=true:=by kernel_rfl):zb P E.glob f (q9 i outs T):=
 qkW hm ⟨q53 ht,hs,hl,hb⟩ hf hn hk hT
theorem gk(E:Env){P:Program}(hm:P.follows .mixedOrders=true)(ht:E.tt.map (fun x=>qtr P x.1)=E.tt.map (·.2))(hs:E.specs P)(hl:E.loopsOK P)(hb:E.bodies P){f k:Nat}{fn:Func}(hf:P.funcs[f]?=some fn)
  {tin:Tmpl} {outs:List Out} {S:List PV→TR} (hS:∀ps,S ps=jl E f fn k tin outs ps:=by exact fun _=>rfl) (hlp:qtR (zH fn k)=true:=by kernel_rfl) (hni:q77 E.iter f=true:=by kernel_rfl)
  (hk:(tin.ok E.nimp&&outs.all fun o=>o.tm.ok E.nimp)=true:=by kernel_rfl) (hnk:(fn.body.isSome&&((zn (q5d fn))[k]?).isSome)=true:=by kernel_rfl) :
  qo P E.glob E.nimp (qC P E.iter f) (zH fn k) (ql tin outs (qh S)):=
 quZ hm ⟨q53 ht,hs,hl,hb⟩ hf hlp hni hk hnk hS
end Go.Eng

namespace Go.Eng
open Go.Shelf Go.RowKit Go.Proofs Go.Sort
theorem ql7(w:World)(q:Nat)(os:Array Obj):Below w.heap.size w (grow (w.drewN q) os):=
 ⟨rfl,rfl,rfl,by simp[grow],fun i hi=>by
  show ((w.drewN q).heap++os)[i]?=_
  rw[Array.getElem?_append_left (by show i<w.heap.size;omega)]
  rfl⟩
theorem qtu(w:World)(e:TypeId)(s:ByteArray):Below w.heap.size w (Lib.bytesWorld w e s):=
 ⟨rfl,rfl,rfl,by rw[Lib.bytesWorld_size];omega,fun k hk=>Lib.bytesWorld_at_old w e s k (by omega)⟩
theorem HSim.grow{B:Base}{X:Ctx}(hs:HSim B X){w':World}(hb:Below X.w.heap.size X.w w'):HSim B { X with w:=w' }∧Ext X { X with w:=w' }:=by
 have hold:∀n (o:Obj),X.w.heap[n]?=some o→w'.heap[n]?=some o:=fun n o h=>(hb.block n (Array.getElem?_eq_some_iff.1 h).1).trans h
 have hx:Ext X { X with w:=w' }:=Move.of (fun _ h=>h) (fun a ha=>World.cell?_of_block (hb.block _ (hs.ltM _ ha))) (fun b b' hb' h=>by
  cases h
  exact⟨hb',rfl,fun _ _ h=>h,fun _ _ _ n _ c T fr h=>⟨c,T,fr,hold n _ h,rfl⟩⟩)
 refine⟨⟨fun b k hk=>?_,hs.inj,hs.notM,fun n hn=>Nat.lt_of_lt_of_le (hs.ltM n hn) hb.size,hs.M0,hs.newM,hb.os.trans hs.os,hb.tape.trans hs.tape,hb.output.trans hs.output,Nat.le_trans hs.size hb.size,
  fun n hn hni=>?_,hs.imps,hs.impc,hs.fresh,fun p hp=>?_⟩,hx⟩
 ·by_cases hd:k=.dead
  ·subst hd;trivial
  ·exact yQ.ext hx rfl (fun n hn=>hb.block n (hs.lt hk hd hn)) (hs.blk b k hk)
 ·show w'.heap[n]?=_
  rw[hb.block n (Nat.lt_of_lt_of_le hn hs.size)]
  exact hs.frame n hn hni
 ·obtain⟨q1,q2,q3⟩:=hs.kept p hp
  exact⟨hold _ _ q1,q2,q3⟩
theorem qfT{P:Program}{gl:List (Nat×AV)}{f:FuncId}{i:FIn}{o:FOut}{T:List PV→TR}(he:qjh P f)(hi:i.h.all BP.isCells=true)
  (h:∀(B:Base) (X:Ctx) (ps:List PV) (j:Nat) (qs:List PV) (vargs:List Value),HSim B X→qaI gl X→X.h=(i.make ps).2→RepL X (i.make ps).1 vargs→ps.map PV.kind=i.kinds→(T ps).run=some (j,qs) →
   j=0∧qs.map PV.kind=o.kinds∧(o.make qs).2=(i.make ps).2∧Calls P f vargs.toArray X.w fun e w'=>∃v,e=.returned v∧Below X.w.heap.size X.w w'∧Rep X (o.make qs).1 v) :
  zb P gl f (q9 i [o] T):=by
 refine⟨he,fun B X args vargs r hs hen hgl ha hr=>?_⟩
 obtain⟨ps,j,qs,h1,h2,h3⟩:=qs6 hr
 unfold FIn.take at h1
 obtain⟨x,y,g1,g2,rfl⟩:=q3R h1
 obtain⟨a1,a2,a3⟩:=AP.takeL_ok (X:=X) _ _ x y g1
 obtain⟨b1,b2,b3,b4,b5⟩:=BP.takeL_ok (X:=X) _ _ y [] g2
 rw[List.append_nil] at b3 b5
 have himp:B.imps.length=X.h.length:=by rw[hen.imps];simp
 obtain⟨d1,d2⟩:=qc0 hs (h':=(BP.makeL i.h y).1) b3 (fun b k' hb=>by obtain⟨k0,e1,e2,_⟩:=b5 b k' hb;exact⟨k0,e1,e2⟩)
  (fun b hb k' hk'=>by
   obtain⟨k0,_,_,e3⟩:=b5 b k' hk'
   have hlt:b<i.h.length:=by omega
   exact e3 i.h[b] (List.getElem?_eq_getElem hlt) (List.all_eq_true.1 hi _ (List.getElem_mem hlt)))
 have hkd:(x++y).map PV.kind=i.kinds:=by simp[FIn.kinds,a2,b2]
 have hgl1:qaI gl ({ X with h:=(BP.makeL i.h y).1 }:Ctx):=fun z hz=>⟨(hgl z hz).1,(hgl z hz).2.move d2.M d2.w ((hgl z hz).2.1.ext d2)⟩
 have hmk:i.make (x++y)=((AP.makeL i.args (x++y)).1,(BP.makeL i.h y).1):=by simp only[FIn.make,a1]
 obtain⟨k1,k2,k3,k4⟩:=h B _ (x++y) j qs vargs d1 hgl1 (by rw[hmk]) (by rw[hmk];exact(a3 _ ha).ext d2) hkd h2
 subst k1
 refine k4.mono fun e w' ⟨v,e1,e2,e3⟩=>?_
 obtain⟨m1,m2⟩:=d1.grow e2
 have hre:=qqz h2 [o] 0 o r (Nat.zero_le _) rfl k2 h3
 subst hre
 exact⟨v,_,e1,rfl,e3.ext m2,by rw[k3,hmk],m1,rfl⟩
theorem qvL{X:Ctx}{s:List UInt8}{vs:List Value}(h:RepL X [.str s] vs):vs=[.string ⟨s.toArray⟩]:=by
 cases h with
 | cons h t=>cases h;cases t;rfl
theorem qvT{X:Ctx}{k:IntKind}{n:Int}{vs:List Value}(h:RepL X [.int k n] vs):vs=[.int k n]:=by
 cases h with
 | cons h t=>cases h;cases t;rfl
theorem qmo{X:Ctx}{s t:List UInt8}{vs:List Value}(h:RepL X [.str s,.str t] vs):vs=[.string ⟨s.toArray⟩,.string ⟨t.toArray⟩]:=by
 cases h with
 | cons h t=>cases h;rw[qvL t]
theorem qBU{ps:List PV}(h:ps.map PV.kind=[.s]):∃s,ps=[.s s]:=by
 match ps,h with
 | [.s s],_=>exact⟨s,rfl⟩
theorem qC6{ps:List PV}(h:ps.map PV.kind=[.i]):∃s,ps=[.i s]:=by
 match ps,h with
 | [.i s],_=>exact⟨s,rfl⟩
theorem qrt{ps:List PV}(h:ps.map PV.kind=[.s,.s]):∃s t,ps=[.s s,.s t]:=by
 match ps,h with
 | [.s s,.s t],_=>exact⟨s,t,rfl⟩
def qsD:List PV→TR
 | [.s s,.s [c]]=>.leaf (0,[.i (Lib.indexByte s c)])
 | _=>.fail
theorem qvi{P:Program}{ρ:Ren}(L:Lays.n219 P ρ)(he:qjh P (ρ.f 219)){gl:List (Nat×AV)} :
  zb P gl (ρ.f 219) (q9 { args:=[.str,.str],h:=[] } [{ res:=.int .i64,h:=[] }] qsD):=
 qfT he rfl fun B X ps j qs vargs hs hg hh ha hk hT=>by
  obtain⟨s,t,rfl⟩:=qrt hk
  unfold qsD at hT
  split at hT
  ·rename_i s' c hps
   simp only[List.cons.injEq,PV.s.injEq,and_true] at hps
   obtain⟨rfl,rfl⟩:=hps
   cases hT
   have:=qmo ha
   subst this
   refine⟨rfl,rfl,rfl,(Any.stringslite_Index_one L ⟨s.toArray⟩ c X.w).mono fun e w' ⟨h1,h2⟩=>?_⟩
   subst h2
   exact⟨_,h1,Below.refl _ _,.int _ _⟩
  ·cases hT
def qmi:List PV→TR
 | [.s s,.s t]=>.leaf (0,[.i (Lib.compareBytes s t)])
 | _=>.fail
theorem qqD{P:Program}{ρ:Ren}(L:Lays.n106 P ρ)(he:qjh P (ρ.f 106)){gl:List (Nat×AV)} :
  zb P gl (ρ.f 106) (q9 { args:=[.str,.str],h:=[] } [{ res:=.int .i64,h:=[] }] qmi):=
 qfT he rfl fun B X ps j qs vargs hs hg hh ha hk hT=>by
  obtain⟨s,t,rfl⟩:=qrt hk
  cases hT
  have:=qmo ha
  subst this
  refine⟨rfl,rfl,rfl,(Any.strings_Compare L ⟨s.toArray⟩ ⟨t.toArray⟩ X.w).mono fun e w' ⟨h1,h2⟩=>?_⟩
  subst h2
  exact⟨_,h1,Below.refl _ _,.int _ _⟩
def qyq:List PV→TR
 | [.s s,.s t]=>if s.length≤9223372036854775807∧t.length<4294967281∧t.all (fun b=>decide (b.toNat<128))=true then .leaf (0,[.s (Lib.trimS s t)]) else .fail
 | _=>.fail
theorem qxz{P:Program}{ρ:Ren}(L:Lays.n160 P ρ)(he:qjh P (ρ.f 160))(h116:(P.info? (ρ.t 116)).map (fun i=>(i.zero,i.size))=some (some (.agg (Array.replicate 256 (.bool false))),256)){gl:List (Nat×AV)} :
  zb P gl (ρ.f 160) (q9 { args:=[.str,.str],h:=[] } [{ res:=.str,h:=[] }] qyq):=
 qfT he rfl fun B X ps j qs vargs hs hg hh ha hk hT=>by
  obtain⟨s,t,rfl⟩:=qrt hk
  simp only[qyq] at hT
  split at hT
  ·rename_i hc
   cases hT
   have:=qmo ha
   subst this
   refine⟨rfl,rfl,rfl,(Any.strings_Trim_laid L h116 ⟨s.toArray⟩ ⟨t.toArray⟩ X.w (by simpa[ByteArray.size] using hc.1) (by simpa[ByteArray.size] using hc.2.1) (fun j b hj=>?_)).mono fun e w' ⟨h1,h2⟩=>⟨_,h1,h2,.str _⟩⟩
   have h3:=hc.2.2
   rw[List.all_eq_true] at h3
   simpa using h3 b (List.mem_of_getElem? hj)
  ·cases hT
def qBA:R:=[Lib.pow10Tab.map U.i]
def qzA:List PV→TR
 | [.i n]=>if -9223372036854775808≤n∧n≤9223372036854775807 then .leaf (0,[.s (Lib.itoa n)]) else .fail
 | _=>.fail
theorem qnw{P:Program}{X:Ctx}{g:Nat}{k:IntKind}{zs:List Int}{name:String}(hn:P.globalNamed name=some g)(hz:zs≠[])
  (h:qA9 X (g,.eptr (zs.map fun _=>.int k) [zs.map U.i] 0 0)):Lib.TabIs P X.w name k zs:=by
 obtain⟨h1,h2,h3⟩:=h
 simp only at h1 h2 h3
 have hcell:∀j (hj:j<zs.length),X.w.cell? ⟨g,j,none⟩=some (.int k zs[j]):=by
  intro j hj
  generalize hv:(Value.pointer (some ⟨g,0,none⟩))=vv at h1
  cases h1 with
  | eptr _ _ _ _ a hsp h0 hl hr=>
   simp only[Value.pointer.injEq,Option.some.injEq,Addr.mk.injEq] at hv
   obtain⟨v1,v2,_⟩:=hv
   obtain⟨hM,v,e1,e2⟩:=hr 0 j (by simpa using hj) (by simp)
   have ho:a.off=0:=by omega
   have e1':X.w.cell? ⟨g,j,none⟩=some v:=by
    rw[Nat.zero_mul,Nat.add_zero,ho,Nat.zero_add,←v1] at e1
    exact e1
   rw[e1']
   have e2':RepU X.w X.M (.int k) (U.i zs[j]) v:=by
    simpa[wJ,List.getD_eq_getElem?_getD,hj] using e2
   cases e2'
   rfl
 unfold Lib.TabIs World.var?
 rw[hn]
 simp only[Option.bind_some]
 have h0:=hcell 0 (List.length_pos_iff.2 hz)
 unfold World.cell? at h0
 simp only at h0
 split at h0
 ·rename_i cs T fr hheap
  rw[hheap]
  simp only
  congr 1
  have hsz:cs.size≤zs.length:=by
   have h4:X.w.cell? ⟨g,zs.length,none⟩=none:=by
    simpa[AV.span] using h3
   unfold World.cell? at h4
   simp only[hheap] at h4
   simpa using h4
  apply Array.ext
  ·simp
   rcases Nat.lt_or_ge cs.size zs.length with hlt|hge
   ·have:=hcell cs.size hlt
    unfold World.cell? at this
    simp[hheap] at this
   ·omega
  ·intro j hj hj2
   have hjz:j<zs.length:=by omega
   have:=hcell j hjz
   unfold World.cell? at this
   simp only[hheap] at this
   simp[hj] at this
   simp[this]
 ·cases h0
theorem qxm {P:Program} {ρ:Ren} (L:LaysM.n171 P ρ) (he:qjh P (ρ.f 171)) {gl:List (Nat×AV)} {g:Nat} (hn:P.globalNamed "internal/strconv.uint64pow10" = some g)
  (hg:(g,AV.eptr (Lib.pow10Tab.map fun _=>.int .u64) qBA 0 0)∈gl) :
  zb P gl (ρ.f 171) (q9 { args:=[.int .i64],h:=[] } [{ res:=.str,h:=[] }] qzA):=
 qfT he rfl fun B X ps j qs vargs hs hgl hh ha hk hT=>by
  obtain⟨n,rfl⟩:=qC6 hk
  simp only[qzA] at hT
  split at hT
  ·rename_i hc
   cases hT
   have:=qvT ha
   subst this
   refine⟨rfl,rfl,rfl,(Any.strconv_Itoa L n hc.1 hc.2 X.w (qnw hn (by decide) (hgl _ hg).2)).mono fun e w' ⟨h1,k,os,h2⟩=>⟨_,h1,?_,.str _⟩⟩
   subst h2
   exact ql7 _ _ _
  ·cases hT
def qzV:List PV→TR
 | [.s s]=>if s.length≤18 then (match Lib.atoi s with|some n=>.leaf (0,[.i n])|none=>.fail) else .fail
 | _=>.fail
theorem qwM{P:Program}{ρ:Ren}(L:Lays.n172 P ρ)(he:qjh P (ρ.f 172)){gl:List (Nat×AV)} :
  zb P gl (ρ.f 172) (q9 { args:=[.str],h:=[] } [{ res:=.tuple [.int .i64,.any],h:=[] }] qzV):=
 qfT he rfl fun B X ps j qs vargs hs hg hh ha hk hT=>by
  obtain⟨s,rfl⟩:=qBU hk
  simp only[qzV] at hT
  split at hT
  ·rename_i hc
   split at hT
   ·rename_i n hn
    cases hT
    have:=qvL ha
    subst this
    refine⟨rfl,rfl,rfl,(Any.strconv_Atoi L ⟨s.toArray⟩ n (by simpa[ByteArray.size] using hc) (by simpa using hn) X.w).mono fun e w' ⟨h1,t,h2⟩=>⟨_,h1,?_,.tuple _ _ (.cons (.int _ _) (.cons (.undef _) .nil))⟩⟩
    subst h2
    exact qtu _ _ _
   ·cases hT
  ·cases hT
def qz8(s:List UInt8):List UInt8:=qbV (qet [48,48,48,48,48,48,48,48,48] (qu s) 9) s
def qjz(w:R):Nat→List UInt8
 | 0=>[]
 | i+1=>qz8 (Lib.itoa (cI w i 0))++qjz w i
def qzy(b:Bool)(n:Int)(w:R):List UInt8:=if n=0 then [48] else (if b then [45] else [])++Lib.itoa (cI w (n-1) 0)++qjz w (n-1).toNat
def qrs(n:Int)(w:R):Bool:=decide (0≤n)&&decide (n≤232)&&(List.range n.toNat).all fun i=>decide (0≤cI w i 0∧cI w i 0<1000000000)
def qyV:List PV→TR
 | [.b b,.i n,.r w]=>if qrs n w then .leaf (0,[.s (qzy b n w),.b b,.i n,.r w]) else .fail
 | _=>.fail
end Go.Eng

namespace Go.Proofs
open Go.Shelf
def Tryz.lays219_ren:Go.Shelf.Ren:=⟨fun|219=>228|217=>245|225=>246|224=>247|267=>248|266=>260|314=>261|n=>n,fun|9=>9|3=>3|4=>4|5=>5|46=>281|146=>298|51=>279|n=>n,fun|1=>2|n=>n⟩
theorem Tryz.lays219:Go.Proofs.Lays.n219 Tryz.prog Tryz.lays219_ren:={
 mixed:=by kernel_rfl
 f217:=Tryz.func245.trans (congrArg some (by kernel_rfl))
 f219:=Tryz.func228.trans (congrArg some (by kernel_rfl))
 f224:=Tryz.func247.trans (congrArg some (by kernel_rfl))
 f225:=Tryz.func246.trans (congrArg some (by kernel_rfl))
 f266:=Tryz.func260.trans (congrArg some (by kernel_rfl))
 f267:=Tryz.func248.trans (congrArg some (by kernel_rfl))
 f314:=Tryz.func261.trans (congrArg some (by kernel_rfl))
 t3:=Tryz.underlying3
 a3:=Tryz.isAgg3
 z3:=Tryz.sizeOf3
 v3:=Tryz.zeroValue3
 t4:=Tryz.underlying4
 a4:=Tryz.isAgg4
 z4:=Tryz.sizeOf4
 v4:=Tryz.zeroValue4
 t5:=Tryz.underlying5
 a5:=Tryz.isAgg5
 z5:=Tryz.sizeOf5
 v5:=Tryz.zeroValue5
 t9:=Tryz.underlying9
 a9:=Tryz.isAgg9
 z9:=Tryz.sizeOf9
 v9:=Tryz.zeroValue9
 t46:=Tryz.underlying281
 a46:=Tryz.isAgg281
 z46:=Tryz.sizeOf281
 v46:=Tryz.zeroValue281
 t51:=Tryz.underlying279
 a51:=Tryz.isAgg279
 z51:=Tryz.sizeOf279
 v51:=Tryz.zeroValue279
 t146:=Tryz.underlying298
 a146:=Tryz.isAgg298
 z146:=Tryz.sizeOf298
 v146:=Tryz.zeroValue298
 g1:=by kernel_rfl }
def Tryz.lays106_ren:Go.Shelf.Ren:=⟨fun|106=>207|213=>232|265=>254|n=>n,fun|9=>9|3=>3|n=>n,fun|n=>n⟩
theorem Tryz.lays106:Go.Proofs.Lays.n106 Tryz.prog Tryz.lays106_ren:={
 mixed:=by kernel_rfl
 f106:=Tryz.func207.trans (congrArg some (by kernel_rfl))
 f213:=Tryz.func232.trans (congrArg some (by kernel_rfl))
 f265:=Tryz.func254.trans (congrArg some (by kernel_rfl))
 t3:=Tryz.underlying3
 a3:=Tryz.isAgg3
 z3:=Tryz.sizeOf3
 v3:=Tryz.zeroValue3
 t9:=Tryz.underlying9
 a9:=Tryz.isAgg9
 z9:=Tryz.sizeOf9
 v9:=Tryz.zeroValue9 }
def Tryz.lays160_ren:Go.Shelf.Ren:=⟨fun|160=>158|232=>191|231=>190|227=>192|234=>194|233=>193|236=>196|235=>195|228=>218|271=>221|151=>220|197=>219|120=>239|152=>238|260=>237|137=>256|119=>257|224=>247|225=>246|217=>245|266=>260|n=>n,fun|9=>9|4=>4|3=>3|5=>5|117=>234|116=>233|0=>0|124=>237|21=>21|105=>261|46=>281|119=>292|139=>295|138=>294|n=>n,fun|3=>3|4=>4|n=>n⟩
theorem Tryz.lays160:Go.Proofs.Lays.n160 Tryz.prog Tryz.lays160_ren:={
 mixed:=by kernel_rfl
 f119:=Tryz.func257.trans (congrArg some (by kernel_rfl))
 f120:=Tryz.func239.trans (congrArg some (by kernel_rfl))
 f137:=Tryz.func256.trans (congrArg some (by kernel_rfl))
 f151:=Tryz.func220.trans (congrArg some (by kernel_rfl))
 f152:=Tryz.func238.trans (congrArg some (by kernel_rfl))
 f160:=Tryz.func158.trans (congrArg some (by kernel_rfl))
 f197:=Tryz.func219.trans (congrArg some (by kernel_rfl))
 f217:=Tryz.func245.trans (congrArg some (by kernel_rfl))
 f224:=Tryz.func247.trans (congrArg some (by kernel_rfl))
 f225:=Tryz.func246.trans (congrArg some (by kernel_rfl))
 f227:=Tryz.func192.trans (congrArg some (by kernel_rfl))
 f228:=Tryz.func218.trans (congrArg some (by kernel_rfl))
 f231:=Tryz.func190.trans (congrArg some (by kernel_rfl))
 f232:=Tryz.func191.trans (congrArg some (by kernel_rfl))
 f233:=Tryz.func193.trans (congrArg some (by kernel_rfl))
 f234:=Tryz.func194.trans (congrArg some (by kernel_rfl))
 f235:=Tryz.func195.trans (congrArg some (by kernel_rfl))
 f236:=Tryz.func196.trans (congrArg some (by kernel_rfl))
 f260:=Tryz.func237.trans (congrArg some (by kernel_rfl))
 f266:=Tryz.func260.trans (congrArg some (by kernel_rfl))
 f271:=Tryz.func221.trans (congrArg some (by kernel_rfl))
 t0:=Tryz.underlying0
 a0:=Tryz.isAgg0
 z0:=Tryz.sizeOf0
 v0:=Tryz.zeroValue0
 t3:=Tryz.underlying3
 a3:=Tryz.isAgg3
 z3:=Tryz.sizeOf3
 v3:=Tryz.zeroValue3
 t4:=Tryz.underlying4
 a4:=Tryz.isAgg4
 z4:=Tryz.sizeOf4
 v4:=Tryz.zeroValue4
 t5:=Tryz.underlying5
 a5:=Tryz.isAgg5
 z5:=Tryz.sizeOf5
 v5:=Tryz.zeroValue5
 t9:=Tryz.underlying9
 a9:=Tryz.isAgg9
 z9:=Tryz.sizeOf9
 v9:=Tryz.zeroValue9
 t21:=Tryz.underlying21
 a21:=Tryz.isAgg21
 z21:=Tryz.sizeOf21
 v21:=Tryz.zeroValue21
 t46:=Tryz.underlying281
 a46:=Tryz.isAgg281
 z46:=Tryz.sizeOf281
 v46:=Tryz.zeroValue281
 t105:=Tryz.underlying261
 a105:=Tryz.isAgg261
 z105:=Tryz.sizeOf261
 v105:=Tryz.zeroValue261
 t116:=Tryz.underlying233
 a116:=Tryz.isAgg233
 z116:=Tryz.sizeOf233
 t117:=Tryz.underlying234
 a117:=Tryz.isAgg234
 z117:=Tryz.sizeOf234
 v117:=Tryz.zeroValue234
 t119:=Tryz.underlying292
 a119:=Tryz.isAgg292
 z119:=Tryz.sizeOf292
 t124:=Tryz.underlying237
 a124:=Tryz.isAgg237
 z124:=Tryz.sizeOf237
 v124:=Tryz.zeroValue237
 t138:=Tryz.underlying294
 a138:=Tryz.isAgg294
 z138:=Tryz.sizeOf294
 v138:=Tryz.zeroValue294
 t139:=Tryz.underlying295
 a139:=Tryz.isAgg295
 z139:=Tryz.sizeOf295
 v139:=Tryz.zeroValue295
 g3:=by kernel_rfl
 g4:=by kernel_rfl }
def Tryz.lays172_ren:Go.Shelf.Ren:=⟨fun|172=>202|244=>229|245=>230|247=>249|279=>250|280=>251|281=>252|282=>253|287=>262|316=>263|171=>132|205=>264|321=>265|322=>266|243=>163|246=>200|283=>224|284=>225|285=>226|286=>227|129=>241|317=>240|318=>242|319=>243|320=>244|337=>258|338=>259|n=>n,fun|9=>9|3=>3|75=>242|76=>243|4=>4|5=>5|167=>284|37=>179|0=>0|85=>285|2=>2|168=>287|53=>266|175=>300|46=>281|210=>303|127=>273|145=>311|143=>309|21=>21|171=>265|173=>269|212=>278|51=>279|20=>20|213=>280|232=>305|233=>306|80=>255|n=>n,fun|15=>5|16=>6|17=>1|18=>7|19=>8|n=>n⟩
theorem Tryz.lays172:Go.Proofs.Lays.n172 Tryz.prog Tryz.lays172_ren:={
 mixed:=by kernel_rfl
 f129:=Tryz.func241.trans (congrArg some (by kernel_rfl))
 f171:=Tryz.func132.trans (congrArg some (by kernel_rfl))
 f172:=Tryz.func202.trans (congrArg some (by kernel_rfl))
 f205:=Tryz.func264.trans (congrArg some (by kernel_rfl))
 f243:=Tryz.func163.trans (congrArg some (by kernel_rfl))
 f244:=Tryz.func229.trans (congrArg some (by kernel_rfl))
 f245:=Tryz.func230.trans (congrArg some (by kernel_rfl))
 f246:=Tryz.func200.trans (congrArg some (by kernel_rfl))
 f247:=Tryz.func249.trans (congrArg some (by kernel_rfl))
 f279:=Tryz.func250.trans (congrArg some (by kernel_rfl))
 f280:=Tryz.func251.trans (congrArg some (by kernel_rfl))
 f281:=Tryz.func252.trans (congrArg some (by kernel_rfl))
 f282:=Tryz.func253.trans (congrArg some (by kernel_rfl))
 f283:=Tryz.func224.trans (congrArg some (by kernel_rfl))
 f284:=Tryz.func225.trans (congrArg some (by kernel_rfl))
 f285:=Tryz.func226.trans (congrArg some (by kernel_rfl))
 f286:=Tryz.func227.trans (congrArg some (by kernel_rfl))
 f287:=Tryz.func262.trans (congrArg some (by kernel_rfl))
 f316:=Tryz.func263.trans (congrArg some (by kernel_rfl))
 f317:=Tryz.func240.trans (congrArg some (by kernel_rfl))
 f318:=Tryz.func242.trans (congrArg some (by kernel_rfl))
 f319:=Tryz.func243.trans (congrArg some (by kernel_rfl))
 f320:=Tryz.func244.trans (congrArg some (by kernel_rfl))
 f321:=Tryz.func265.trans (congrArg some (by kernel_rfl))
 f322:=Tryz.func266.trans (congrArg some (by kernel_rfl))
 f337:=Tryz.func258.trans (congrArg some (by kernel_rfl))
 f338:=Tryz.func259.trans (congrArg some (by kernel_rfl))
 t0:=Tryz.underlying0
 a0:=Tryz.isAgg0
 z0:=Tryz.sizeOf0
 v0:=Tryz.zeroValue0
 t2:=Tryz.underlying2
 a2:=Tryz.isAgg2
 z2:=Tryz.sizeOf2
 v2:=Tryz.zeroValue2
 t3:=Tryz.underlying3
 a3:=Tryz.isAgg3
 z3:=Tryz.sizeOf3
 v3:=Tryz.zeroValue3
 t4:=Tryz.underlying4
 a4:=Tryz.isAgg4
 z4:=Tryz.sizeOf4
 v4:=Tryz.zeroValue4
 t5:=Tryz.underlying5
 a5:=Tryz.isAgg5
 z5:=Tryz.sizeOf5
 v5:=Tryz.zeroValue5
 t9:=Tryz.underlying9
 a9:=Tryz.isAgg9
 z9:=Tryz.sizeOf9
 v9:=Tryz.zeroValue9
 t20:=Tryz.underlying20
 a20:=Tryz.isAgg20
 z20:=Tryz.sizeOf20
 v20:=Tryz.zeroValue20
 t21:=Tryz.underlying21
 a21:=Tryz.isAgg21
 z21:=Tryz.sizeOf21
 v21:=Tryz.zeroValue21
 t37:=Tryz.underlying179
 a37:=Tryz.isAgg179
 z37:=Tryz.sizeOf179
 v37:=Tryz.zeroValue179
 t46:=Tryz.underlying281
 a46:=Tryz.isAgg281
 z46:=Tryz.sizeOf281
 v46:=Tryz.zeroValue281
 t51:=Tryz.underlying279
 a51:=Tryz.isAgg279
 z51:=Tryz.sizeOf279
 v51:=Tryz.zeroValue279
 t53:=Tryz.underlying266
 a53:=Tryz.isAgg266
 z53:=Tryz.sizeOf266
 v53:=Tryz.zeroValue266
 t75:=Tryz.underlying242
 a75:=Tryz.isAgg242
 z75:=Tryz.sizeOf242
 v75:=Tryz.zeroValue242
 t76:=Tryz.underlying243
 a76:=Tryz.isAgg243
 z76:=Tryz.sizeOf243
 v76:=Tryz.zeroValue243
 t85:=Tryz.underlying285
 a85:=Tryz.isAgg285
 z85:=Tryz.sizeOf285
 v85:=Tryz.zeroValue285
 t127:=Tryz.underlying273
 a127:=Tryz.isAgg273
 z127:=Tryz.sizeOf273
 v127:=Tryz.zeroValue273
 t143:=Tryz.underlying309
 a143:=Tryz.isAgg309
 z143:=Tryz.sizeOf309
 v143:=Tryz.zeroValue309
 t145:=Tryz.underlying311
 a145:=Tryz.isAgg311
 z145:=Tryz.sizeOf311
 v145:=Tryz.zeroValue311
 t167:=Tryz.underlying284
 a167:=Tryz.isAgg284
 z167:=Tryz.sizeOf284
 v167:=Tryz.zeroValue284
 t168:=Tryz.underlying287
 a168:=Tryz.isAgg287
 z168:=Tryz.sizeOf287
 v168:=Tryz.zeroValue287
 t171:=Tryz.underlying265
 a171:=Tryz.isAgg265
 z171:=Tryz.sizeOf265
 v171:=Tryz.zeroValue265
 t173:=Tryz.underlying269
 a173:=Tryz.isAgg269
 z173:=Tryz.sizeOf269
 v173:=Tryz.zeroValue269
 t175:=Tryz.underlying300
 a175:=Tryz.isAgg300
 z175:=Tryz.sizeOf300
 v175:=Tryz.zeroValue300
 t210:=Tryz.underlying303
 a210:=Tryz.isAgg303
 z210:=Tryz.sizeOf303
 v210:=Tryz.zeroValue303
 t212:=Tryz.underlying278
 a212:=Tryz.isAgg278
 z212:=Tryz.sizeOf278
 v212:=Tryz.zeroValue278
 t213:=Tryz.underlying280
 a213:=Tryz.isAgg280
 z213:=Tryz.sizeOf280
 t232:=Tryz.underlying305
 a232:=Tryz.isAgg305
 z232:=Tryz.sizeOf305
 v232:=Tryz.zeroValue305
 t233:=Tryz.underlying306
 a233:=Tryz.isAgg306
 z233:=Tryz.sizeOf306
 v233:=Tryz.zeroValue306
 g15:=by kernel_rfl
 g16:=by kernel_rfl
 g17:=by kernel_rfl
 g18:=by kernel_rfl
 g19:=by kernel_rfl }
def Tryz.lays169_ren:Go.Shelf.Ren:=⟨fun|169=>212|n=>n,fun|70=>251|9=>9|0=>0|72=>253|37=>179|127=>273|3=>3|5=>5|n=>n,fun|n=>n⟩
theorem Tryz.lays169:Go.Proofs.Lays.n169 Tryz.prog Tryz.lays169_ren:={
 mixed:=by kernel_rfl
 f169:=Tryz.func212.trans (congrArg some (by kernel_rfl))
 t0:=Tryz.underlying0
 a0:=Tryz.isAgg0
 z0:=Tryz.sizeOf0
 v0:=Tryz.zeroValue0
 t3:=Tryz.underlying3
 a3:=Tryz.isAgg3
 z3:=Tryz.sizeOf3
 v3:=Tryz.zeroValue3
 t9:=Tryz.underlying9
 a9:=Tryz.isAgg9
 z9:=Tryz.sizeOf9
 v9:=Tryz.zeroValue9
 t37:=Tryz.underlying179
 a37:=Tryz.isAgg179
 z37:=Tryz.sizeOf179
 v37:=Tryz.zeroValue179
 t70:=Tryz.underlying251
 a70:=Tryz.isAgg251
 z70:=Tryz.sizeOf251
 v70:=Tryz.zeroValue251
 t72:=Tryz.underlying253
 a72:=Tryz.isAgg253
 z72:=Tryz.sizeOf253
 v72:=Tryz.zeroValue253
 t127:=Tryz.underlying273
 a127:=Tryz.isAgg273
 z127:=Tryz.sizeOf273
 v127:=Tryz.zeroValue273 }
def Tryz.laysM171_ren:Go.Shelf.Ren:=⟨fun|171=>132|243=>163|246=>200|283=>224|284=>225|285=>226|286=>227|129=>241|317=>240|318=>242|319=>243|320=>244|337=>258|338=>259|n=>n,fun|3=>3|9=>9|2=>2|4=>4|171=>265|0=>0|53=>266|37=>179|5=>5|173=>269|212=>278|51=>279|20=>20|213=>280|46=>281|232=>305|233=>306|n=>n,fun|17=>1|18=>7|19=>8|n=>n⟩
theorem Tryz.laysM171:Go.Proofs.LaysM.n171 Tryz.prog Tryz.laysM171_ren:={
 mixed:=by kernel_rfl
 f129:=Tryz.func241.trans (congrArg some (by kernel_rfl))
 f171:=Tryz.func132.trans (congrArg some (by kernel_rfl))
 f243:=Tryz.func163.trans (congrArg some (by kernel_rfl))
 f246:=Tryz.func200.trans (congrArg some (by kernel_rfl))
 f283:=Tryz.func224.trans (congrArg some (by kernel_rfl))
 f284:=Tryz.func225.trans (congrArg some (by kernel_rfl))
 f285:=Tryz.func226.trans (congrArg some (by kernel_rfl))
 f286:=Tryz.func227.trans (congrArg some (by kernel_rfl))
 f317:=Tryz.func240.trans (congrArg some (by kernel_rfl))
 f318:=Tryz.func242.trans (congrArg some (by kernel_rfl))
 f319:=Tryz.func243.trans (congrArg some (by kernel_rfl))
 f320:=Tryz.func244.trans (congrArg some (by kernel_rfl))
 f337:=Tryz.func258.trans (congrArg some (by kernel_rfl))
 f338:=Tryz.func259.trans (congrArg some (by kernel_rfl))
 t0:=Tryz.underlying0
 a0:=Tryz.isAgg0
 z0:=Tryz.sizeOf0
 v0:=Tryz.zeroValue0
 t2:=Tryz.underlying2
 a2:=Tryz.isAgg2
 z2:=Tryz.sizeOf2
 v2:=Tryz.zeroValue2
 t3:=Tryz.underlying3
 a3:=Tryz.isAgg3
 z3:=Tryz.sizeOf3
 v3:=Tryz.zeroValue3
 t4:=Tryz.underlying4
 a4:=Tryz.isAgg4
 z4:=Tryz.sizeOf4
 v4:=Tryz.zeroValue4
 t5:=Tryz.underlying5
 a5:=Tryz.isAgg5
 z5:=Tryz.sizeOf5
 v5:=Tryz.zeroValue5
 t9:=Tryz.underlying9
 a9:=Tryz.isAgg9
 z9:=Tryz.sizeOf9
 v9:=Tryz.zeroValue9
 t20:=Tryz.underlying20
 a20:=Tryz.isAgg20
 z20:=Tryz.sizeOf20
 v20:=Tryz.zeroValue20
 t37:=Tryz.underlying179
 a37:=Tryz.isAgg179
 z37:=Tryz.sizeOf179
 v37:=Tryz.zeroValue179
 t46:=Tryz.underlying281
 a46:=Tryz.isAgg281
 z46:=Tryz.sizeOf281
 v46:=Tryz.zeroValue281
 t51:=Tryz.underlying279
 a51:=Tryz.isAgg279
 z51:=Tryz.sizeOf279
 v51:=Tryz.zeroValue279
 t53:=Tryz.underlying266
 a53:=Tryz.isAgg266
 z53:=Tryz.sizeOf266
 v53:=Tryz.zeroValue266
 t171:=Tryz.underlying265
 a171:=Tryz.isAgg265
 z171:=Tryz.sizeOf265
 v171:=Tryz.zeroValue265
 t173:=Tryz.underlying269
 a173:=Tryz.isAgg269
 z173:=Tryz.sizeOf269
 v173:=Tryz.zeroValue269
 t212:=Tryz.underlying278
 a212:=Tryz.isAgg278
 z212:=Tryz.sizeOf278
 v212:=Tryz.zeroValue278
 t213:=Tryz.underlying280
 a213:=Tryz.isAgg280
 z213:=Tryz.sizeOf280
 t232:=Tryz.underlying305
 a232:=Tryz.isAgg305
 z232:=Tryz.sizeOf305
 v232:=Tryz.zeroValue305
 t233:=Tryz.underlying306
 a233:=Tryz.isAgg306
 z233:=Tryz.sizeOf306
 v233:=Tryz.zeroValue306
 g17:=by kernel_rfl
 g18:=by kernel_rfl
 g19:=by kernel_rfl
 i0:=by kernel_rfl
 i2:=by kernel_rfl
 i3:=by kernel_rfl
 i4:=by kernel_rfl
 i5:=by kernel_rfl
 i9:=by kernel_rfl
 i20:=by kernel_rfl
 i37:=by kernel_rfl
 i46:=by kernel_rfl
 i51:=by kernel_rfl
 i53:=by kernel_rfl
 i171:=by kernel_rfl
 i173:=by kernel_rfl
 i212:=by kernel_rfl
 i232:=by kernel_rfl
 i233:=by kernel_rfl
 m17:=by kernel_rfl
 m18:=by kernel_rfl
 m19:=by kernel_rfl }
end Go.Proofs

namespace Go.Eng
open Go.Shelf Go.RowKit Go.Proofs
set_option maxHeartbeats 2000000 in
set_option maxRecDepth 100000 in
theorem qAS(b:Nat)(w:World)(h0:w.cell? ⟨b,0,none⟩=some (.pointer (some ⟨b,0,none⟩))) :
  Calls Tryz.prog 234 #[.pointer (some ⟨b,0,none⟩)] w fun e w'=>e=.returned (.tuple #[])∧w'=w:=by
 obtain⟨j,hj,_⟩:=Option.map_eq_some_iff.1 (show (Tryz.prog.info? 253).map (·.size)=some 2 by kernel_rfl)
 go_enter Tryz.func234,Tryz.ntmps234
 go_wp2
 rw[Lib.run_neq_ptr_same w ⟨b,0,none⟩ Tryz.underlying251 hj]
 go_wp2
 go_end0
 exact⟨rfl,rfl⟩
set_option maxHeartbeats 2000000 in
set_option maxRecDepth 100000 in
theorem qzZ(b:Nat)(w:World)(h0:w.cell? ⟨b,0,none⟩=some (.pointer none))(hsh:w.shape? b=some (253,2))(hfz:w.frozen? ⟨b,0,none⟩=false) :
  Calls Tryz.prog 234 #[.pointer (some ⟨b,0,none⟩)] w fun e w'=>e=.returned (.tuple #[])∧w'=w.setCell ⟨b,0,none⟩ (.pointer (some ⟨b,0,none⟩)):=by
 obtain⟨j,hj,hjs⟩:=Option.map_eq_some_iff.1 (show (Tryz.prog.info? 253).map (·.size)=some 2 by kernel_rfl)
 go_enter Tryz.func234,Tryz.ntmps234
 go_wp2
 rw[Lib.run_to_unsafe w ⟨b,0,none⟩ Tryz.underlying251 Tryz.underlying290 hj (by rw[hjs];decide) hsh (Nat.zero_lt_succ 1)]
 simp only[Result.andThen]
 rw[Oper.upon_value]
 go_wp2
 rw[run_callFunc_extern Tryz.func255 (by kernel_rfl) (by kernel_rfl) (by kernel_rfl) (e:=Extern.AbiNoEscape.same) (by kernel_rfl)]
 rw[Lib.run_noEscape]
 simp only[Result.andThen]
 rw[Oper.upon_value]
 go_wp2
 rw[Lib.run_from_unsafe w ⟨b,0,none⟩ Tryz.underlying290 Tryz.underlying251 hj hsh (by kernel_rfl)]
 simp only[Result.andThen]
 rw[Oper.upon_value]
 go_wp2
 go_end0
 exact⟨rfl,rfl⟩
abbrev BtB(B b:Nat)(bs:List Value)(w:World):Prop:=Lib.IsBuilder 253 5 B b bs w
set_option maxHeartbeats 2000000 in
set_option maxRecDepth 100000 in
theorem qtS(B b:Nat)(bs:List Value)(w:World)(h:BtB B b bs w) :
  Calls Tryz.prog 234 #[.pointer (some ⟨b,0,none⟩)] w fun e w'=>e=.returned (.tuple #[])∧Lib.BuilderAt 253 5 B b (.pointer (some ⟨b,0,none⟩)) bs w'∧Below B w w':=by
 rcases h with h|h
 ·refine(qzZ b w h.cell0 h.shape h.frozen0).mono ?_
  rintro e w' ⟨rfl,rfl⟩
  exact⟨rfl,h.used _,(Below.refl B w).setCell (p:=⟨b,0,none⟩) h.1 _⟩
 ·refine(qAS b w h.cell0).mono ?_
  rintro e w' ⟨rfl,rfl⟩
  exact⟨rfl,h,Below.refl B _⟩
set_option maxHeartbeats 2000000 in
set_option maxRecDepth 100000 in
theorem qAb(B b:Nat)(bs:List Value)(c:Int)(w:World)(h:BtB B b bs w)(hlen:bs.length+1≤140737488355328)(hBw:B≤w.heap.size) :
  Calls Tryz.prog 210 #[.pointer (some ⟨b,0,none⟩),.int .u8 c] w fun e w'=>e=.returned .nilIface∧BtB B b (bs++[.int .u8 c]) w'∧Below B w w':=by
 obtain⟨i0,hi,hz0,hz1,hz2⟩:=info_parts (show (Tryz.prog.info? 5).map (fun i=>(i.zero,i.size,i.bytes))=some (some (.int .u8 0),1,1) by kernel_rfl)
 go_enter Tryz.func210,Tryz.ntmps210
 go_wp2_with (go_at_call 234;refine(qtS B b bs _ h).mono ?_)
 rintro e w1 ⟨rfl,h1,hb1⟩
 obtain⟨hB,v,hbk,hown,hne⟩:=h1
 have c0:w1.cell? ⟨b,0,none⟩=some (.pointer (some ⟨b,0,none⟩)):=by rw[Lib.cell_of_heap hbk];rfl
 have c1:w1.cell? ⟨b,1,none⟩=some v:=by rw[Lib.cell_of_heap hbk];rfl
 have hsz1:=hb1.size
 go_wp2_with (at_builtin;refine wpList_append_own _ rfl _ _ 179 rfl B 5 i0 (.int .u8 0) 1 1 Tryz.underlying179 hi hz0 hz1 hz2 rfl (by decide) _ _ _ rfl (hown.alloc _) ⟨w1.heap.size,0,none⟩ 1 1 [.int .u8 c] rfl rfl ?c1 ?c2 ?c3 ?c4 ?c5 ?_)
 case c1=>
  intro j u hj
  match j,hj with
  | 0,hj=>simp at hj;subst hj;simp[Addr.add]
 case c2=>intro u hu;simp at hu;subst hu;rfl
 case c3=>unfold maxLen;omega
 case c4=>omega
 case c5=>simp;omega
 intro v' w2 hown' hgrow _
 have hlt:b<w1.heap.size:=by
  rcases Nat.lt_or_ge b w1.heap.size with h'|h'
  ·exact h'
  ·simp[Array.getElem?_eq_none h'] at hbk
 have hb2:w2.heap[b]?=some (.cells #[.pointer (some ⟨b,0,none⟩),v] 253 (0,0)):=by
  rw[hgrow.block b (by simp;omega) (fun e=>hne e.symm),Lib.alloc_old w1 _ b hlt]
  exact hbk
 have d0:w2.cell? ⟨b,0,none⟩=some (.pointer (some ⟨b,0,none⟩)):=by rw[Lib.cell_of_heap hb2];rfl
 have d1:w2.cell? ⟨b,1,none⟩=some v:=by rw[Lib.cell_of_heap hb2];rfl
 have f1:w2.frozen? ⟨b,1,none⟩=false:=Lib.frozen_of_heap hb2 1
 obtain⟨ao,n',cap,rfl⟩:∃ao n' cap,v'=.slice ao n' cap:=by
  rcases hown'.2 with⟨hv,_⟩|⟨g,cap,cur,hv,_⟩
  ·exact⟨_,_,_,hv⟩
  ·exact⟨_,_,_,hv⟩
 go_wp2
 go_ret
 refine⟨rfl,.inr ?_,?_⟩
 ·exact Lib.BuilderAt.put (T:=253) (e:=5) hB hb2 (bs':=bs++[.int .u8 c]) (by simpa using hown') (by decide)
 ·exact((hb1.alloc (by omega) _).grown hgrow (by simp;omega) (fun k hk=>(hown.lt k hk).1)).setCell (p:=⟨b,1,none⟩) hB _
set_option maxHeartbeats 2000000 in
set_option maxRecDepth 100000 in
theorem qy0(B b:Nat)(bs:List Value)(s:ByteArray)(w:World)(h:BtB B b bs w)(hlen:bs.length+s.size≤140737488355328)(hBw:B≤w.heap.size) :
  Calls Tryz.prog 211 #[.pointer (some ⟨b,0,none⟩),.string s] w fun e w'=>e=.returned (.tuple #[.int .i64 s.size,.nilIface])∧BtB B b (bs++Lib.strCells s) w'∧Below B w w':=by
 obtain⟨i0,hi,hz0,hz1,hz2⟩:=info_parts (show (Tryz.prog.info? 5).map (fun i=>(i.zero,i.size,i.bytes))=some (some (.int .u8 0),1,1) by kernel_rfl)
 go_enter Tryz.func211,Tryz.ntmps211
 go_wp2_with (go_at_call 234;refine(qtS B b bs _ h).mono ?_)
 rintro e w1 ⟨rfl,h1,hb1⟩
 obtain⟨hB,v,hbk,hown,hne⟩:=h1
 have c0:w1.cell? ⟨b,0,none⟩=some (.pointer (some ⟨b,0,none⟩)):=by rw[Lib.cell_of_heap hbk];rfl
 have c1:w1.cell? ⟨b,1,none⟩=some v:=by rw[Lib.cell_of_heap hbk];rfl
 have hsz1:=hb1.size
 go_wp2_with (at_builtin;refine Lib.wpList_append_own_string _ rfl _ _ 179 9 rfl B 5 i0 Tryz.underlying179 Tryz.underlying9 hi hz0 hz1 hz2 _ _ _ rfl hown s rfl ?c3 ?c4 ?c5 ?_)
 case c3=>unfold maxLen;omega
 case c4=>omega
 case c5=>omega
 intro v' w2 hown' hgrow _
 have hlt:b<w1.heap.size:=by
  rcases Nat.lt_or_ge b w1.heap.size with h'|h'
  ·exact h'
  ·simp[Array.getElem?_eq_none h'] at hbk
 have hb2:w2.heap[b]?=some (.cells #[.pointer (some ⟨b,0,none⟩),v] 253 (0,0)):=by
  rw[hgrow.block b hlt (fun e=>hne e.symm)]
  exact hbk
 have d0:w2.cell? ⟨b,0,none⟩=some (.pointer (some ⟨b,0,none⟩)):=by rw[Lib.cell_of_heap hb2];rfl
 have d1:w2.cell? ⟨b,1,none⟩=some v:=by rw[Lib.cell_of_heap hb2];rfl
 have f1:w2.frozen? ⟨b,1,none⟩=false:=Lib.frozen_of_heap hb2 1
 obtain⟨ao,n',cap,rfl⟩:∃ao n' cap,v'=.slice ao n' cap:=by
  rcases hown'.2 with⟨hv,_⟩|⟨g,cap,cur,hv,_⟩
  ·exact⟨_,_,_,hv⟩
  ·exact⟨_,_,_,hv⟩
 go_wp2
 go_ret2
 refine⟨rfl,.inr ?_,?_⟩
 ·exact Lib.BuilderAt.put (T:=253) (e:=5) hB hb2 (bs':=bs++Lib.strCells s) (by simpa[Lib.strCells_length] using hown') (by decide)
 ·exact(hb1.grown hgrow (by omega) (fun k hk=>(hown.lt k hk).1)).setCell (p:=⟨b,1,none⟩) hB _
theorem qzN:Builder.Extra Tryz.prog Tryz.lays169_ren where
 sizeBuilder:=by kernel_rfl
 liesBuilder:=by kernel_rfl
 t5:=Tryz.underlying5
 a5:=Tryz.isAgg5
 z5:=Tryz.sizeOf5
 v5:=Tryz.zeroValue5
 infoByte:=by kernel_rfl
 cellsByte:=by kernel_rfl
 sizeByte:=by kernel_rfl
 neB5:=by decide
set_option maxHeartbeats 2000000 in
set_option maxRecDepth 100000 in
theorem qwK(B b:Nat)(l:List UInt8)(w:World)(h:BtB B b (Lib.byteCells l) w)(h0:l≠[]) :
  Calls Tryz.prog 212 #[.pointer (some ⟨b,0,none⟩)] w fun e w'=>e=.returned (.string ⟨l.toArray⟩)∧Below B w w':=
 Any.Builder_String Tryz.lays169 qzN B b l w h h0
def qiU(f:Nat→Int):Nat→List UInt8
 | 0=>[]
 | i+1=>qz8 (Lib.itoa (f i))++qiU f i
def qwo(b:Bool)(n:Nat)(f:Nat→Int):List UInt8:=if n=0 then [48] else (if b then [45] else [])++Lib.itoa (f (n-1))++qiU f (n-1)
theorem qwi (n:Int) (h:-9223372036854775808≤n∧n≤9223372036854775807) (w:World) (ht:Lib.TabIs Tryz.prog w "internal/strconv.uint64pow10" .u64 Lib.pow10Tab) :
  Calls Tryz.prog 132 #[.int .i64 n] w fun e w'=>e=.returned (.string ⟨(Lib.itoa n).toArray⟩)∧Below w.heap.size w w':=
 (Any.strconv_Itoa Tryz.laysM171 n h.1 h.2 w ht).mono fun e w' ⟨h1,k,os,h2⟩=>⟨h1,by subst h2;exact ql7 _ _ _⟩
theorem qmB{P:Program}{w w':World}{name:String}{k:IntKind}{zs:List Int}(h:Lib.TabIs P w name k zs)(hb:Below w.heap.size w w'):Lib.TabIs P w' name k zs:=by
 unfold Lib.TabIs World.var? at *
 cases hg:P.globalNamed name with
 | none=>rw[hg] at h;cases h
 | some g=>
  rw[hg] at h
  simp only[Option.bind_some] at h ⊢
  by_cases hlt:g<w.heap.size
  ·rw[hb.block g hlt];exact h
  ·rw[Array.getElem?_eq_none (by omega)] at h;cases h
theorem qge{w w':World}(hb:Below w.heap.size w w'){n:Nat}(hn:n<w.heap.size)(o:Nat):w'.cell? ⟨n,o,none⟩=w.cell? ⟨n,o,none⟩:=World.cell?_of_block (hb.block n hn)
theorem qt4{B b:Nat}{bs:List Value}{w w':World}(h:BtB B b bs w)(hb:Below w.heap.size w w'):BtB B b bs w':=by
 have key:∀p,Lib.BuilderAt 253 5 B b p bs w→Lib.BuilderAt 253 5 B b p bs w':=by
  intro p h
  have hlt:=h.lt
  obtain⟨hB,v,hbk,⟨hl,hown⟩,hne⟩:=h
  refine⟨hB,v,(hb.block b hlt).trans hbk,⟨hl,?_⟩,hne⟩
  rcases hown with h|⟨g,cap,cur,h1,h2,h3,h4⟩
  ·exact .inl h
  ·exact .inr ⟨g,cap,cur,h1,h2,(hb.block g (Array.getElem?_eq_some_iff.1 h3).1).trans h3,h4⟩
 exact h.elim (fun x=>.inl (key _ x)) (fun x=>.inr (key _ x))
theorem qAg{B b:Nat}{bs:List Value}{w:World}(h:BtB B b bs w):BtB B b bs w.drew:=h.elim (fun x=>.inl x.drew) (fun x=>.inr x.drew)
theorem qzP:∀(k n:Nat),n<10^(k+1)→(Lib.decDigits n).length≤k+1
 | 0,n,h=>by rw[Lib.decDigits,dif_pos (by omega)];simp
 | k+1,n,h=>by
  rw[Lib.decDigits]
  split
  ·simp
  ·have:=qzP k (n/10) (by rw[Nat.pow_succ] at h;omega)
   simp;omega
theorem qAV{pre l:List UInt8}{k:Nat}(hp:pre.length≤k)(hl:l.length≤9)(hk:k≤100000:=by omega):(Lib.byteCells pre).length+(⟨l.toArray⟩:ByteArray).size≤140737488355328:=by
 rw[Lib.byteCells_length]
 have:(⟨l.toArray⟩:ByteArray).size=l.length:=by simp[ByteArray.size]
 omega
theorem qws{x:Int}(h:0≤x∧x<1000000000):(Lib.itoa x).length≤9:=by
 unfold Lib.itoa
 rw[if_neg (by omega)]
 exact qzP 8 _ (by omega)
theorem qwq{l:List UInt8}(h:l.length≤9):(qz8 l).length=9:=by
 unfold qz8 qbV qet qu
 simp;omega
theorem qya{l:List UInt8}(h:l.length≤9):(⟨#[48,48,48,48,48,48,48,48,48]⟩:ByteArray).extract l.length 9++⟨l.toArray⟩=⟨(qz8 l).toArray⟩:=by
 have key:∀k:Nat,k≤9→(⟨#[48,48,48,48,48,48,48,48,48]⟩:ByteArray).extract k 9=⟨(qet [48,48,48,48,48,48,48,48,48] (k:Int) 9).toArray⟩:=by
  intro k hk
  have:k=0∨k=1∨k=2∨k=3∨k=4∨k=5∨k=6∨k=7∨k=8∨k=9:=by omega
  rcases this with rfl|rfl|rfl|rfl|rfl|rfl|rfl|rfl|rfl|rfl<;>rfl
 rw[key _ h]
 unfold qz8 qbV qu
 apply ByteArray.ext
 simp
theorem qzn(l:List UInt8):Lib.strCells ⟨l.toArray⟩=Lib.byteCells l:=rfl
theorem qAY(x:Int):0<(Lib.itoa x).length:=by
 unfold Lib.itoa
 split
 ·simp
 ·rw[Lib.decDigits];split<;>simp
set_option maxHeartbeats 4000000 in
set_option maxRecDepth 1000000 in
theorem qBa(n0:Nat)(b:Bool)(n:Nat)(f:Nat→Int)(w:World)(hlt:n0<w.heap.size)(h0:w.cell? ⟨n0,0,none⟩=some (.bool b))(h1:w.cell? ⟨n0,1,none⟩=some (.int .i64 (n:Int)))(hw:∀i,i<232→w.cell? ⟨n0,2+i,none⟩=some (.int .i64 (f i)))
  (hn:n≤232) (hf:∀i,i<n→0≤f i∧f i<1000000000) (ht:Lib.TabIs Tryz.prog w "internal/strconv.uint64pow10" .u64 Lib.pow10Tab) :
  Calls Tryz.prog 179 #[.pointer (some ⟨n0,0,none⟩)] w fun e w'=>e=.returned (.string ⟨(qwo b n f).toArray⟩)∧Below w.heap.size w w':=by
 rcases Nat.eq_zero_or_pos n with rfl|hpos
 ·go_enter Tryz.func179,Tryz.ntmps179
  go_wp2
  go_ret
  exact⟨rfl,Below.refl _ _⟩
 obtain⟨m,rfl⟩:∃m,n=m+1:=⟨n-1,by omega⟩
 have hne:(((m+1:Nat):Int)==0)=false:=by simp;omega
 have w1:IntKind.i64.wrap (((m+1:Nat):Int)-1)=(m:Int):=by unfold IntKind.wrap;simp[IntKind.signed,IntKind.bits];omega
 have w1':IntKind.i64.wrap (m:Int)=(m:Int):=by unfold IntKind.wrap;simp[IntKind.signed,IntKind.bits];omega
 have hi:0≤(m:Int)∧(m:Int)<232:=by omega
 have hwm:=hw m (by omega)
 have w2:IntKind.i64.wrap (((m+1:Nat):Int)-2)=(m:Int)-1:=by unfold IntKind.wrap;simp[IntKind.signed,IntKind.bits];omega
 have hitm:=qws (hf m (by omega))
 cases b
 case' false=>
  go_enter Tryz.func179,Tryz.ntmps179
  go_wp2
  have hB0:=Lib.fresh_isBuilder 253 5 w
  have hb0:=(Below.refl w.heap.size w).alloc (Nat.le_refl _) (.cells #[.pointer none,.slice none 0 0] 253)
  generalize w.alloc (.cells #[.pointer none,.slice none 0 0] 253)=W0 at *
  obtain⟨pre,hpre⟩:∃pre:List UInt8,pre=if false=true then [45] else []:=⟨_,rfl⟩
  replace hB0:BtB w.heap.size w.heap.size (Lib.byteCells pre) W0:=by subst hpre;exact hB0
 case' true=>
  go_enter Tryz.func179,Tryz.ntmps179
  go_wp2_with (go_at_call 210;refine(qAb w.heap.size w.heap.size [] 45 _ (Lib.fresh_isBuilder 253 5 w) (by simp) (by simp)).mono ?_)
  rintro e W0 ⟨rfl,hB0,hb0⟩
  replace hb0:=((Below.refl w.heap.size w).alloc (Nat.le_refl _) (.cells #[.pointer none,.slice none 0 0] 253)).trans hb0
  obtain⟨pre,hpre⟩:∃pre:List UInt8,pre=if true=true then [45] else []:=⟨_,rfl⟩
  replace hB0:BtB w.heap.size w.heap.size (Lib.byteCells pre) W0:=by subst hpre;exact hB0
  go_wp2
 all_goals
  have hp1:pre.length≤1:=by subst hpre;split<;>simp
  have hs0:=hb0.size
  have d1:=(qge hb0 hlt 1).trans h1
  have dm:=(qge hb0 hlt (2+m)).trans hwm
  go_region_with (first
   | (go_at_call 132;refine(qwi (f m) (by have:=hf m (by omega);omega) _ (qmB ht hb0.drew)).mono ?_;rintro e W1 ⟨rfl,b1⟩)
   | (go_at_call 211;refine(qy0 w.heap.size w.heap.size _ _ _ (qt4 (qAg hB0) b1) (qAV hp1 hitm) (Nat.le_trans hs0 b1.size)).mono ?_;rintro e W2 ⟨rfl,hB2,b2⟩))
  have b02:Below w.heap.size w W2:=(hb0.drew.trans (b1.mono hs0)).trans b2
  have e1:=(qge b02 hlt 1).trans h1
  replace hB2:BtB w.heap.size w.heap.size (Lib.byteCells (pre++Lib.itoa (f m))) W2:=by rw[Lib.byteCells_append];exact hB2
  go_wp2
  go_loopw [4] (fun vi wr=>∃(k:Nat) (acc:List UInt8),vi=.int .i64 ((k:Int)-1)∧k≤m∧BtB w.heap.size w.heap.size (Lib.byteCells acc) wr∧Below w.heap.size w wr∧acc++qiU f k=pre++Lib.itoa (f m)++qiU f m∧acc.length≤10+9*(m-k)) (fun vi _=>(intOf vi+1).toNat)
  case atStart=>exact⟨m,_,by congr 1<;>omega,Nat.le_refl _,hB2,b02,rfl,by simp;omega⟩
  case round=>
   obtain⟨k,acc,rfl,hkm,hI,hbw,hacc,hal⟩:=hrel
   have hbs:=hbw.size
   rcases Nat.eq_zero_or_pos k with rfl|hk0
   ·go_wp2_with (go_at_call 212;refine(qwK w.heap.size w.heap.size acc _ hI ?hne).mono ?_)
    case hne=>
     intro h0
     subst h0
     have:=congrArg List.length hacc
     have h9:=qAY (f m)
     simp[qiU] at this
     omega
    rintro e W3 ⟨rfl,b3⟩
    go_wp2
    go_ret
    refine⟨?_,hbw.trans b3⟩
    simp only[qiU,List.append_nil] at hacc
    rw[hacc,hpre]
    simp[qwo]
   ·obtain⟨q,rfl⟩:∃q,k=q+1:=⟨k-1,by omega⟩
    have x1:(((q+1:Nat):Int)-1)=(q:Int):=by omega
    have x2:(0:Int)≤(q:Int)∧(q:Int)<232:=by omega
    have x3:(q:Int).toNat=q:=Int.toNat_natCast q
    have dq:=(qge hbw hlt (2+q)).trans (hw q (by omega))
    have hq9:=qws (hf q (by omega))
    rw[x1]
    go_wp2_with (go_at_call 132;refine(qwi (f q) (by have:=hf q (by omega);omega) _ (qmB ht hbw)).mono ?_)
    rintro e W3 ⟨rfl,b3⟩
    clear w1 w1' w2 hi hwm hne h1 hf hw ht
    have hl9:((⟨(Lib.itoa (f q)).toArray⟩:ByteArray).size:Int)≤9:=by simp[ByteArray.size];omega
    go_wp2_with (go_at_call 211;refine(qy0 w.heap.size w.heap.size (Lib.byteCells acc) _ _ (qt4 hI b3) ?hl (Nat.le_trans hbs b3.size)).mono ?_)
    case hl=>rw[qya hq9,Lib.byteCells_length];have:=qwq hq9;simp[ByteArray.size];omega
    rintro e W4 ⟨rfl,hB4,b4⟩
    rw[qya hq9,qzn,←Lib.byteCells_append] at hB4
    go_wp2
    go_roundw
    case rel=>
     refine⟨q,_,by congr 1<;>omega,by omega,hB4,(hbw.trans (b3.mono hbs)).trans b4,?_,?_⟩
     ·rw[←hacc];simp[qiU]
     ·have:=qwq hq9
      simp;omega
    case measure=>simp[intOf]
theorem qvZ(w:R):∀i,qjz w i=qiU (fun i=>cI w i 0) i
 | 0=>rfl
 | i+1=>by unfold qjz qiU;rw[qvZ w i]
theorem qAh(b:Bool)(n:Nat)(w:R):qzy b (n:Int) w=qwo b n (fun i=>cI w i 0):=by
 unfold qzy qwo
 by_cases h:n=0
 ·subst h;rfl
 ·rw[if_neg (by omega),if_neg h,qvZ]
  have e:((n:Int)-1)=((n-1:Nat):Int):=by omega
  rw[e,Int.toNat_natCast]
theorem qzR{ps:List PV}(h:ps.map PV.kind=[.b,.i,.r]):∃b n w,ps=[.b b,.i n,.r w]:=by
 match ps,h with
 | [.b b,.i n,.r w],_=>exact⟨b,n,w,rfl⟩
theorem qxd{gl:List (Nat×AV)}(hg:(1,AV.eptr (Lib.pow10Tab.map fun _=>.int .u64) qBA 0 0)∈gl) :
  zb Tryz.prog gl 179 (q9 { args:=[.ptr 0 0],h:=[.big [.bool,.int .i64] .i64 232] } [{ res:=.str,h:=[.big [.bool,.int .i64] .i64 232] }] qyV):=
 qfT (q2z Tryz.func179 (by kernel_rfl) (by kernel_rfl)) rfl fun B X ps j qs vargs hs hgl hh ha hk hT=>by
  obtain⟨b,n,r,rfl⟩:=qzR hk
  simp only[qyV] at hT
  split at hT
  ·rename_i hc
   cases hT
   unfold qrs at hc
   simp only[Bool.and_eq_true,decide_eq_true_eq,List.all_eq_true,List.mem_range] at hc
   obtain⟨⟨c1,c2⟩,c3⟩:=hc
   obtain⟨m,rfl⟩:∃m:Nat,n=(m:Int):=⟨n.toNat,by omega⟩
   have hb0:X.h[0]?=some (.big [.bool b,.int .i64 (m:Int)] .i64 232 r):=by rw[hh];rfl
   obtain⟨n0,c,T,vs,hσ,hheap,hrep,hcl,hrl⟩:=hs.blk 0 _ hb0
   have hvs:vs=[.bool b,.int .i64 (m:Int)]:=by
    cases hrep with
    | cons h t=>cases h;rw[qvT t]
   subst hvs
   have hva:vargs=[.pointer (some ⟨n0,0,none⟩)]:=by
    cases ha with
    | cons h t=>
     cases t
     cases h with
     | ptr _ _ n1 hb hσ2=>
      have:n1=n0:=Option.some.inj (hσ2.symm.trans hσ)
      rw[this]
   subst hva
   have hlt:n0<X.w.heap.size:=(Array.getElem?_eq_some_iff.1 hheap).1
   have hcell:∀o,X.w.cell? ⟨n0,o,none⟩=c[o]?:=fun o=>by unfold World.cell?;simp only[hheap];rfl
   have g0:X.w.cell? ⟨n0,0,none⟩=some (.bool b):=by rw[hcell,←Array.getElem?_toList,hcl];rfl
   have g1:X.w.cell? ⟨n0,1,none⟩=some (.int .i64 (m:Int)):=by rw[hcell,←Array.getElem?_toList,hcl];rfl
   have gw:∀i,i<232→X.w.cell? ⟨n0,2+i,none⟩=some (.int .i64 (cI r (i:Int) 0)):=fun i hi=>by
    rw[hcell]
    exact qqX (vs:=[.bool b,.int .i64 (m:Int)]) hcl (by omega)
   refine⟨rfl,rfl,rfl,?_⟩
   have hT:=qnw (k:=.u64) (zs:=Lib.pow10Tab) (show Tryz.prog.globalNamed "internal/strconv.uint64pow10" = some 1 by kernel_rfl) (by decide) (hgl _ hg).2
   refine(qBa n0 b m (fun i=>cI r (i:Int) 0) X.w hlt g0 g1 gw (by omega) (fun i hi=>c3 i (by omega)) hT).mono fun e w' ⟨k1,k2⟩=>⟨_,k1,k2,?_⟩
   rw[←qAh]
   exact .str _
  ·cases hT
end Go.Eng

namespace Go.Eng
open Go.Proofs
noncomputable def q7L:List (TypeId×TI):=[(1,(.mk .func 1 [.nilFunc] 8 false false)),(2,(.mk (.int .i64) 1 [(.int .i64 0)] 8 false false)),(3,(.mk (.int .i64) 1 [(.int .i64 0)] 8 false false)),(4,(.mk .bool 1 [(.bool false)] 1 false false)),(5,(.mk (.int .u8) 1 [(.int .u8 0)] 1 false false)),(6,(.mk (.int .u8) 1 [(.int .u8 0)] 1 false false)),(8,(.mk (.struct [(0,(2,1)),(1,(3,1)),(2,(4,1)),(3,(6,1))]) 4 [(.int .i64 0),(.int .i64 0),(.bool false),(.int .u8 0)] 24 true true)),(9,(.mk .str 1 [(.string (.mk (.mk [])))] 16 false false)),(10,(.mk .str 1 [(.string (.mk (.mk [])))] 16 false false)),(11,(.mk .str 1 [(.string (.mk (.mk [])))] 16 false false)),(12,(.mk (.int .u64) 1 [(.int .u64 0)] 8 false false)),(13,(.mk (.struct [(0,(9,1)),(1,(12,1))]) 2 [(.string (.mk (.mk []))),(.int .u64 0)] 24 false true)),(14,(.mk (.struct [(0,(9,1)),(1,(12,1))]) 2 [(.string (.mk (.mk []))),(.int .u64 0)] 24 false true)),(16,(.mk (.ptr 316) 1 [(.pointer .none)] 8 false false)),(17,(.mk (.ptr 324) 1 [(.pointer .none)] 8 false false)),(18,(.mk (.struct [(0,(17,1))]) 1 [(.pointer .none)] 8 false true)),(21,(.mk (.int .i32) 1 [(.int .i32 0)] 4 false false)),(22,(.mk (.slice 68 7) 1 [(.slice .none 0 0)] 24 false false)),(24,(.mk (.struct [(0,(22,1)),(1,(22,1))]) 2 [(.slice .none 0 0),(.slice .none 0 0)] 48 true true)),(26,(.mk (.slice 3 1) 1 [(.slice .none 0 0)] 24 false false)),(27,(.mk (.int .i64) 1 [(.int .i64 0)] 8 false false)),(32,(.mk (.struct [(0,(22,1)),(1,(22,1))]) 2 [(.slice .none 0 0),(.slice .none 0 0)] 48 true true)),(40,(.mk .func 1 [.nilFunc] 8 false false)),(41,(.mk (.slice 60 3) 1 [(.slice .none 0 0)] 24 false false)),(43,(.mk (.struct [(0,(41,1)),(1,(41,1))]) 2 [(.slice .none 0 0),(.slice .none 0 0)] 48 true true)),(45,(.mk .func 1 [.nilFunc] 8 false false)),(47,(.mk (.struct [(0,(41,1)),(1,(41,1))]) 2 [(.slice .none 0 0),(.slice .none 0 0)] 48 true true)),(48,(.mk (.struct [(0,(3,1)),(1,(3,1)),(2,(3,1))]) 3 [(.int .i64 0),(.int .i64 0),(.int .i64 0)] 24 true true)),(49,(.mk (.struct [(0,(3,1)),(1,(3,1)),(2,(3,1))]) 3 [(.int .i64 0),(.int .i64 0),(.int .i64 0)] 24 true true)),(51,(.mk .func 1 [.nilFunc] 8 false false)),(52,(.mk (.struct [(0,(3,1)),(1,(3,1)),(2,(3,1))]) 3 [(.int .i64 0),(.int .i64 0),(.int .i64 0)] 24 true true)),(54,(.mk .func 1 [.nilFunc] 8 false false)),(55,(.mk (.struct [(0,(3,1)),(1,(3,1))]) 2 [(.int .i64 0),(.int .i64 0)] 16 true true)),(56,(.mk (.struct [(0,(3,1)),(1,(3,1))]) 2 [(.int .i64 0),(.int .i64 0)] 16 true true)),(57,(.mk .func 1 [.nilFunc] 8 false false)),(60,(.mk (.struct [(0,(56,2)),(2,(3,1))]) 3 [(.int .i64 0),(.int .i64 0),(.int .i64 0)] 24 true true)),(63,(.mk (.slice 118 3) 1 [(.slice .none 0 0)] 24 false false)),(64,(.mk .func 1 [.nilFunc] 8 false false)),(66,(.mk (.struct [(0,(3,1)),(1,(3,1))]) 2 [(.int .i64 0),(.int .i64 0)] 16 true true)),(68,(.mk (.struct [(0,(56,2)),(2,(66,2)),(4,(3,1)),(5,(3,1)),(6,(4,1))]) 7 [(.int .i64 0),(.int .i64 0),(.int .i64 0),(.int .i64 0),(.int .i64 0),(.int .i64 0),(.bool false)] 56 true true)),(69,(.mk (.slice 66 2) 1 [(.slice .none 0 0)] 24 false false)),(79,(.mk (.int .u16) 1 [(.int .u16 0)] 2 false false)),(89,(.mk .func 1 [.nilFunc] 8 false false)),(90,(.mk .func 1 [.nilFunc] 8 false false)),(92,(.mk .func 1 [.nilFunc] 8 false false)),(104,(.mk .func 1 [.nilFunc] 8 false false)),(106,(.mk (.ptr 108) 1 [(.pointer .none)] 8 false false)),(108,(.mk (.struct [(0,(27,1))]) 1 [(.int .i64 0)] 8 true true)),(112,(.mk .str 1 [(.string (.mk (.mk [])))] 16 false false)),(115,(.mk (.struct [(0,(112,1)),(1,(112,1))]) 2 [(.string (.mk (.mk []))),(.string (.mk (.mk [])))] 32 true true)),(118,(.mk (.struct [(0,(115,2)),(2,(112,1))]) 3 [(.string (.mk (.mk []))),(.string (.mk (.mk []))),(.string (.mk (.mk [])))] 48 true true)),(125,(.mk (.struct [(0,(68,7)),(7,(3,1))]) 8 [(.int .i64 0),(.int .i64 0),(.int .i64 0),(.int .i64 0),(.int .i64 0),(.int .i64 0),(.bool false),(.int .i64 0)] 64 true true)),(137,(.mk .func 1 [.nilFunc] 8 false false)),(139,(.mk .func 1 [.nilFunc] 8 false false)),(142,(.mk (.struct [(0,(115,2)),(2,(115,2)),(4,(112,1))]) 5 [(.string (.mk (.mk []))),(.string (.mk (.mk []))),(.string (.mk (.mk []))),(.string (.mk (.mk []))),(.string (.mk (.mk [])))] 80 true true)),(146,(.mk .func 1 [.nilFunc] 8 false false)),(148,(.mk .str 1 [(.string (.mk (.mk [])))] 16 false false)),(154,(.mk (.array 3 3 1) 3 [(.int .i64 0),(.int .i64 0),(.int .i64 0)] 24 false false)),(155,(.mk (.array 2 154 3) 6 [(.int .i64 0),(.int .i64 0),(.int .i64 0),(.int .i64 0),(.int .i64 0),(.int .i64 0)] 48 false false)),(157,(.mk .func 1 [.nilFunc] 8 false false)),(158,(.mk .func 1 [.nilFunc] 8 false false)),(162,(.mk (.ptr 188) 1 [(.pointer .none)] 8 false false)),(166,(.mk (.struct [(0,(115,2)),(2,(115,2)),(4,(112,1))]) 5 [(.string (.mk (.mk []))),(.string (.mk (.mk []))),(.string (.mk (.mk []))),(.string (.mk (.mk []))),(.string (.mk (.mk [])))] 80 true true)),(170,(.mk (.slice 112 1) 1 [(.slice .none 0 0)] 24 false false)),(179,(.mk (.slice 5 1) 1 [(.slice .none 0 0)] 24 false false)),(184,(.mk .func 1 [.nilFunc] 8 false false)),(185,(.mk (.slice 148 1) 1 [(.slice .none 0 0)] 24 false false)),(188,(.mk (.struct [(0,(27,1))]) 1 [(.int .i64 0)] 8 true true)),(190,(.mk .func 1 [.nilFunc] 8 false false)),(194,(.mk .func 1 [.nilFunc] 8 false false)),(195,(.mk .func 1 [.nilFunc] 8 false false)),(213,(.mk (.ptr 225) 1 [(.pointer .none)] 8 false false)),(223,(.mk (.array 232 3 1) 232 [(.int .i64 0),(.int .i64 0),(.int .i64 0),(.int .i64 0),(.int .i64 0),(.int .i64 0),(.int .i64 0),(.int .i64 0),(.int .i64 0),(.int .i64 0),(.int .i64 0),(.int .i64 0),(.int .i64 0),(.int .i64 0),(.int .i64 0),(.int .i64 0),(.int .i64 0),(.int .i64 0),(.int .i64 0),(.int .i64 0),(.int .i64 0),(.int .i64 0),(.int .i64 0),(.int .i64 0),(.int .i64 0),(.int .i64 0),(.int .i64 0),(.int .i64 0),(.int .i64 0),(.int .i64 0),(.int .i64 0),(.int .i64 0),(.int .i64 0),(.int .i64 0),(.int .i64 0),(.int .i64 0),(.int .i64 0),(.int .i64 0),(.int .i64 0),(.int .i64 0),(.int .i64 0),(.int .i64 0),(.int .i64 0),(.int .i64 0),(.int .i64 0),(.int .i64 0),(.int .i64 0),(.int .i64 0),(.int .i64 0),(.int .i64 0),(.int .i64 0),(.int .i64 0),(.int .i64 0),(.int .i64 0),(.int .i64 0),(.int .i64 0),(.int .i64 0),(.int .i64 0),(.int .i64 0),(.int .i64 0),(.int .i64 0),(.int .i64 0),(.int .i64 0),(.int .i64 0),(.int .i64 0),(.int .i64 0),(.int .i64 0),(.int .i64 0),(.int .i64 0),(.int .i64 0),(.int .i64 0),(.int .i64 0),(.int .i64 0),(.int .i64 0),(.int .i64 0),(.int .i64 0),(.int .i64 0),(.int .i64 0),(.int .i64 0),(.int .i64 0),(.int .i64 0),(.int .i64 0),(.int .i64 0),(.int .i64 0),(.int .i64 0),(.int .i64 0),(.int .i64 0),(.int .i64 0),(.int .i64 0),(.int .i64 0),(.int .i64 0),(.int .i64 0),(.int .i64 0),(.int .i64 0),(.int .i64 0),(.int .i64 0),(.int .i64 0),(.int .i64 0),(.int .i64 0),(.int .i64 0),(.int .i64 0),(.int .i64 0),(.int .i64 0),(.int .i64 0),(.int .i64 0),(.int .i64 0),(.int .i64 0),(.int .i64 0),(.int .i64 0),(.int .i64 0),(.int .i64 0),(.int .i64 0),(.int .i64 0),(.int .i64 0),(.int .i64 0),(.int .i64 0),(.int .i64 0),(.int .i64 0),(.int .i64 0),(.int .i64 0),(.int .i64 0),(.int .i64 0),(.int .i64 0),(.int .i64 0),(.int .i64 0),(.int .i64 0),(.int .i64 0),(.int .i64 0),(.int .i64 0),(.int .i64 0),(.int .i64 0),(.int .i64 0),(.int .i64 0),(.int .i64 0),(.int .i64 0),(.int .i64 0),(.int .i64 0),(.int .i64 0),(.int .i64 0),(.int .i64 0),(.int .i64 0),(.int .i64 0),(.int .i64 0),(.int .i64 0),(.int .i64 0),(.int .i64 0),(.int .i64 0),(.int .i64 0),(.int .i64 0),(.int .i64 0),(.int .i64 0),(.int .i64 0),(.int .i64 0),(.int .i64 0),(.int .i64 0),(.int .i64 0),(.int .i64 0),(.int .i64 0),(.int .i64 0),(.int .i64 0),(.int .i64 0),(.int .i64 0),(.int .i64 0),(.int .i64 0),(.int .i64 0),(.int .i64 0),(.int .i64 0),(.int .i64 0),(.int .i64 0),(.int .i64 0),(.int .i64 0),(.int .i64 0),(.int .i64 0),(.int .i64 0),(.int .i64 0),(.int .i64 0),(.int .i64 0),(.int .i64 0),(.int .i64 0),(.int .i64 0),(.int .i64 0),(.int .i64 0),(.int .i64 0),(.int .i64 0),(.int .i64 0),(.int .i64 0),(.int .i64 0),(.int .i64 0),(.int .i64 0),(.int .i64 0),(.int .i64 0),(.int .i64 0),(.int .i64 0),(.int .i64 0),(.int .i64 0),(.int .i64 0),(.int .i64 0),(.int .i64 0),(.int .i64 0),(.int .i64 0),(.int .i64 0),(.int .i64 0),(.int .i64 0),(.int .i64 0),(.int .i64 0),(.int .i64 0),(.int .i64 0),(.int .i64 0),(.int .i64 0),(.int .i64 0),(.int .i64 0),(.int .i64 0),(.int .i64 0),(.int .i64 0),(.int .i64 0),(.int .i64 0),(.int .i64 0),(.int .i64 0),(.int .i64 0),(.int .i64 0),(.int .i64 0),(.int .i64 0),(.int .i64 0),(.int .i64 0),(.int .i64 0),(.int .i64 0),(.int .i64 0),(.int .i64 0),(.int .i64 0),(.int .i64 0),(.int .i64 0),(.int .i64 0)] 1856 false false)),(225,(.mk (.struct [(0,(4,1)),(1,(3,1)),(2,(223,232))]) 234 [(.bool false),(.int .i64 0),(.int .i64 0),(.int .i64 0),(.int .i64 0),(.int .i64 0),(.int .i64 0),(.int .i64 0),(.int .i64 0),(.int .i64 0),(.int .i64 0),(.int .i64 0),(.int .i64 0),(.int .i64 0),(.int .i64 0),(.int .i64 0),(.int .i64 0),(.int .i64 0),(.int .i64 0),(.int .i64 0),(.int .i64 0),(.int .i64 0),(.int .i64 0),(.int .i64 0),(.int .i64 0),(.int .i64 0),(.int .i64 0),(.int .i64 0),(.int .i64 0),(.int .i64 0),(.int .i64 0),(.int .i64 0),(.int .i64 0),(.int .i64 0),(.int .i64 0),(.int .i64 0),(.int .i64 0),(.int .i64 0),(.int .i64 0),(.int .i64 0),(.int .i64 0),(.int .i64 0),(.int .i64 0),(.int .i64 0),(.int .i64 0),(.int .i64 0),(.int .i64 0),(.int .i64 0),(.int .i64 0),(.int .i64 0),(.int .i64 0),(.int .i64 0),(.int .i64 0),(.int .i64 0),(.int .i64 0),(.int .i64 0),(.int .i64 0),(.int .i64 0),(.int .i64 0),(.int .i64 0),(.int .i64 0),(.int .i64 0),(.int .i64 0),(.int .i64 0),(.int .i64 0),(.int .i64 0),(.int .i64 0),(.int .i64 0),(.int .i64 0),(.int .i64 0),(.int .i64 0),(.int .i64 0),(.int .i64 0),(.int .i64 0),(.int .i64 0),(.int .i64 0),(.int .i64 0),(.int .i64 0),(.int .i64 0),(.int .i64 0),(.int .i64 0),(.int .i64 0),(.int .i64 0),(.int .i64 0),(.int .i64 0),(.int .i64 0),(.int .i64 0),(.int .i64 0),(.int .i64 0),(.int .i64 0),(.int .i64 0),(.int .i64 0),(.int .i64 0),(.int .i64 0),(.int .i64 0),(.int .i64 0),(.int .i64 0),(.int .i64 0),(.int .i64 0),(.int .i64 0),(.int .i64 0),(.int .i64 0),(.int .i64 0),(.int .i64 0),(.int .i64 0),(.int .i64 0),(.int .i64 0),(.int .i64 0),(.int .i64 0),(.int .i64 0),(.int .i64 0),(.int .i64 0),(.int .i64 0),(.int .i64 0),(.int .i64 0),(.int .i64 0),(.int .i64 0),(.int .i64 0),(.int .i64 0),(.int .i64 0),(.int .i64 0),(.int .i64 0),(.int .i64 0),(.int .i64 0),(.int .i64 0),(.int .i64 0),(.int .i64 0),(.int .i64 0),(.int .i64 0),(.int .i64 0),(.int .i64 0),(.int .i64 0),(.int .i64 0),(.int .i64 0),(.int .i64 0),(.int .i64 0),(.int .i64 0),(.int .i64 0),(.int .i64 0),(.int .i64 0),(.int .i64 0),(.int .i64 0),(.int .i64 0),(.int .i64 0),(.int .i64 0),(.int .i64 0),(.int .i64 0),(.int .i64 0),(.int .i64 0),(.int .i64 0),(.int .i64 0),(.int .i64 0),(.int .i64 0),(.int .i64 0),(.int .i64 0),(.int .i64 0),(.int .i64 0),(.int .i64 0),(.int .i64 0),(.int .i64 0),(.int .i64 0),(.int .i64 0),(.int .i64 0),(.int .i64 0),(.int .i64 0),(.int .i64 0),(.int .i64 0),(.int .i64 0),(.int .i64 0),(.int .i64 0),(.int .i64 0),(.int .i64 0),(.int .i64 0),(.int .i64 0),(.int .i64 0),(.int .i64 0),(.int .i64 0),(.int .i64 0),(.int .i64 0),(.int .i64 0),(.int .i64 0),(.int .i64 0),(.int .i64 0),(.int .i64 0),(.int .i64 0),(.int .i64 0),(.int .i64 0),(.int .i64 0),(.int .i64 0),(.int .i64 0),(.int .i64 0),(.int .i64 0),(.int .i64 0),(.int .i64 0),(.int .i64 0),(.int .i64 0),(.int .i64 0),(.int .i64 0),(.int .i64 0),(.int .i64 0),(.int .i64 0),(.int .i64 0),(.int .i64 0),(.int .i64 0),(.int .i64 0),(.int .i64 0),(.int .i64 0),(.int .i64 0),(.int .i64 0),(.int .i64 0),(.int .i64 0),(.int .i64 0),(.int .i64 0),(.int .i64 0),(.int .i64 0),(.int .i64 0),(.int .i64 0),(.int .i64 0),(.int .i64 0),(.int .i64 0),(.int .i64 0),(.int .i64 0),(.int .i64 0),(.int .i64 0),(.int .i64 0),(.int .i64 0),(.int .i64 0),(.int .i64 0),(.int .i64 0),(.int .i64 0),(.int .i64 0),(.int .i64 0),(.int .i64 0),(.int .i64 0)] 1872 true true)),(266,(.mk (.int .u64) 1 [(.int .u64 0)] 8 false false)),(272,(.mk .func 1 [.nilFunc] 8 false false)),(273,(.mk (.ptr 5) 1 [(.pointer .none)] 8 false false)),(278,(.mk (.array 20 266 1) 20 [(.int .u64 0),(.int .u64 0),(.int .u64 0),(.int .u64 0),(.int .u64 0),(.int .u64 0),(.int .u64 0),(.int .u64 0),(.int .u64 0),(.int .u64 0),(.int .u64 0),(.int .u64 0),(.int .u64 0),(.int .u64 0),(.int .u64 0),(.int .u64 0),(.int .u64 0),(.int .u64 0),(.int .u64 0),(.int .u64 0)] 160 false false)),(279,(.mk (.int .u32) 1 [(.int .u32 0)] 4 false false)),(314,(.mk (.array 0 16 1) 0 [] 0 false false)),(316,(.mk (.struct [(0,(314,0))]) 0 [] 0 false true)),(318,(.mk (.int .u8) 1 [(.int .u8 0)] 1 false false)),(319,(.mk (.int .u8) 1 [(.int .u8 0)] 1 false false)),(320,(.mk .func 1 [.nilFunc] 8 false false)),(321,(.mk (.int .i32) 1 [(.int .i32 0)] 4 false false)),(322,(.mk (.int .i32) 1 [(.int .i32 0)] 4 false false)),(324,(.mk (.struct [(0,(12,1)),(1,(12,1)),(2,(279,1)),(3,(318,1)),(4,(5,1)),(5,(5,1)),(6,(319,1)),(7,(320,1)),(8,(273,1)),(9,(321,1)),(10,(322,1))]) 11 [(.int .u64 0),(.int .u64 0),(.int .u32 0),(.int .u8 0),(.int .u8 0),(.int .u8 0),(.int .u8 0),.nilFunc,(.pointer .none),(.int .i32 0),(.int .i32 0)] 48 false true))]
noncomputable def qa:List (Nat×AV):=[(1,(.eptr [.int .u64,.int .u64,.int .u64,.int .u64,.int .u64,.int .u64,.int .u64,.int .u64,.int .u64,.int .u64,.int .u64,.int .u64,.int .u64,.int .u64,.int .u64,.int .u64,.int .u64,.int .u64,.int .u64,.int .u64] [[.i 1,.i 10,.i 100,.i 1000,.i 10000,.i 100000,.i 1000000,.i 10000000,.i 100000000,.i 1000000000,.i 10000000000,.i 100000000000,.i 1000000000000,.i 10000000000000,.i 100000000000000,.i 1000000000000000,.i 10000000000000000,.i 100000000000000000,.i 1000000000000000000,.i 10000000000000000000]] 0 0)),(0,(.eptr [.int .i64,.int .i64,.int .i64,.int .i64,.int .i64,.int .i64] [[.i (-1),.i (-1),.i 1,.i 1,.i 1,.i (-1)]] 0 0))]
theorem q8:q7L.map (fun x=>qtr Tryz.prog x.1)=q7L.map (·.2):=by kernel_rfl
theorem qc:Tryz.prog.follows .mixedOrders=true:=by kernel_rfl
noncomputable def qe(s:List (FuncId×(List AV→List Blk→Tree (AV×List Blk))))(b:List (FuncId×Func))(l:List ((FuncId×Nat)×(St→Tree (Ex×St))))(n:Nat):Env:=⟨q7L,qa,s,b,l,n,[],[]⟩
def qg4:FIn:=⟨[(.int .i64)],[]⟩
def qfZ:List FOut:=[⟨.bool,[],none⟩]
noncomputable def qpU:=qe [] [(101,Tryz.f101)] [] 0
noncomputable def ux:=qt qpU 101 Tryz.f101 true qg4 qfZ
theorem qis:zb Tryz.prog qa 101 (q9 qg4 qfZ ux):=sk qpU qc q8 aln aln (b1 Tryz.func101) Tryz.func101
def qb0:FIn:=⟨[(.int .i64)],[]⟩
def qaM:List FOut:=[⟨.bool,[],none⟩]
noncomputable def ql9:=qe [] [(102,Tryz.f102)] [] 0
noncomputable def jQ:=qt ql9 102 Tryz.f102 true qb0 qaM
theorem qfC:zb Tryz.prog qa 102 (q9 qb0 qaM jQ):=sk ql9 qc q8 aln aln (b1 Tryz.func102) Tryz.func102
def q3b:FIn:=⟨[(.agg [(.int .i64),(.int .i64),(.int .i64),(.int .i64),(.int .i64),(.int .i64),.bool])],[]⟩
def q3j:List FOut:=[⟨(.int .i64),[],none⟩]
noncomputable def qie:=qe [(101,q9 qg4 qfZ ux),(102,q9 qb0 qaM jQ)] [(72,Tryz.f72)] [] 0
noncomputable def jE:=qt qie 72 Tryz.f72 true q3b q3j
theorem q4w:zb Tryz.prog qa 72 (q9 q3b q3j jE):=sk qie qc q8 (alc qis (alc qfC aln)) aln (b1 Tryz.func72) Tryz.func72
def q5T:FIn:=⟨[(.agg [(.int .i64),(.int .i64),(.int .i64),(.int .i64),(.int .i64),(.int .i64),.bool]),(.agg [(.int .i64),(.int .i64),(.int .i64),(.int .i64),(.int .i64),(.int .i64),.bool])],[]⟩
def q5C:List FOut:=[⟨(.int .i64),[],none⟩]
def q6a:Tmpl:={ t:=(.any::.any::(.ptr 0 0)::(.ptr 1 0)::qI 6 ((.vec 2)::(.int .i64)::(.int .i64)::qI 31 [])),h:=[.cells [(.int .i64),(.int .i64),(.int .i64),(.int .i64),(.int .i64),(.int .i64),.bool],.cells [(.int .i64),(.int .i64),(.int .i64),(.int .i64),(.int .i64),(.int .i64),.bool],.vec 68 [(.int .i64),(.int .i64),(.int .i64),(.int .i64),(.int .i64),(.int .i64),.bool]] }
def q6t:List Out:=[⟨(.exit 0),{ t:=(.any::.any::(.ptr 0 0)::(.ptr 1 0)::qI 40 []),h:=[.cells [(.int .i64),(.int .i64),(.int .i64),(.int .i64),(.int .i64),(.int .i64),.bool],.cells [(.int .i64),(.int .i64),(.int .i64),(.int .i64),(.int .i64),(.int .i64),.bool]] }⟩,⟨.ret,{ t:=(qI 4 ((.int .i64)::qI 39 [])),h:=[] }⟩]
noncomputable def q3o:=qe [(72,q9 q3b q3j jE)] [(45,Tryz.f45)] [] 0
noncomputable def un:=jl q3o 45 Tryz.f45 3 q6a q6t
theorem qgm:qo Tryz.prog qa q3o.nimp (qC Tryz.prog q3o.iter 45) (zH Tryz.f45 3) (ql q6a q6t (qh un)):=
 gk q3o qc q8 (alc q4w aln) aln (b1 Tryz.func45) Tryz.func45
noncomputable def qey:=qe [(72,q9 q3b q3j jE)] [(45,Tryz.f45)] [((45,3),ql q6a q6t (qh un))] 0
noncomputable def q0r:=qt qey 45 Tryz.f45 true q5T q5C
theorem qan:zb Tryz.prog qa 45 (q9 q5T q5C q0r):=sk qey qc q8 (alc q4w aln) (alc (lk Tryz.func45 qgm) aln) (b1 Tryz.func45) Tryz.func45
def uW:FIn:=⟨[(.agg [(.imm [(.int .i64),(.int .i64),(.int .i64),(.int .i64),(.int .i64),(.int .i64),.bool]),(.imm [(.int .i64),(.int .i64),(.int .i64),(.int .i64),(.int .i64),(.int .i64),.bool])])],[]⟩
def uP:List FOut:=[⟨(.int .i64),[],none⟩]
def q4G:Tmpl:={ t:=(.any::(.ptr 0 0)::qI 23 ((.int .i64)::(.int .i64)::qI 17 [])),h:=[.cells [(.imm [(.int .i64),(.int .i64),(.int .i64),(.int .i64),(.int .i64),(.int .i64),.bool]),(.imm [(.int .i64),(.int .i64),(.int .i64),(.int .i64),(.int .i64),(.int .i64),.bool])]] }
def q4N:List Out:=[⟨(.exit 1),{ t:=(qI 44 []),h:=[] }⟩,⟨.ret,{ t:=(.any::.any::(.int .i64)::qI 41 []),h:=[] }⟩]
noncomputable def q18:=qe [(45,q9 q5T q5C q0r)] [(16,Tryz.f16)] [] 0
noncomputable def uy:=jl q18 16 Tryz.f16 10 q4G q4N
theorem qes:qo Tryz.prog qa q18.nimp (qC Tryz.prog q18.iter 16) (zH Tryz.f16 10) (ql q4G q4N (qh uy)):=
 gk q18 qc q8 (alc qan aln) aln (b1 Tryz.func16) Tryz.func16
noncomputable def qdR:=qe [(45,q9 q5T q5C q0r)] [(16,Tryz.f16)] [((16,10),ql q4G q4N (qh uy))] 0
noncomputable def v6:=qt qdR 16 Tryz.f16 true uW uP
theorem q13:zb Tryz.prog qa 16 (q9 uW uP v6):=sk qdR qc q8 (alc qan aln) (alc (lk Tryz.func16 qes) aln) (b1 Tryz.func16) Tryz.func16
def qky:FIn:=⟨[(.agg [(.int .i64),(.int .i64),(.int .i64),(.int .i64),(.int .i64),(.int .i64),.bool])],[]⟩
def qkG:List FOut:=[⟨(.agg [(.int .i64),(.int .i64),(.int .i64),(.int .i64),(.int .i64),(.int .i64),.bool,(.int .i64)]),[],none⟩]
noncomputable def qpP:=qe [] [(73,Tryz.f73)] [] 0
noncomputable def qcf:=qt qpP 73 Tryz.f73 true qky qkG
theorem qrq:zb Tryz.prog qa 73 (q9 qky qkG qcf):=sk qpP qc q8 aln aln (b1 Tryz.func73) Tryz.func73
def q2d:FIn:=⟨[(.agg [(.int .i64),(.int .i64),(.int .i64),(.int .i64),(.int .i64),(.int .i64),.bool,(.int .i64)]),(.int .i64)],[]⟩
def q2g:List FOut:=[⟨(.int .i64),[],none⟩]
noncomputable def q7j:=qe [] [(74,Tryz.f74)] [] 0
noncomputable def jT:=qt q7j 74 Tryz.f74 true q2d q2g
theorem qce:zb Tryz.prog qa 74 (q9 q2d q2g jT):=sk q7j qc q8 aln aln (b1 Tryz.func74) Tryz.func74
def q5c:FIn:=⟨[(.agg [(.int .i64),(.int .i64),(.int .i64),(.int .i64),(.int .i64),(.int .i64),.bool])],[]⟩
def q5q:List FOut:=[⟨(.tuple [(.int .i64),(.int .i64)]),[],none⟩]
noncomputable def qfv:=qe [(72,q9 q3b q3j jE),(73,q9 qky qkG qcf),(74,q9 q2d q2g jT)] [(40,Tryz.f40)] [] 0
noncomputable def jU:=qt qfv 40 Tryz.f40 true q5c q5q
theorem qaS:zb Tryz.prog qa 40 (q9 q5c q5q jU):=sk qfv qc q8 (alc q4w (alc qrq (alc qce aln))) aln (b1 Tryz.func40) Tryz.func40
def q2a:FIn:=⟨[(.agg [(.imm [(.int .i64),(.int .i64),(.int .i64),(.int .i64),(.int .i64),(.int .i64),.bool]),(.imm [(.int .i64),(.int .i64),(.int .i64),(.int .i64),(.int .i64),(.int .i64),.bool])])],[]⟩
def q1Z:List FOut:=[⟨(.tuple [(.imm [(.int .i64)]),(.int .i64)]),[],none⟩]
def q3E:Tmpl:={ t:=(.any::(.ptr 0 0)::.any::.any::.any::(.vec 1)::qI 12 ((.imm [(.int .i64),(.int .i64),(.int .i64),(.int .i64),(.int .i64),(.int .i64),.bool])::(.int .i64)::(.int .i64)::qI 37 [])),h:=[.cells [(.imm [(.int .i64),(.int .i64),(.int .i64),(.int .i64),(.int .i64),(.int .i64),.bool]),(.imm [(.int .i64),(.int .i64),(.int .i64),(.int .i64),(.int .i64),(.int .i64),.bool])],.vec 3 [(.int .i64)]],pro:=[(5,3,[(.int .i64)])] }
def q3A:List Out:=[⟨(.exit 0),{ t:=(qI 5 ((.vec 1)::qI 52 [])),h:=[.dead,.vec 3 [(.int .i64)]] }⟩,⟨.ret,{ t:=(.any::.any::.nils::(.int .i64)::qI 54 []),h:=[] }⟩]
noncomputable def q04:=qe [(16,q9 uW uP v6),(40,q9 q5c q5q jU)] [(12,Tryz.f12)] [] 0
noncomputable def j3:=jl q04 12 Tryz.f12 8 q3E q3A
theorem qd3:qo Tryz.prog qa q04.nimp (qC Tryz.prog q04.iter 12) (zH Tryz.f12 8) (ql q3E q3A (qh j3)):=
 gk q04 qc q8 (alc q13 (alc qaS aln)) aln (b1 Tryz.func12) Tryz.func12
noncomputable def qaD:=qe [(16,q9 uW uP v6),(40,q9 q5c q5q jU)] [(12,Tryz.f12)] [((12,8),ql q3E q3A (qh j3))] 0
noncomputable def vX:=qt qaD 12 Tryz.f12 true q2a q1Z
theorem q76:zb Tryz.prog qa 12 (q9 q2a q1Z vX):=sk qaD qc q8 (alc q13 (alc qaS aln)) (alc (lk Tryz.func12 qd3) aln) (b1 Tryz.func12) Tryz.func12
def vg:FIn:=⟨[(.int .i64),(.int .i64)],[]⟩
def vj:List FOut:=[⟨.bool,[],none⟩]
noncomputable def q9k:=qe [] [(43,Tryz.f43)] [] 0
noncomputable def wh:=qt q9k 43 Tryz.f43 true vg vj
theorem jo:zb Tryz.prog qa 43 (q9 vg vj wh):=sk q9k qc q8 aln aln (b1 Tryz.func43) Tryz.func43
def qH:FIn:=⟨[(.imm [(.int .i64)]),(.fn 43 [] [])],[]⟩
def qJ:List FOut:=[⟨(.imm [(.int .i64)]),[],none⟩]
def zK:Tmpl:={ t:=(.any::(.fn 43 [] [])::.any::.any::.any::(.vec 0)::.any::.any::(.imm [(.int .i64)])::(.int .i64)::(.int .i64)::qI 14 []),h:=[.vec 3 [(.int .i64)]],pro:=[(5,3,[(.int .i64)])] }
def zM:List Out:=[⟨(.exit 0),{ t:=(qI 5 ((.vec 0)::qI 19 [])),h:=[.vec 3 [(.int .i64)]] }⟩]
noncomputable def qV:=qe [(43,q9 vg vj wh)] [(42,Tryz.f42)] [] 0
noncomputable def qy:=jl qV 42 Tryz.f42 4 zK zM
theorem q03:qo Tryz.prog qa qV.nimp (qC Tryz.prog qV.iter 42) (zH Tryz.f42 4) (ql zK zM (qh qy)):=
 gk qV qc q8 (alc jo aln) aln (b1 Tryz.func42) Tryz.func42
noncomputable def jm:=qe [(43,q9 vg vj wh)] [(42,Tryz.f42)] [((42,4),ql zK zM (qh qy))] 0
noncomputable def qk:=qt jm 42 Tryz.f42 true qH qJ
theorem zE:zb Tryz.prog qa 42 (q9 qH qJ qk):=sk jm qc q8 (alc jo aln) (alc (lk Tryz.func42 q03) aln) (b1 Tryz.func42) Tryz.func42
def qa0:FIn:=⟨[(.agg [(.imm [(.int .i64),(.int .i64),(.int .i64),(.int .i64),(.int .i64),(.int .i64),.bool]),(.imm [(.int .i64),(.int .i64),(.int .i64),(.int .i64),(.int .i64),(.int .i64),.bool])])],[]⟩
def q9L:List FOut:=[⟨(.tuple [.bool,(.int .i64)]),[],none⟩]
noncomputable def qeF:=qe [(12,q9 q2a q1Z vX),(43,q9 vg vj wh),(42,q9 qH qJ qk)] [(14,Tryz.f14)] [] 0
noncomputable def q2n:=qt qeF 14 Tryz.f14 true qa0 q9L
theorem qiH:zb Tryz.prog qa 14 (q9 qa0 q9L q2n):=sk qeF qc q8 (alc q76 (alc jo (alc zE aln))) aln (b1 Tryz.func14) Tryz.func14
def jh:FIn:=⟨[(.imm [(.int .i64)]),(.imm [(.int .i64)])],[]⟩
def jg:List FOut:=[⟨.bool,[],none⟩]
def q09:Tmpl:={ t:=((.imm [(.int .i64)])::(.imm [(.int .i64)])::qI 10 ((.int .i64)::(.int .i64)::qI 12 [])),h:=[] }
def q0S:List Out:=[⟨(.exit 0),{ t:=(qI 26 []),h:=[] }⟩,⟨.ret,{ t:=(qI 4 (.bool::qI 21 [])),h:=[] }⟩]
noncomputable def yl:=qe [] [(18,Tryz.f18)] [] 0
noncomputable def vz:=jl yl 18 Tryz.f18 6 q09 q0S
theorem q9r:qo Tryz.prog qa yl.nimp (qC Tryz.prog yl.iter 18) (zH Tryz.f18 6) (ql q09 q0S (qh vz)):=
 gk yl qc q8 aln aln (b1 Tryz.func18) Tryz.func18
noncomputable def q67:=qe [] [(18,Tryz.f18)] [((18,6),ql q09 q0S (qh vz))] 0
noncomputable def qK:=qt q67 18 Tryz.f18 true jh jg
theorem kQ:zb Tryz.prog qa 18 (q9 jh jg qK):=sk q67 qc q8 aln (alc (lk Tryz.func18 q9r) aln) (b1 Tryz.func18) Tryz.func18
def qhq:FIn:=⟨[(.agg [(.int .i64),(.int .i64),(.int .i64),(.int .i64),(.int .i64),(.int .i64),.bool]),(.agg [(.int .i64),(.int .i64),(.int .i64)])],[]⟩
def qhh:List FOut:=[⟨(.tuple [(.int .i64),(.int .i64)]),[],none⟩]
noncomputable def qmZ:=qe [] [(98,Tryz.f98)] [] 0
noncomputable def qdm:=qt qmZ 98 Tryz.f98 true qhq qhh
theorem qpg:zb Tryz.prog qa 98 (q9 qhq qhh qdm):=sk qmZ qc q8 aln aln (b1 Tryz.func98) Tryz.func98
def qeC:FIn:=⟨[(.agg [(.int .i64),(.int .i64),(.int .i64)])],[]⟩
def qeJ:List FOut:=[⟨(.int .i64),[],none⟩]
noncomputable def qld:=qe [(101,q9 qg4 qfZ ux),(102,q9 qb0 qaM jQ)] [(97,Tryz.f97)] [] 0
noncomputable def q7g:=qt qld 97 Tryz.f97 true qeC qeJ
theorem qor:zb Tryz.prog qa 97 (q9 qeC qeJ q7g):=sk qld qc q8 (alc qis (alc qfC aln)) aln (b1 Tryz.func97) Tryz.func97
def qf4:FIn:=⟨[(.agg [(.int .i64),(.int .i64),(.int .i64),(.int .i64),(.int .i64),(.int .i64),.bool]),(.agg [(.int .i64),(.int .i64),(.int .i64)])],[]⟩
def qeW:List FOut:=[⟨(.int .i64),[],none⟩]
noncomputable def ql8:=qe [(72,q9 q3b q3j jE),(97,q9 qeC qeJ q7g)] [(104,Tryz.f104)] [] 0
noncomputable def q7f:=qt ql8 104 Tryz.f104 true qf4 qeW
theorem qoo:zb Tryz.prog qa 104 (q9 qf4 qeW q7f):=sk ql8 qc q8 (alc q4w (alc qor aln)) aln (b1 Tryz.func104) Tryz.func104
def q4n:FIn:=⟨[(.agg [(.int .i64),(.int .i64),(.int .i64),(.int .i64),(.int .i64),(.int .i64),.bool]),(.agg [(.int .i64),(.int .i64),(.int .i64)])],[]⟩
def q4o:List FOut:=[⟨(.tuple [(.int .i64),(.int .i64)]),[],none⟩]
noncomputable def qe6:=qe [(98,q9 qhq qhh qdm),(104,q9 qf4 qeW q7f)] [(77,Tryz.f77)] [] 0
noncomputable def j6:=qt qe6 77 Tryz.f77 true q4n q4o
theorem q9y:zb Tryz.prog qa 77 (q9 q4n q4o j6):=sk qe6 qc q8 (alc qpg (alc qoo aln)) aln (b1 Tryz.func77) Tryz.func77
def q2Q:FIn:=⟨[(.agg [(.int .i64),(.int .i64),(.int .i64),(.int .i64),(.int .i64),(.int .i64),.bool]),(.agg [(.int .i64),(.int .i64),(.int .i64)])],[]⟩
def q3l:List FOut:=[⟨.bool,[],none⟩]
noncomputable def qcw:=qe [] [(78,Tryz.f78)] [] 0
noncomputable def ju:=qt qcw 78 Tryz.f78 true q2Q q3l
theorem q7T:zb Tryz.prog qa 78 (q9 q2Q q3l ju):=sk qcw qc q8 aln aln (b1 Tryz.func78) Tryz.func78
def q0q:FIn:=⟨[(.agg [(.imm [(.int .i64),(.int .i64),(.int .i64),(.int .i64),(.int .i64),(.int .i64),.bool]),(.imm [(.int .i64),(.int .i64),(.int .i64),(.int .i64),(.int .i64),(.int .i64),.bool])]),(.agg [(.imm [(.int .i64),(.int .i64),(.int .i64)]),(.imm [(.int .i64),(.int .i64),(.int .i64)])])],[]⟩
def q0L:List FOut:=[⟨(.int .i64),[],none⟩]
def q3J:Tmpl:={ t:=(.any::.any::(.ptr 0 0)::(.ptr 1 0)::qI 30 ((.int .i64)::(.int .i64)::qI 63 [])),h:=[.cells [(.imm [(.int .i64),(.int .i64),(.int .i64),(.int .i64),(.int .i64),(.int .i64),.bool]),(.imm [(.int .i64),(.int .i64),(.int .i64),(.int .i64),(.int .i64),(.int .i64),.bool])],.cells [(.imm [(.int .i64),(.int .i64),(.int .i64)]),(.imm [(.int .i64),(.int .i64),(.int .i64)])]] }
def q3N:List Out:=[⟨(.exit 0),{ t:=(qI 99 []),h:=[] }⟩,⟨.ret,{ t:=(qI 4 ((.int .i64)::qI 94 [])),h:=[] }⟩]
noncomputable def q05:=qe [(16,q9 uW uP v6),(77,q9 q4n q4o j6),(78,q9 q2Q q3l ju)] [(48,Tryz.f48)] [] 0
noncomputable def yM:=jl q05 48 Tryz.f48 10 q3J q3N
theorem qd2:qo Tryz.prog qa q05.nimp (qC Tryz.prog q05.iter 48) (zH Tryz.f48 10) (ql q3J q3N (qh yM)):=
 gk q05 qc q8 (alc q13 (alc q9y (alc q7T aln))) aln (b1 Tryz.func48) Tryz.func48
noncomputable def qbZ:=qe [(16,q9 uW uP v6),(77,q9 q4n q4o j6),(78,q9 q2Q q3l ju)] [(48,Tryz.f48)] [((48,10),ql q3J q3N (qh yM))] 0
noncomputable def wz:=qt qbZ 48 Tryz.f48 true q0q q0L
theorem q3w:zb Tryz.prog qa 48 (q9 q0q q0L wz):=sk qbZ qc q8 (alc q13 (alc q9y (alc q7T aln))) (alc (lk Tryz.func48 qd2) aln) (b1 Tryz.func48) Tryz.func48
def yB:FIn:=⟨[(.agg [(.imm [(.int .i64),(.int .i64),(.int .i64),(.int .i64),(.int .i64),(.int .i64),.bool]),(.imm [(.int .i64),(.int .i64),(.int .i64),(.int .i64),(.int .i64),(.int .i64),.bool])]),(.agg [(.imm [(.int .i64),(.int .i64),(.int .i64)]),(.imm [(.int .i64),(.int .i64),(.int .i64)])])],[]⟩
def yA:List FOut:=[⟨(.imm [(.int .i64)]),[],none⟩]
def q5G:Tmpl:={ t:=(.any::.any::.any::(.ptr 1 0)::.any::(.vec 2)::qI 4 ((.imm [(.int .i64),(.int .i64),(.int .i64),(.int .i64),(.int .i64),(.int .i64),.bool])::(.int .i64)::(.int .i64)::qI 27 [])),h:=[.dead,.cells [(.imm [(.int .i64),(.int .i64),(.int .i64)]),(.imm [(.int .i64),(.int .i64),(.int .i64)])],.vec 3 [(.int .i64)]],pro:=[(5,3,[(.int .i64)])] }
def q5P:List Out:=[⟨(.exit 0),{ t:=(qI 5 ((.vec 2)::qI 34 [])),h:=[.dead,.dead,.vec 3 [(.int .i64)]] }⟩]
noncomputable def q1W:=qe [] [(49,Tryz.f49)] [] 0
noncomputable def yp:=jl q1W 49 Tryz.f49 4 q5G q5P
theorem qew:qo Tryz.prog qa q1W.nimp (qC Tryz.prog q1W.iter 49) (zH Tryz.f49 4) (ql q5G q5P (qh yp)):=
 gk q1W qc q8 aln aln (b1 Tryz.func49) Tryz.func49
noncomputable def qdN:=qe [] [(49,Tryz.f49)] [((49,4),ql q5G q5P (qh yp))] 0
noncomputable def zt:=qt qdN 49 Tryz.f49 true yB yA
theorem uD:zb Tryz.prog qa 49 (q9 yB yA zt):=sk qdN qc q8 aln (alc (lk Tryz.func49 qew) aln) (b1 Tryz.func49) Tryz.func49
def yO:FIn:=⟨[(.int .i64),(.int .i64),(.ptr 0 0)],[.cells [(.imm [(.int .i64),(.int .i64),(.int .i64)]),(.imm [(.int .i64),(.int .i64),(.int .i64)])]]⟩
def yP:List FOut:=[⟨.bool,[.cells [(.imm [(.int .i64),(.int .i64),(.int .i64)]),(.imm [(.int .i64),(.int .i64),(.int .i64)])]],none⟩]
noncomputable def q7W:=qe [] [(50,Tryz.f50)] [] 1
noncomputable def wD:=qt q7W 50 Tryz.f50 true yO yP
theorem q10:zb Tryz.prog qa 50 (q9 yO yP wD):=sk q7W qc q8 aln aln (b1 Tryz.func50) Tryz.func50
def zO:FIn:=⟨[(.imm [(.int .i64)]),(.fn 50 [] [(.ptr 0 0)])],[.cells [(.imm [(.int .i64),(.int .i64),(.int .i64)]),(.imm [(.int .i64),(.int .i64),(.int .i64)])]]⟩
def zP:List FOut:=[⟨(.imm [(.int .i64)]),[.cells [(.imm [(.int .i64),(.int .i64),(.int .i64)]),(.imm [(.int .i64),(.int .i64),(.int .i64)])]],none⟩]
def zC:Tmpl:={ t:=(.any::(.fn 50 [] [(.ptr 0 0)])::.any::.any::.any::(.vec 1)::.any::.any::(.imm [(.int .i64)])::(.int .i64)::(.int .i64)::qI 14 []),h:=[.cells [(.imm [(.int .i64),(.int .i64),(.int .i64)]),(.imm [(.int .i64),(.int .i64),(.int .i64)])],.vec 3 [(.int .i64)]],pro:=[(5,3,[(.int .i64)])] }
def zF:List Out:=[⟨(.exit 0),{ t:=(qI 5 ((.vec 1)::qI 19 [])),h:=[.cells [(.imm [(.int .i64),(.int .i64),(.int .i64)]),(.imm [(.int .i64),(.int .i64),(.int .i64)])],.vec 3 [(.int .i64)]] }⟩]
noncomputable def qS:=qe [(50,q9 yO yP wD)] [(42,Tryz.f42)] [] 1
noncomputable def qx:=jl qS 42 Tryz.f42 4 zC zF
theorem kX:qo Tryz.prog qa qS.nimp (qC Tryz.prog qS.iter 42) (zH Tryz.f42 4) (ql zC zF (qh qx)):=
 gk qS qc q8 (alc q10 aln) aln (b1 Tryz.func42) Tryz.func42
noncomputable def j7:=qe [(50,q9 yO yP wD)] [(42,Tryz.f42)] [((42,4),ql zC zF (qh qx))] 1
noncomputable def qF:=qt j7 42 Tryz.f42 true zO zP
theorem q0A:zb Tryz.prog qa 42 (q9 zO zP qF):=sk j7 qc q8 (alc q10 aln) (alc (lk Tryz.func42 kX) aln) (b1 Tryz.func42) Tryz.func42
def kp:FIn:=⟨[(.agg [(.imm [(.int .i64),(.int .i64),(.int .i64),(.int .i64),(.int .i64),(.int .i64),.bool]),(.imm [(.int .i64),(.int .i64),(.int .i64),(.int .i64),(.int .i64),(.int .i64),.bool])]),(.agg [(.imm [(.int .i64),(.int .i64),(.int .i64)]),(.imm [(.int .i64),(.int .i64),(.int .i64)])])],[]⟩
def uZ:List FOut:=[⟨(.tuple [(.imm [(.int .i64)]),(.int .i64)]),[],none⟩]
noncomputable def qas:=qe [(48,q9 q0q q0L wz),(49,q9 yB yA zt),(50,q9 yO yP wD),(42,q9 zO zP qF)] [(20,Tryz.f20)] [] 0
noncomputable def wc:=qt qas 20 Tryz.f20 true kp uZ
theorem q2v:zb Tryz.prog qa 20 (q9 kp uZ wc):=sk qas qc q8 (alc q3w (alc uD (alc q10 (alc q0A aln)))) aln (b1 Tryz.func20) Tryz.func20
def wg:FIn:=⟨[.str,.str],[]⟩
def we:List FOut:=[⟨.bool,[],none⟩]
noncomputable def q02:=qe [] [(197,Tryz.f197)] [] 0
noncomputable def qG:=qt q02 197 Tryz.f197 true wg we
theorem uz:zb Tryz.prog qa 197 (q9 wg we qG):=sk q02 qc q8 aln aln (b1 Tryz.func197) Tryz.func197
def vY:FIn:=⟨[.str,.str],[]⟩
def vV:List FOut:=[⟨.str,[],none⟩]
noncomputable def kn:=qe [(197,q9 wg we qG)] [(189,Tryz.f189)] [] 0
noncomputable def zh:=qt kn 189 Tryz.f189 true vY vV
theorem q45:zb Tryz.prog qa 189 (q9 vY vV zh):=sk kn qc q8 (alc uz aln) aln (b1 Tryz.func189) Tryz.func189
def j2:FIn:=⟨[.str,.str],[]⟩
def j4:List FOut:=[⟨.str,[],none⟩]
noncomputable def q7Y:=qe [(189,q9 vY vV zh)] [(157,Tryz.f157)] [] 0
noncomputable def qT:=qt q7Y 157 Tryz.f157 true j2 j4
theorem yY:zb Tryz.prog qa 157 (q9 j2 j4 qT):=sk q7Y qc q8 (alc q45 aln) aln (b1 Tryz.func157) Tryz.func157
def qgV:FIn:=⟨[.str,.str],[]⟩
def qgO:List FOut:=[⟨.str,[],none⟩]
noncomputable def q6V:List PV→TR:=qyq
theorem qkp:zb Tryz.prog qa 158 (q9 qgV qgO q6V):=qxz Tryz.lays160 (q2z Tryz.func158 (by kernel_rfl) (by kernel_rfl)) (by kernel_rfl)
def jJ:FIn:=⟨[.str],[]⟩
def jH:List FOut:=[⟨(.int .i64),[],none⟩]
noncomputable def qiL:=qe [(157,q9 j2 j4 qT),(158,q9 qgV qgO q6V)] [(130,Tryz.f130)] [] 0
noncomputable def qP:=qt qiL 130 Tryz.f130 true jJ jH
theorem jd:zb Tryz.prog qa 130 (q9 jJ jH qP):=sk qiL qc q8 (alc yY (alc qkp aln)) aln (b1 Tryz.func130) Tryz.func130
def q23:FIn:=⟨[.str,.str],[]⟩
def q22:List FOut:=[⟨(.int .i64),[],none⟩]
noncomputable def vK:List PV→TR:=qsD
theorem q6x:zb Tryz.prog qa 228 (q9 q23 q22 vK):=qvi Tryz.lays219 (q2z Tryz.func228 (by kernel_rfl) (by kernel_rfl))
def uM:FIn:=⟨[.str,.str],[]⟩
def uO:List FOut:=[⟨(.tuple [.str,.str,.bool]),[],none⟩]
noncomputable def q3q:=qe [(228,q9 q23 q22 vK)] [(201,Tryz.f201)] [] 0
noncomputable def wC:=qt q3q 201 Tryz.f201 true uM uO
theorem q7C:zb Tryz.prog qa 201 (q9 uM uO wC):=sk q3q qc q8 (alc q6x aln) aln (b1 Tryz.func201) Tryz.func201
def qdu:FIn:=⟨[.str,.str],[]⟩
def qde:List FOut:=[⟨(.tuple [.str,.str,.bool]),[],none⟩]
noncomputable def qjw:=qe [(201,q9 uM uO wC)] [(164,Tryz.f164)] [] 0
noncomputable def q5r:=qt qjw 164 Tryz.f164 true qdu qde
theorem qm0:zb Tryz.prog qa 164 (q9 qdu qde q5r):=sk qjw qc q8 (alc q7C aln) aln (b1 Tryz.func164) Tryz.func164
def q2f:FIn:=⟨[.str],[]⟩
def q2s:List FOut:=[⟨(.tuple [.str,.str,.bool]),[],none⟩]
noncomputable def qmp:=qe [(164,q9 qdu qde q5r)] [(134,Tryz.f134)] [] 0
noncomputable def qR:=qt qmp 134 Tryz.f134 true q2f q2s
theorem q1E:zb Tryz.prog qa 134 (q9 q2f q2s qR):=sk qmp qc q8 (alc qm0 aln) aln (b1 Tryz.func134) Tryz.func134
def kw:FIn:=⟨[(.imm [.str])],[]⟩
def q00:List FOut:=[⟨(.int .i64),[],none⟩]
def qdn:Tmpl:={ t:=(qI 6 ((.imm [.str])::(.int .i64)::(.int .i64)::qI 9 [])),h:=[] }
def qcN:List Out:=[⟨(.exit 0),{ t:=(qI 18 []),h:=[] }⟩,⟨.ret,{ t:=(.any::.any::(.int .i64)::qI 15 []),h:=[] }⟩]
noncomputable def q8x:=qe [(130,q9 jJ jH qP)] [(165,Tryz.f165)] [] 0
noncomputable def q5o:=jl q8x 165 Tryz.f165 3 qdn qcN
theorem qlH:qo Tryz.prog qa q8x.nimp (qC Tryz.prog q8x.iter 165) (zH Tryz.f165 3) (ql qdn qcN (qh q5o)):=
 gk q8x qc q8 (alc jd aln) aln (b1 Tryz.func165) Tryz.func165
noncomputable def qmy:=qe [(130,q9 jJ jH qP)] [(165,Tryz.f165)] [((165,3),ql qdn qcN (qh q5o))] 0
noncomputable def zY:=qt qmy 165 Tryz.f165 true kw q00
theorem ui:zb Tryz.prog qa 165 (q9 kw q00 zY):=sk qmy qc q8 (alc jd aln) (alc (lk Tryz.func165 qlH) aln) (b1 Tryz.func165) Tryz.func165
def q7e:FIn:=⟨[.str],[]⟩
def q7n:List FOut:=[⟨(.int .i64),[],none⟩]
noncomputable def qlf:=qe [] [(176,Tryz.f176)] [] 0
noncomputable def ug:=qt qlf 176 Tryz.f176 true q7e q7n
theorem q9b:zb Tryz.prog qa 176 (q9 q7e q7n ug):=sk qlf qc q8 aln aln (b1 Tryz.func176) Tryz.func176
def qct:FIn:=⟨[.str,.str],[]⟩
def qci:List FOut:=[⟨(.int .i64),[],none⟩]
noncomputable def q2V:List PV→TR:=qmi
theorem qgj:zb Tryz.prog qa 207 (q9 qct qci q2V):=qqD Tryz.lays106 (q2z Tryz.func207 (by kernel_rfl) (by kernel_rfl))
def qdJ:FIn:=⟨[.str,.str],[]⟩
def qdk:List FOut:=[⟨(.int .i64),[],none⟩]
noncomputable def qjf:=qe [(207,q9 qct qci q2V)] [(177,Tryz.f177)] [] 0
noncomputable def q5F:=qt qjf 177 Tryz.f177 true qdJ qdk
theorem qlT:zb Tryz.prog qa 177 (q9 qdJ qdk q5F):=sk qjf qc q8 (alc qgj aln) aln (b1 Tryz.func177) Tryz.func177
def q9Z:FIn:=⟨[.str,.str],[]⟩
def q9Q:List FOut:=[⟨(.tuple [(.int .i64),(.int .i64)]),[],none⟩]
noncomputable def qeM:=qe [(157,q9 j2 j4 qT),(165,q9 kw q00 zY),(176,q9 q7e q7n ug),(177,q9 qdJ qdk q5F)] [(145,Tryz.f145)] [] 0
noncomputable def q2y:=qt qeM 145 Tryz.f145 true q9Z q9Q
theorem qiB:zb Tryz.prog qa 145 (q9 q9Z q9Q q2y):=sk qeM qc q8 (alc yY (alc ui (alc q9b (alc qlT aln)))) aln (b1 Tryz.func145) Tryz.func145
def qh4:FIn:=⟨[(.int .i64)],[]⟩
def qgC:List FOut:=[⟨.str,[],none⟩]
noncomputable def q4f:List PV→TR:=qzA
theorem qkj:zb Tryz.prog qa 132 (q9 qh4 qgC q4f):=qxm Tryz.laysM171 (q2z Tryz.func132 (by kernel_rfl) (by kernel_rfl)) (by kernel_rfl) (by unfold qa;exact List.mem_cons_self)
def q3a:FIn:=⟨[(.int .i64)],[]⟩
def q2M:List FOut:=[⟨.str,[],none⟩]
noncomputable def qqa:=qe [(132,q9 qh4 qgC q4f)] [(108,Tryz.f108)] [] 0
noncomputable def zx:=qt qqa 108 Tryz.f108 true q3a q2M
theorem q12:zb Tryz.prog qa 108 (q9 q3a q2M zx):=sk qqa qc q8 (alc qkj aln) aln (b1 Tryz.func108) Tryz.func108
def q71:FIn:=⟨[.str],[]⟩
def q6S:List FOut:=[⟨(.tuple [(.int .i64),.any]),[],none⟩]
noncomputable def vO:List PV→TR:=qzV
theorem q6q:zb Tryz.prog qa 202 (q9 q71 q6S vO):=qwM Tryz.lays172 (q2z Tryz.func202 (by kernel_rfl) (by kernel_rfl))
def zq:FIn:=⟨[(.ptr 0 0)],[.big [.bool,(.int .i64)] .i64 232]⟩
def zr:List FOut:=[⟨(.ptr 0 0),[.big [.bool,(.int .i64)] .i64 232],none⟩]
def q1U:Tmpl:={ t:=((.ptr 0 0)::qI 28 []),h:=[.big [.bool,(.int .i64)] .i64 232] }
def q1R:List Out:=[⟨(.exit 0),{ t:=((.ptr 0 0)::qI 28 []),h:=[.big [.bool,(.int .i64)] .i64 232] }⟩]
noncomputable def uH:=qe [] [(203,Tryz.f203)] [] 1
noncomputable def jn:=jl uH 203 Tryz.f203 2 q1U q1R
theorem qbt:qo Tryz.prog qa uH.nimp (qC Tryz.prog uH.iter 203) (zH Tryz.f203 2) (ql q1U q1R (qh jn)):=
 gk uH qc q8 aln aln (b1 Tryz.func203) Tryz.func203
noncomputable def q7X:=qe [] [(203,Tryz.f203)] [((203,2),ql q1U q1R (qh jn))] 1
noncomputable def qB:=qt q7X 203 Tryz.f203 false zq zr
theorem zN:zb Tryz.prog qa 203 (q9 zq zr qB):=qkW (E:=q7X) qc ⟨q53 q8,aln,(alc (lk Tryz.func203 qbt) aln),(b1 Tryz.func203)⟩ Tryz.func203 (by kernel_rfl) (by kernel_rfl) (fun _=>rfl)
def kq:FIn:=⟨[.str],[]⟩
def kt:List FOut:=[⟨(.ptr 0 0),[.big [.bool,(.int .i64)] .i64 232],none⟩]
def qbB:Tmpl:={ t:=(.any::.any::.any::.str::(.ptr 0 0)::qI 43 []),h:=[.big [.bool,(.int .i64)] .i64 232] }
def qbF:List Out:=[⟨(.exit 0),{ t:=(qI 4 ((.ptr 0 0)::qI 43 [])),h:=[.big [.bool,(.int .i64)] .i64 232] }⟩]
noncomputable def q6Z:=qe [(157,q9 j2 j4 qT),(202,q9 q71 q6S vO),(203,q9 zq zr qB)] [(168,Tryz.f168)] [] 0
noncomputable def q43:=jl q6Z 168 Tryz.f168 5 qbB qbF
theorem qkE:qo Tryz.prog qa q6Z.nimp (qC Tryz.prog q6Z.iter 168) (zH Tryz.f168 5) (ql qbB qbF (qh q43)):=
 gk q6Z qc q8 (alc yY (alc q6q (alc zN aln))) aln (b1 Tryz.func168) Tryz.func168
noncomputable def qlz:=qe [(157,q9 j2 j4 qT),(202,q9 q71 q6S vO),(203,q9 zq zr qB)] [(168,Tryz.f168)] [((168,5),ql qbB qbF (qh q43))] 0
noncomputable def zG:=qt qlz 168 Tryz.f168 false kq kt
theorem uA:zb Tryz.prog qa 168 (q9 kq kt zG):=qkW (E:=qlz) qc ⟨q53 q8,(alc yY (alc q6q (alc zN aln))),(alc (lk Tryz.func168 qkE) aln),(b1 Tryz.func168)⟩ Tryz.func168 (by kernel_rfl) (by kernel_rfl) (fun _=>rfl)
def wH:FIn:=⟨[(.ptr 0 0),(.ptr 1 0),(.int .i64),(.int .i64)],[.big [.bool,(.int .i64)] .i64 232,.big [.bool,(.int .i64)] .i64 232]⟩
def wG:List FOut:=[⟨(.tuple []),[.big [.bool,(.int .i64)] .i64 232,.big [.bool,(.int .i64)] .i64 232],none⟩]
def q3D:Tmpl:={ t:=((.ptr 0 0)::(.ptr 1 0)::(.int .i64)::(.int .i64)::qI 4 ((.int .i64)::(.int .i64)::qI 73 [])),h:=[.big [.bool,(.int .i64)] .i64 232,.big [.bool,(.int .i64)] .i64 232] }
def q3H:List Out:=[⟨(.exit 0),{ t:=((.ptr 0 0)::qI 82 []),h:=[.big [.bool,(.int .i64)] .i64 232,.big [.bool,(.int .i64)] .i64 232] }⟩]
noncomputable def q08:=qe [(203,q9 zq zr qB)] [(204,Tryz.f204)] [] 2
noncomputable def j1:=jl q08 204 Tryz.f204 3 q3D q3H
theorem qdF:qo Tryz.prog qa q08.nimp (qC Tryz.prog q08.iter 204) (zH Tryz.f204 3) (ql q3D q3H (qh j1)):=
 gk q08 qc q8 (alc zN aln) aln (b1 Tryz.func204) Tryz.func204
noncomputable def qaT:=qe [(203,q9 zq zr qB)] [(204,Tryz.f204)] [((204,3),ql q3D q3H (qh j1))] 2
noncomputable def qL:=qt qaT 204 Tryz.f204 true wH wG
theorem vC:zb Tryz.prog qa 204 (q9 wH wG qL):=sk qaT qc q8 (alc zN aln) (alc (lk Tryz.func204 qdF) aln) (b1 Tryz.func204) Tryz.func204
def jt:FIn:=⟨[(.ptr 0 0),(.ptr 1 0)],[.big [.bool,(.int .i64)] .i64 232,.big [.bool,(.int .i64)] .i64 232]⟩
def jp:List FOut:=[⟨(.int .i64),[.big [.bool,(.int .i64)] .i64 232,.big [.bool,(.int .i64)] .i64 232],none⟩]
def q2i:Tmpl:={ t:=((.ptr 0 0)::(.ptr 1 0)::.any::.any::.any::(.int .i64)::qI 53 []),h:=[.big [.bool,(.int .i64)] .i64 232,.big [.bool,(.int .i64)] .i64 232] }
def q2A:List Out:=[⟨(.exit 0),{ t:=(qI 59 []),h:=[.big [.bool,(.int .i64)] .i64 232,.big [.bool,(.int .i64)] .i64 232] }⟩,⟨.ret,{ t:=(qI 4 ((.int .i64)::qI 54 [])),h:=[.big [.bool,(.int .i64)] .i64 232,.big [.bool,(.int .i64)] .i64 232] }⟩]
noncomputable def kh:=qe [] [(208,Tryz.f208)] [] 2
noncomputable def jO:=jl kh 208 Tryz.f208 6 q2i q2A
theorem qcF:qo Tryz.prog qa kh.nimp (qC Tryz.prog kh.iter 208) (zH Tryz.f208 6) (ql q2i q2A (qh jO)):=
 gk kh qc q8 aln aln (b1 Tryz.func208) Tryz.func208
noncomputable def q9U:=qe [] [(208,Tryz.f208)] [((208,6),ql q2i q2A (qh jO))] 2
noncomputable def zL:=qt q9U 208 Tryz.f208 true jt jp
theorem uK:zb Tryz.prog qa 208 (q9 jt jp zL):=sk q9U qc q8 aln (alc (lk Tryz.func208 qcF) aln) (b1 Tryz.func208) Tryz.func208
def q1s:FIn:=⟨[(.ptr 0 0),(.ptr 1 0)],[.big [.bool,(.int .i64)] .i64 232,.big [.bool,(.int .i64)] .i64 232]⟩
def q1p:List FOut:=[⟨(.int .i64),[.big [.bool,(.int .i64)] .i64 232,.big [.bool,(.int .i64)] .i64 232],none⟩]
noncomputable def qeg:=qe [] [(209,Tryz.f209),(233,Tryz.f233)] [] 2
noncomputable def yG:=qt qeg 209 Tryz.f209 true q1s q1p
theorem q4M:zb Tryz.prog qa 209 (q9 q1s q1p yG):=sk qeg qc q8 aln aln (alc (bk Tryz.func209) (alc (bk Tryz.func233) aln)) Tryz.func209
def q0z:FIn:=⟨[(.ptr 0 0),(.ptr 1 0)],[.big [.bool,(.int .i64)] .i64 232,.big [.bool,(.int .i64)] .i64 232]⟩
def q0u:List FOut:=[⟨(.tuple [(.ptr 2 0),(.ptr 3 0)]),[.big [.bool,(.int .i64)] .i64 232,.big [.bool,(.int .i64)] .i64 232,.big [.bool,(.int .i64)] .i64 232,.big [.bool,(.int .i64)] .i64 232],none⟩]
def q5K:Tmpl:={ t:=((.ptr 0 0)::(.ptr 1 0)::qI 4 ((.ptr 2 0)::(.ptr 3 0)::(.int .i64)::(.int .i64)::qI 80 [])),h:=[.big [.bool,(.int .i64)] .i64 232,.big [.bool,(.int .i64)] .i64 232,.big [.bool,(.int .i64)] .i64 232,.big [.bool,(.int .i64)] .i64 232] }
def q5e:List Out:=[⟨(.exit 2),{ t:=((.ptr 0 0)::(.ptr 1 0)::qI 4 ((.ptr 2 0)::(.ptr 3 0)::(.int .i64)::(.int .i64)::qI 80 [])),h:=[.big [.bool,(.int .i64)] .i64 232,.big [.bool,(.int .i64)] .i64 232,.big [.bool,(.int .i64)] .i64 232,.big [.bool,(.int .i64)] .i64 232] }⟩]
noncomputable def q1X:=qe [(203,q9 zq zr qB),(204,q9 wH wG qL),(208,q9 jt jp zL),(209,q9 q1s q1p yG)] [(178,Tryz.f178)] [] 2
noncomputable def yq:=jl q1X 178 Tryz.f178 14 q5K q5e
theorem qfm:qo Tryz.prog qa q1X.nimp (qC Tryz.prog q1X.iter 178) (zH Tryz.f178 14) (ql q5K q5e (qh yq)):=
 gk q1X qc q8 (alc zN (alc vC (alc uK (alc q4M aln)))) aln (b1 Tryz.func178) Tryz.func178
def q6c:Tmpl:={ t:=((.ptr 0 0)::(.ptr 1 0)::qI 4 ((.ptr 2 0)::(.ptr 3 0)::(.int .i64)::qI 81 [])),h:=[.big [.bool,(.int .i64)] .i64 232,.big [.bool,(.int .i64)] .i64 232,.big [.bool,(.int .i64)] .i64 232,.big [.bool,(.int .i64)] .i64 232] }
def q6j:List Out:=[⟨(.exit 0),{ t:=(qI 6 ((.ptr 2 0)::(.ptr 3 0)::qI 82 [])),h:=[.big [.bool,(.int .i64)] .i64 232,.big [.bool,(.int .i64)] .i64 232,.big [.bool,(.int .i64)] .i64 232,.big [.bool,(.int .i64)] .i64 232] }⟩]
noncomputable def q34:=qe [(203,q9 zq zr qB),(204,q9 wH wG qL),(208,q9 jt jp zL),(209,q9 q1s q1p yG)] [(178,Tryz.f178)] [((178,14),ql q5K q5e (qh yq))] 2
noncomputable def q0a:=jl q34 178 Tryz.f178 4 q6c q6j
theorem qgo:qo Tryz.prog qa q34.nimp (qC Tryz.prog q34.iter 178) (zH Tryz.f178 4) (ql q6c q6j (qh q0a)):=
 gk q34 qc q8 (alc zN (alc vC (alc uK (alc q4M aln)))) (alc (lk Tryz.func178 qfm) aln) (b1 Tryz.func178) Tryz.func178
noncomputable def qfF:=qe [(203,q9 zq zr qB),(204,q9 wH wG qL),(208,q9 jt jp zL),(209,q9 q1s q1p yG)] [(178,Tryz.f178)] [((178,4),ql q6c q6j (qh q0a))] 2
noncomputable def wO:=qt qfF 178 Tryz.f178 false q0z q0u
theorem q1Y:zb Tryz.prog qa 178 (q9 q0z q0u wO):=qkW (E:=qfF) qc ⟨q53 q8,(alc zN (alc vC (alc uK (alc q4M aln)))),(alc (lk Tryz.func178 qgo) aln),(b1 Tryz.func178)⟩ Tryz.func178 (by kernel_rfl) (by kernel_rfl) (fun _=>rfl)
def ul:FIn:=⟨[(.ptr 0 0)],[.big [.bool,(.int .i64)] .i64 232]⟩
def uv:List FOut:=[⟨.str,[.big [.bool,(.int .i64)] .i64 232],none⟩]
noncomputable def qM:List PV→TR:=qyV
theorem yS:zb Tryz.prog qa 179 (q9 ul uv qM):=qxd (by unfold qa;exact List.mem_cons_self)
def qa4:FIn:=⟨[.str,.str],[]⟩
def q9Y:List FOut:=[⟨(.tuple [.str,(.int .i64)]),[],none⟩]
def qbM:Tmpl:={ t:=(qI 9 ((.int .i64)::(.int .i64)::qI 61 [])),h:=[] }
def qba:List Out:=[⟨(.exit 2),{ t:=(qI 9 ((.int .i64)::qI 62 [])),h:=[] }⟩]
noncomputable def q72:=qe [(108,q9 q3a q2M zx),(165,q9 kw q00 zY),(168,q9 kq kt zG),(178,q9 q0z q0u wO),(179,q9 ul uv qM)] [(146,Tryz.f146)] [] 0
noncomputable def q1O:=jl q72 146 Tryz.f146 14 qbM qba
theorem qkC:qo Tryz.prog qa q72.nimp (qC Tryz.prog q72.iter 146) (zH Tryz.f146 14) (ql qbM qba (qh q1O)):=
 gk q72 qc q8 (alc q12 (alc ui (alc uA (alc q1Y (alc yS aln))))) aln (b1 Tryz.func146) Tryz.func146
def qcR:Tmpl:={ t:=(qI 7 ((.ptr 1 0)::(.ptr 2 0)::qI 63 [])),h:=[.dead,.big [.bool,(.int .i64)] .i64 232,.big [.bool,(.int .i64)] .i64 232],sw:=[(7,1),(8,2)],swn:=0 }
def qdA:List Out:=[⟨(.exit 0),{ t:=(qI 7 ((.ptr 1 0)::qI 64 [])),h:=[.dead,.big [.bool,(.int .i64)] .i64 232] }⟩,⟨.ret,{ t:=(qI 4 (.str::(.int .i64)::qI 66 [])),h:=[] }⟩]
noncomputable def q8c:=qe [(108,q9 q3a q2M zx),(165,q9 kw q00 zY),(168,q9 kq kt zG),(178,q9 q0z q0u wO),(179,q9 ul uv qM)] [(146,Tryz.f146)] [((146,14),ql qbM qba (qh q1O))] 0
noncomputable def q5g:=jl q8c 146 Tryz.f146 7 qcR qdA
theorem qlF:qo Tryz.prog qa q8c.nimp (qC Tryz.prog q8c.iter 146) (zH Tryz.f146 7) (ql qcR qdA (qh q5g)):=
 gk q8c qc q8 (alc q12 (alc ui (alc uA (alc q1Y (alc yS aln))))) (alc (lk Tryz.func146 qkC) aln) (b1 Tryz.func146) Tryz.func146
noncomputable def qmQ:=qe [(108,q9 q3a q2M zx),(165,q9 kw q00 zY),(168,q9 kq kt zG),(178,q9 q0z q0u wO),(179,q9 ul uv qM)] [(146,Tryz.f146)] [((146,7),ql qcR qdA (qh q5g))] 0
noncomputable def q2j:=qt qmQ 146 Tryz.f146 true qa4 q9Y
theorem qbO:zb Tryz.prog qa 146 (q9 qa4 q9Y q2j):=sk qmQ qc q8 (alc q12 (alc ui (alc uA (alc q1Y (alc yS aln))))) (alc (lk Tryz.func146 qlF) aln) (b1 Tryz.func146) Tryz.func146
def q3h:FIn:=⟨[.str],[]⟩
def q3e:List FOut:=[⟨(.int .i64),[],none⟩]
noncomputable def qj0:=qe [(130,q9 jJ jH qP),(134,q9 q2f q2s qR),(145,q9 q9Z q9Q q2y),(146,q9 qa4 q9Y q2j)] [(114,Tryz.f114)] [] 0
noncomputable def vZ:=qt qj0 114 Tryz.f114 true q3h q3e
theorem q4v:zb Tryz.prog qa 114 (q9 q3h q3e vZ):=sk qj0 qc q8 (alc jd (alc q1E (alc qiB (alc qbO aln)))) aln (b1 Tryz.func114) Tryz.func114
def q8u:FIn:=⟨[(.agg [.str,.str,.str])],[]⟩
def q8t:List FOut:=[⟨(.int .i64),[],none⟩]
def q9n:Tmpl:={ t:=(.any::(.ptr 0 0)::qI 12 ((.vec 1)::(.int .i64)::(.int .i64)::qI 13 [])),h:=[.cells [.str,.str,.str],.vec 112 [.str]] }
def q9F:List Out:=[⟨(.exit 0),{ t:=(.any::(.ptr 0 0)::qI 28 []),h:=[.cells [.str,.str,.str]] }⟩,⟨.ret,{ t:=(.any::.any::(.int .i64)::qI 27 []),h:=[] }⟩]
noncomputable def q5M:=qe [(114,q9 q3h q3e vZ)] [(88,Tryz.f88)] [] 0
noncomputable def q2e:=jl q5M 88 Tryz.f88 3 q9n q9F
theorem qjC:qo Tryz.prog qa q5M.nimp (qC Tryz.prog q5M.iter 88) (zH Tryz.f88 3) (ql q9n q9F (qh q2e)):=
 gk q5M qc q8 (alc q4v aln) aln (b1 Tryz.func88) Tryz.func88
noncomputable def qiC:=qe [(114,q9 q3h q3e vZ)] [(88,Tryz.f88)] [((88,3),ql q9n q9F (qh q2e))] 0
noncomputable def q2W:=qt qiC 88 Tryz.f88 true q8u q8t
theorem qe0:zb Tryz.prog qa 88 (q9 q8u q8t q2W):=sk qiC qc q8 (alc q4v aln) (alc (lk Tryz.func88 qjC) aln) (b1 Tryz.func88) Tryz.func88
def j8:FIn:=⟨[(.imm [.str,.str,.str])],[]⟩
def jf:List FOut:=[⟨(.int .i64),[],none⟩]
def qbC:Tmpl:={ t:=((.imm [.str,.str,.str])::qI 8 ((.imm [.str,.str,.str])::(.int .i64)::(.int .i64)::qI 12 [])),h:=[] }
def qbP:List Out:=[⟨(.exit 0),{ t:=((.imm [.str,.str,.str])::qI 23 []),h:=[] }⟩,⟨.ret,{ t:=(.any::.any::(.int .i64)::qI 21 []),h:=[] }⟩]
noncomputable def q6L:=qe [(88,q9 q8u q8t q2W)] [(60,Tryz.f60)] [] 0
noncomputable def q4e:=jl q6L 60 Tryz.f60 6 qbC qbP
theorem qkY:qo Tryz.prog qa q6L.nimp (qC Tryz.prog q6L.iter 60) (zH Tryz.f60 6) (ql qbC qbP (qh q4e)):=
 gk q6L qc q8 (alc qe0 aln) aln (b1 Tryz.func60) Tryz.func60
noncomputable def ql6:=qe [(88,q9 q8u q8t q2W)] [(60,Tryz.f60)] [((60,6),ql qbC qbP (qh q4e))] 0
noncomputable def zI:=qt ql6 60 Tryz.f60 true j8 jf
theorem wV:zb Tryz.prog qa 60 (q9 j8 jf zI):=sk ql6 qc q8 (alc qe0 aln) (alc (lk Tryz.func60 qkY) aln) (b1 Tryz.func60) Tryz.func60
def q5m:FIn:=⟨[.str,.str],[]⟩
def q5k:List FOut:=[⟨(.tuple [(.int .i64),(.int .i64),.bool]),[],none⟩]
noncomputable def qjm:=qe [(202,q9 q71 q6S vO)] [(166,Tryz.f166)] [] 0
noncomputable def yZ:=qt qjm 166 Tryz.f166 true q5m q5k
theorem q7N:zb Tryz.prog qa 166 (q9 q5m q5k yZ):=sk qjm qc q8 (alc q6q aln) aln (b1 Tryz.func166) Tryz.func166
def q6T:FIn:=⟨[(.int .i64)],[]⟩
def q6M:List FOut:=[⟨(.tuple [.str,(.int .i64)]),[],none⟩]
noncomputable def qgL:=qe [(108,q9 q3a q2M zx)] [(167,Tryz.f167)] [] 0
noncomputable def kT:=qt qgL 167 Tryz.f167 true q6T q6M
theorem qcB:zb Tryz.prog qa 167 (q9 q6T q6M kT):=sk qgL qc q8 (alc q12 aln) aln (b1 Tryz.func167) Tryz.func167
def q5Q:FIn:=⟨[(.ptr 0 0),(.ptr 1 0)],[.big [.bool,(.int .i64)] .i64 232,.big [.bool,(.int .i64)] .i64 232]⟩
def q5V:List FOut:=[⟨(.ptr 2 0),[.big [.bool,(.int .i64)] .i64 232,.big [.bool,(.int .i64)] .i64 232,.big [.bool,(.int .i64)] .i64 232],none⟩]
def q3B:Tmpl:={ t:=((.ptr 0 0)::(.ptr 1 0)::.any::.any::.any::(.ptr 2 0)::qI 15 ((.int .i64)::(.int .i64)::qI 14 [])),h:=[.big [.bool,(.int .i64)] .i64 232,.big [.bool,(.int .i64)] .i64 232,.big [.bool,(.int .i64)] .i64 232] }
def q3G:List Out:=[⟨(.exit 0),{ t:=(qI 5 ((.ptr 2 0)::qI 31 [])),h:=[.big [.bool,(.int .i64)] .i64 232,.big [.bool,(.int .i64)] .i64 232,.big [.bool,(.int .i64)] .i64 232] }⟩]
noncomputable def q06:=qe [(204,q9 wH wG qL)] [(169,Tryz.f169)] [] 2
noncomputable def yR:=jl q06 169 Tryz.f169 4 q3B q3G
theorem qdc:qo Tryz.prog qa q06.nimp (qC Tryz.prog q06.iter 169) (zH Tryz.f169 4) (ql q3B q3G (qh yR)):=
 gk q06 qc q8 (alc vC aln) aln (b1 Tryz.func169) Tryz.func169
noncomputable def qaB:=qe [(204,q9 wH wG qL)] [(169,Tryz.f169)] [((169,4),ql q3B q3G (qh yR))] 2
noncomputable def km:=qt qaB 169 Tryz.f169 false q5Q q5V
theorem qfE:zb Tryz.prog qa 169 (q9 q5Q q5V km):=qkW (E:=qaB) qc ⟨q53 q8,(alc vC aln),(alc (lk Tryz.func169 qdc) aln),(b1 Tryz.func169)⟩ Tryz.func169 (by kernel_rfl) (by kernel_rfl) (fun _=>rfl)
def yT:FIn:=⟨[(.ptr 0 0)],[.big [.bool,(.int .i64)] .i64 232]⟩
def yL:List FOut:=[⟨(.tuple [.str,(.int .i64)]),[.big [.bool,(.int .i64)] .i64 232],none⟩]
noncomputable def q80:=qe [(130,q9 jJ jH qP),(179,q9 ul uv qM)] [(170,Tryz.f170)] [] 1
noncomputable def zW:=qt q80 170 Tryz.f170 true yT yL
theorem q1b:zb Tryz.prog qa 170 (q9 yT yL zW):=sk q80 qc q8 (alc jd (alc yS aln)) aln (b1 Tryz.func170) Tryz.func170
def qa2:FIn:=⟨[.str,.str],[]⟩
def q9w:List FOut:=[⟨(.tuple [.str,(.int .i64)]),[],none⟩]
noncomputable def qmC:=qe [(165,q9 kw q00 zY),(166,q9 q5m q5k yZ),(167,q9 q6T q6M kT),(168,q9 kq kt zG),(169,q9 q5Q q5V km),(170,q9 yT yL zW)] [(136,Tryz.f136)] [] 0
noncomputable def q4O:=qt qmC 136 Tryz.f136 true qa2 q9w
theorem qbi:zb Tryz.prog qa 136 (q9 qa2 q9w q4O):=sk qmC qc q8 (alc ui (alc q7N (alc qcB (alc uA (alc qfE (alc q1b aln)))))) aln (b1 Tryz.func136) Tryz.func136
def jM:FIn:=⟨[(.ptr 0 0),(.fn 136 [] []),.str,.str],[.cells [(.int .i64)]]⟩
def jw:List FOut:=[⟨.str,[.cells [(.int .i64)]],none⟩]
noncomputable def q3W:=qe [(136,q9 qa2 q9w q4O)] [(135,Tryz.f135)] [] 1
noncomputable def zV:=qt q3W 135 Tryz.f135 true jM jw
theorem q20:zb Tryz.prog qa 135 (q9 jM jw zV):=sk q3W qc q8 (alc qbi aln) aln (b1 Tryz.func135) Tryz.func135
def jc:FIn:=⟨[(.ptr 0 0),(.imm [.str])],[.cells [(.int .i64)]]⟩
def j9:List FOut:=[⟨.str,[.cells [(.int .i64)]],none⟩]
def q5v:Tmpl:={ t:=(qI 5 (.str::(.fn 135 [(.ptr 0 0)] [])::qI 4 ((.imm [.str])::(.int .i64)::(.int .i64)::qI 9 []))),h:=[.cells [(.int .i64)]] }
def q5a:List Out:=[⟨(.exit 0),{ t:=(qI 5 (.str::qI 17 [])),h:=[.cells [(.int .i64)]] }⟩]
noncomputable def q27:=qe [(136,q9 qa2 q9w q4O),(135,q9 jM jw zV)] [(111,Tryz.f111)] [] 1
noncomputable def yb:=jl q27 111 Tryz.f111 4 q5v q5a
theorem qfw:qo Tryz.prog qa q27.nimp (qC Tryz.prog q27.iter 111) (zH Tryz.f111 4) (ql q5v q5a (qh yb)):=
 gk q27 qc q8 (alc qbi (alc q20 aln)) aln (b1 Tryz.func111) Tryz.func111
noncomputable def qea:=qe [(136,q9 qa2 q9w q4O),(135,q9 jM jw zV)] [(111,Tryz.f111)] [((111,4),ql q5v q5a (qh yb))] 1
noncomputable def qg:=qt qea 111 Tryz.f111 true jc j9
theorem jq:zb Tryz.prog qa 111 (q9 jc j9 qg):=sk qea qc q8 (alc qbi (alc q20 aln)) (alc (lk Tryz.func111 qfw) aln) (b1 Tryz.func111) Tryz.func111
def q0v:FIn:=⟨[(.ptr 0 0),(.ptr 1 0)],[.big [.bool,(.int .i64)] .i64 232,.big [.bool,(.int .i64)] .i64 232]⟩
def q0n:List FOut:=[⟨(.tuple []),[.big [.bool,(.int .i64)] .i64 232,.big [.bool,(.int .i64)] .i64 232],none⟩]
noncomputable def qbW:=qe [(204,q9 wH wG qL),(208,q9 jt jp zL)] [(223,Tryz.f223)] [] 2
noncomputable def wy:=qt qbW 223 Tryz.f223 true q0v q0n
theorem q3v:zb Tryz.prog qa 223 (q9 q0v q0n wy):=sk qbW qc q8 (alc vC (alc uK aln)) aln (b1 Tryz.func223) Tryz.func223
def qhL:FIn:=⟨[(.imm [.str])],[]⟩
def qhr:List FOut:=[⟨(.tuple [.str,(.int .i64)]),[],none⟩]
def qdH:Tmpl:={ t:=(qI 4 ((.ptr 0 0)::qI 4 ((.imm [.str])::(.int .i64)::(.int .i64)::qI 12 []))),h:=[.big [.bool,(.int .i64)] .i64 232] }
def qcQ:List Out:=[⟨(.exit 0),{ t:=(qI 4 ((.ptr 0 0)::qI 19 [])),h:=[.big [.bool,(.int .i64)] .i64 232] }⟩]
noncomputable def q85:=qe [(168,q9 kq kt zG),(170,q9 yT yL zW),(223,q9 q0v q0n wy)] [(235,Tryz.f235)] [] 0
noncomputable def q5N:=jl q85 235 Tryz.f235 4 qdH qcQ
theorem qlM:qo Tryz.prog qa q85.nimp (qC Tryz.prog q85.iter 235) (zH Tryz.f235 4) (ql qdH qcQ (qh q5N)):=
 gk q85 qc q8 (alc uA (alc q1b (alc q3v aln))) aln (b1 Tryz.func235) Tryz.func235
noncomputable def qnF:=qe [(168,q9 kq kt zG),(170,q9 yT yL zW),(223,q9 q0v q0n wy)] [(235,Tryz.f235)] [((235,4),ql qdH qcQ (qh q5N))] 0
noncomputable def qa7:=qt qnF 235 Tryz.f235 true qhL qhr
theorem qp6:zb Tryz.prog qa 235 (q9 qhL qhr qa7):=sk qnF qc q8 (alc uA (alc q1b (alc q3v aln))) (alc (lk Tryz.func235 qlM) aln) (b1 Tryz.func235) Tryz.func235
def q93:FIn:=⟨[.str,.str],[]⟩
def q9o:List FOut:=[⟨(.tuple [.str,(.int .i64)]),[],none⟩]
noncomputable def qn7:=qe [(165,q9 kw q00 zY),(166,q9 q5m q5k yZ),(167,q9 q6T q6M kT),(235,q9 qhL qhr qa7)] [(213,Tryz.f213)] [] 0
noncomputable def q2B:=qt qn7 213 Tryz.f213 true q93 q9o
theorem qbq:zb Tryz.prog qa 213 (q9 q93 q9o q2B):=sk qn7 qc q8 (alc ui (alc q7N (alc qcB (alc qp6 aln)))) aln (b1 Tryz.func213) Tryz.func213
def q7M:FIn:=⟨[.str],[]⟩
def q7Q:List FOut:=[⟨.str,[],none⟩]
noncomputable def qdU:=qe [(176,q9 q7e q7n ug)] [(222,Tryz.f222)] [] 0
noncomputable def q1m:=qt qdU 222 Tryz.f222 true q7M q7Q
theorem qhm:zb Tryz.prog qa 222 (q9 q7M q7Q q1m):=sk qdU qc q8 (alc q9b aln) aln (b1 Tryz.func222) Tryz.func222
def qd7:FIn:=⟨[.str,.str],[]⟩
def qd0:List FOut:=[⟨(.tuple [.str,(.int .i64)]),[],none⟩]
noncomputable def qo5:=qe [(165,q9 kw q00 zY),(213,q9 q93 q9o q2B),(222,q9 q7M q7Q q1m)] [(198,Tryz.f198)] [] 0
noncomputable def q6B:=qt qo5 198 Tryz.f198 true qd7 qd0
theorem qhb:zb Tryz.prog qa 198 (q9 qd7 qd0 q6B):=sk qo5 qc q8 (alc ui (alc qbq (alc qhm aln))) aln (b1 Tryz.func198) Tryz.func198
def kY:FIn:=⟨[(.ptr 0 0),(.fn 198 [] []),.str,.str],[.cells [(.int .i64)]]⟩
def kC:List FOut:=[⟨.str,[.cells [(.int .i64)]],none⟩]
noncomputable def q47:=qe [(198,q9 qd7 qd0 q6B)] [(135,Tryz.f135)] [] 1
noncomputable def wP:=qt q47 135 Tryz.f135 true kY kC
theorem q84:zb Tryz.prog qa 135 (q9 kY kC wP):=sk q47 qc q8 (alc qhb aln) aln (b1 Tryz.func135) Tryz.func135
def uX:FIn:=⟨[(.ptr 0 0),.str,.str],[.cells [(.int .i64)]]⟩
def uQ:List FOut:=[⟨.str,[.cells [(.int .i64)]],none⟩]
noncomputable def qdX:=qe [(198,q9 qd7 qd0 q6B),(135,q9 kY kC wP)] [(160,Tryz.f160)] [] 1
noncomputable def zu:=qt qdX 160 Tryz.f160 true uX uQ
theorem q1k:zb Tryz.prog qa 160 (q9 uX uQ zu):=sk qdX qc q8 (alc qhb (alc q84 aln)) aln (b1 Tryz.func160) Tryz.func160
def q8I:FIn:=⟨[(.ptr 0 0),.str,.str,.str,.str],[.cells [(.int .i64)]]⟩
def q8G:List FOut:=[⟨(.tuple [.str,.str]),[.cells [(.int .i64)]],none⟩]
noncomputable def qiI:=qe [(111,q9 jc j9 qg),(160,q9 uX uQ zu)] [(180,Tryz.f180)] [] 1
noncomputable def q3n:=qt qiI 180 Tryz.f180 true q8I q8G
theorem qej:zb Tryz.prog qa 180 (q9 q8I q8G q3n):=sk qiI qc q8 (alc jq (alc q1k aln)) aln (b1 Tryz.func180) Tryz.func180
def q4Q:FIn:=⟨[.str,.str],[]⟩
def q4F:List FOut:=[⟨.bool,[],none⟩]
noncomputable def q9X:=qe [(197,q9 wg we qG)] [(159,Tryz.f159)] [] 0
noncomputable def uF:=qt q9X 159 Tryz.f159 true q4Q q4F
theorem qeo:zb Tryz.prog qa 159 (q9 q4Q q4F uF):=sk q9X qc q8 (alc uz aln) aln (b1 Tryz.func159) Tryz.func159
def qbG:FIn:=⟨[.str,.str],[]⟩
def qbs:List FOut:=[⟨.str,[],none⟩]
noncomputable def qha:=qe [] [(161,Tryz.f161)] [] 0
noncomputable def q1M:=qt qha 161 Tryz.f161 true qbG qbs
theorem qjW:zb Tryz.prog qa 161 (q9 qbG qbs q1M):=sk qha qc q8 aln aln (b1 Tryz.func161) Tryz.func161
def qb7:FIn:=⟨[.str,.str],[]⟩
def qbk:List FOut:=[⟨(.tuple [.str,.str,(.int .i64)]),[],none⟩]
noncomputable def qgD:=qe [(108,q9 q3a q2M zx),(165,q9 kw q00 zY),(166,q9 q5m q5k yZ),(168,q9 kq kt zG),(178,q9 q0z q0u wO),(179,q9 ul uv qM),(223,q9 q0v q0n wy)] [(199,Tryz.f199)] [] 0
noncomputable def q3X:=qt qgD 199 Tryz.f199 true qb7 qbk
theorem qk0:zb Tryz.prog qa 199 (q9 qb7 qbk q3X):=sk qgD qc q8 (alc q12 (alc ui (alc q7N (alc uA (alc q1Y (alc yS (alc q3v aln))))))) aln (b1 Tryz.func199) Tryz.func199
def qd6:FIn:=⟨[.str,.str],[]⟩
def qdh:List FOut:=[⟨(.tuple [.str,(.int .i64)]),[],none⟩]
noncomputable def qnD:=qe [(130,q9 jJ jH qP),(199,q9 qb7 qbk q3X)] [(162,Tryz.f162)] [] 0
noncomputable def q6u:=qt qnD 162 Tryz.f162 true qd6 qdh
theorem qh3:zb Tryz.prog qa 162 (q9 qd6 qdh q6u):=sk qnD qc q8 (alc jd (alc qk0 aln)) aln (b1 Tryz.func162) Tryz.func162
def jG:FIn:=⟨[(.ptr 0 0),(.fn 146 [] []),.str,.str],[.cells [(.int .i64)]]⟩
def kE:List FOut:=[⟨.str,[.cells [(.int .i64)]],none⟩]
noncomputable def q3V:=qe [(146,q9 qa4 q9Y q2j)] [(135,Tryz.f135)] [] 1
noncomputable def wU:=qt q3V 135 Tryz.f135 true jG kE
theorem q8D:zb Tryz.prog qa 135 (q9 jG kE wU):=sk q3V qc q8 (alc qbO aln) aln (b1 Tryz.func135) Tryz.func135
def jI:FIn:=⟨[(.ptr 0 0),(.fn 162 [] []),.str,.str],[.cells [(.int .i64)]]⟩
def kS:List FOut:=[⟨.str,[.cells [(.int .i64)]],none⟩]
noncomputable def q4g:=qe [(162,q9 qd6 qdh q6u)] [(135,Tryz.f135)] [] 1
noncomputable def qZ:=qt q4g 135 Tryz.f135 true jI kS
theorem q8s:zb Tryz.prog qa 135 (q9 jI kS qZ):=sk q4g qc q8 (alc qh3 aln) aln (b1 Tryz.func135) Tryz.func135
def wj:FIn:=⟨[(.ptr 0 0),.str,.str],[.cells [(.int .i64)]]⟩
def wo:List FOut:=[⟨.str,[.cells [(.int .i64)]],none⟩]
noncomputable def q9R:=qe [(146,q9 qa4 q9Y q2j),(159,q9 q4Q q4F uF),(160,q9 uX uQ zu),(161,q9 qbG qbs q1M),(162,q9 qd6 qdh q6u),(135,qEf [(jG,q9 jG kE wU),(jI,q9 jI kS qZ)])] [(131,Tryz.f131)] [] 1
noncomputable def qD:=qt q9R 131 Tryz.f131 true wj wo
theorem wK:zb Tryz.prog qa 131 (q9 wj wo qD):=sk q9R qc q8 (alc qbO (alc qeo (alc q1k (alc qjW (alc qh3 (alc (qAz (q2z Tryz.func135 (by kernel_rfl) (by kernel_rfl)) (qwC q8D (qwC q8s qCn))) aln)))))) aln (b1 Tryz.func131) Tryz.func131
def ud:FIn:=⟨[(.imm [.str])],[]⟩
def u9:List FOut:=[⟨(.int .i64),[],none⟩]
def q7z:Tmpl:={ t:=(qI 6 ((.imm [.str])::(.int .i64)::(.int .i64)::qI 9 [])),h:=[] }
def q7x:List Out:=[⟨(.exit 0),{ t:=(qI 18 []),h:=[] }⟩,⟨.ret,{ t:=(.any::.any::(.int .i64)::qI 15 []),h:=[] }⟩]
noncomputable def q4j:=qe [(114,q9 q3h q3e vZ)] [(133,Tryz.f133)] [] 0
noncomputable def q1z:=jl q4j 133 Tryz.f133 3 q7z q7x
theorem qhB:qo Tryz.prog qa q4j.nimp (qC Tryz.prog q4j.iter 133) (zH Tryz.f133 3) (ql q7z q7x (qh q1z)):=
 gk q4j qc q8 (alc q4v aln) aln (b1 Tryz.func133) Tryz.func133
noncomputable def qgM:=qe [(114,q9 q3h q3e vZ)] [(133,Tryz.f133)] [((133,3),ql q7z q7x (qh q1z))] 0
noncomputable def qX:=qt qgM 133 Tryz.f133 true ud u9
theorem uq:zb Tryz.prog qa 133 (q9 ud u9 qX):=sk qgM qc q8 (alc q4v aln) (alc (lk Tryz.func133 qhB) aln) (b1 Tryz.func133) Tryz.func133
def q0B:FIn:=⟨[.str,.str,(.fn 180 [] [])],[]⟩
def q0M:List FOut:=[⟨(.tuple [.str,(.int .i64)]),[],none⟩]
noncomputable def q50:=qe [(131,q9 wj wo qD),(133,q9 ud u9 qX),(134,q9 q2f q2s qR),(180,q9 q8I q8G q3n)] [(109,Tryz.f109)] [] 0
noncomputable def vH:=qt q50 109 Tryz.f109 true q0B q0M
theorem q9z:zb Tryz.prog qa 109 (q9 q0B q0M vH):=sk q50 qc q8 (alc wK (alc uq (alc q1E (alc qej aln)))) aln (b1 Tryz.func109) Tryz.func109
def qdt:FIn:=⟨[.str,.str],[]⟩
def qcV:List FOut:=[⟨(.tuple [.str,(.int .i64)]),[],none⟩]
noncomputable def qnT:=qe [(180,q9 q8I q8G q3n),(109,q9 q0B q0M vH)] [(148,Tryz.f148)] [] 0
noncomputable def q6e:=qt qnT 148 Tryz.f148 true qdt qcV
theorem qhe:zb Tryz.prog qa 148 (q9 qdt qcV q6e):=sk qnT qc q8 (alc qej (alc q9z aln)) aln (b1 Tryz.func148) Tryz.func148
def kv:FIn:=⟨[(.ptr 0 0),(.fn 148 [] []),.str,.str],[.cells [(.int .i64)]]⟩
def kZ:List FOut:=[⟨.str,[.cells [(.int .i64)]],none⟩]
noncomputable def q44:=qe [(148,q9 qdt qcV q6e)] [(117,Tryz.f117)] [] 1
noncomputable def wW:=qt q44 117 Tryz.f117 true kv kZ
theorem q8v:zb Tryz.prog qa 117 (q9 kv kZ wW):=sk q44 qc q8 (alc qhe aln) aln (b1 Tryz.func117) Tryz.func117
def q1w:FIn:=⟨[(.ptr 0 0),.str,.str],[.cells [(.int .i64)]]⟩
def q1q:List FOut:=[⟨.str,[.cells [(.int .i64)]],none⟩]
noncomputable def qeh:=qe [(148,q9 qdt qcV q6e),(117,q9 kv kZ wW)] [(119,Tryz.f119)] [] 1
noncomputable def zg:=qt qeh 119 Tryz.f119 true q1w q1q
theorem q4J:zb Tryz.prog qa 119 (q9 q1w q1q zg):=sk qeh qc q8 (alc qhe (alc q8v aln)) aln (b1 Tryz.func119) Tryz.func119
def q33:FIn:=⟨[(.ptr 0 0),(.agg [.str,.str]),(.agg [.str,.str])],[.cells [(.int .i64)]]⟩
def q3f:List FOut:=[⟨(.agg [.str,.str]),[.cells [(.int .i64)]],none⟩]
noncomputable def qc6:=qe [(119,q9 q1w q1q zg)] [(115,Tryz.f115)] [] 1
noncomputable def jv:=qt qc6 115 Tryz.f115 true q33 q3f
theorem q7U:zb Tryz.prog qa 115 (q9 q33 q3f jv):=sk qc6 qc q8 (alc q4J aln) aln (b1 Tryz.func115) Tryz.func115
def kW:FIn:=⟨[(.ptr 0 0),(.fn 213 [] []),.str,.str],[.cells [(.int .i64)]]⟩
def kz:List FOut:=[⟨.str,[.cells [(.int .i64)]],none⟩]
noncomputable def q3Z:=qe [(213,q9 q93 q9o q2B)] [(135,Tryz.f135)] [] 1
noncomputable def wQ:=qt q3Z 135 Tryz.f135 true kW kz
theorem q86:zb Tryz.prog qa 135 (q9 kW kz wQ):=sk q3Z qc q8 (alc qbq aln) aln (b1 Tryz.func135) Tryz.func135
def q4y:FIn:=⟨[(.ptr 0 0),.str,.str],[.cells [(.int .i64)]]⟩
def q4l:List FOut:=[⟨.str,[.cells [(.int .i64)]],none⟩]
noncomputable def qed:=qe [(213,q9 q93 q9o q2B),(135,q9 kW kz wQ)] [(182,Tryz.f182)] [] 1
noncomputable def yx:=qt qed 182 Tryz.f182 true q4y q4l
theorem q9x:zb Tryz.prog qa 182 (q9 q4y q4l yx):=sk qed qc q8 (alc qbq (alc q86 aln)) aln (b1 Tryz.func182) Tryz.func182
def q8j:FIn:=⟨[(.ptr 0 0),.str,.str,.str,.str],[.cells [(.int .i64)]]⟩
def q8K:List FOut:=[⟨(.tuple [.str,.str]),[.cells [(.int .i64)]],none⟩]
noncomputable def qjx:=qe [(111,q9 jc j9 qg),(182,q9 q4y q4l yx)] [(181,Tryz.f181)] [] 1
noncomputable def q2I:=qt qjx 181 Tryz.f181 true q8j q8K
theorem qel:zb Tryz.prog qa 181 (q9 q8j q8K q2I):=sk qjx qc q8 (alc jq (alc q9x aln)) aln (b1 Tryz.func181) Tryz.func181
def q0G:FIn:=⟨[.str,.str,(.fn 181 [] [])],[]⟩
def q0d:List FOut:=[⟨(.tuple [.str,(.int .i64)]),[],none⟩]
noncomputable def q54:=qe [(131,q9 wj wo qD),(133,q9 ud u9 qX),(134,q9 q2f q2s qR),(181,q9 q8j q8K q2I)] [(109,Tryz.f109)] [] 0
noncomputable def vl:=qt q54 109 Tryz.f109 true q0G q0d
theorem q9I:zb Tryz.prog qa 109 (q9 q0G q0d vl):=sk q54 qc q8 (alc wK (alc uq (alc q1E (alc qel aln)))) aln (b1 Tryz.func109) Tryz.func109
def qdz:FIn:=⟨[.str,.str],[]⟩
def qdy:List FOut:=[⟨(.tuple [.str,(.int .i64)]),[],none⟩]
noncomputable def qng:=qe [(181,q9 q8j q8K q2I),(109,q9 q0G q0d vl)] [(149,Tryz.f149)] [] 0
noncomputable def q6E:=qt qng 149 Tryz.f149 true qdz qdy
theorem qgR:zb Tryz.prog qa 149 (q9 qdz qdy q6E):=sk qng qc q8 (alc qel (alc q9I aln)) aln (b1 Tryz.func149) Tryz.func149
def kF:FIn:=⟨[(.ptr 0 0),(.fn 149 [] []),.str,.str],[.cells [(.int .i64)]]⟩
def kH:List FOut:=[⟨.str,[.cells [(.int .i64)]],none⟩]
noncomputable def q4a:=qe [(149,q9 qdz qdy q6E)] [(117,Tryz.f117)] [] 1
noncomputable def wT:=qt q4a 117 Tryz.f117 true kF kH
theorem q8l:zb Tryz.prog qa 117 (q9 kF kH wT):=sk q4a qc q8 (alc qgR aln) aln (b1 Tryz.func117) Tryz.func117
def q1B:FIn:=⟨[(.ptr 0 0),.str,.str],[.cells [(.int .i64)]]⟩
def q1r:List FOut:=[⟨.str,[.cells [(.int .i64)]],none⟩]
noncomputable def qdO:=qe [(149,q9 qdz qdy q6E),(117,q9 kF kH wT)] [(120,Tryz.f120)] [] 1
noncomputable def zQ:=qt qdO 120 Tryz.f120 true q1B q1r
theorem q4H:zb Tryz.prog qa 120 (q9 q1B q1r zQ):=sk qdO qc q8 (alc qgR (alc q8l aln)) aln (b1 Tryz.func120) Tryz.func120
def q8P:FIn:=⟨[(.ptr 0 0),.str,.str,.str,.str],[.cells [(.int .i64)]]⟩
def q8B:List FOut:=[⟨(.tuple [.str,.str]),[.cells [(.int .i64)]],none⟩]
noncomputable def qjq:=qe [(111,q9 jc j9 qg)] [(110,Tryz.f110)] [] 1
noncomputable def q2T:=qt qjq 110 Tryz.f110 true q8P q8B
theorem qe4:zb Tryz.prog qa 110 (q9 q8P q8B q2T):=sk qjq qc q8 (alc jq aln) aln (b1 Tryz.func110) Tryz.func110
def q0C:FIn:=⟨[.str,.str,(.fn 110 [] [])],[]⟩
def q0j:List FOut:=[⟨(.tuple [.str,(.int .i64)]),[],none⟩]
noncomputable def q4S:=qe [(110,q9 q8P q8B q2T),(131,q9 wj wo qD),(133,q9 ud u9 qX),(134,q9 q2f q2s qR)] [(109,Tryz.f109)] [] 0
noncomputable def vG:=qt q4S 109 Tryz.f109 true q0C q0j
theorem q9C:zb Tryz.prog qa 109 (q9 q0C q0j vG):=sk q4S qc q8 (alc qe4 (alc wK (alc uq (alc q1E aln)))) aln (b1 Tryz.func109) Tryz.func109
def q6g:FIn:=⟨[.str,.str],[]⟩
def q6l:List FOut:=[⟨(.tuple [.str,(.int .i64)]),[],none⟩]
noncomputable def qmD:=qe [(110,q9 q8P q8B q2T),(109,q9 q0C q0j vG)] [(84,Tryz.f84)] [] 0
noncomputable def q14:=qt qmD 84 Tryz.f84 true q6g q6l
theorem q6P:zb Tryz.prog qa 84 (q9 q6g q6l q14):=sk qmD qc q8 (alc qe4 (alc q9C aln)) aln (b1 Tryz.func84) Tryz.func84
def kM:FIn:=⟨[(.ptr 0 0),(.fn 84 [] []),.str,.str],[.cells [(.int .i64)]]⟩
def kI:List FOut:=[⟨.str,[.cells [(.int .i64)]],none⟩]
noncomputable def q41:=qe [(84,q9 q6g q6l q14)] [(117,Tryz.f117)] [] 1
noncomputable def wY:=qt q41 117 Tryz.f117 true kM kI
theorem q81:zb Tryz.prog qa 117 (q9 kM kI wY):=sk q41 qc q8 (alc q6P aln) aln (b1 Tryz.func117) Tryz.func117
def q1v:FIn:=⟨[(.ptr 0 0),.str,.str],[.cells [(.int .i64)]]⟩
def q1x:List FOut:=[⟨.str,[.cells [(.int .i64)]],none⟩]
noncomputable def qe2:=qe [(84,q9 q6g q6l q14),(117,q9 kM kI wY)] [(121,Tryz.f121)] [] 1
noncomputable def z6:=qt qe2 121 Tryz.f121 true q1v q1x
theorem q4L:zb Tryz.prog qa 121 (q9 q1v q1x z6):=sk qe2 qc q8 (alc q6P (alc q81 aln)) aln (b1 Tryz.func121) Tryz.func121
def q4C:FIn:=⟨[(.ptr 0 0),(.agg [.str,.str]),(.agg [.str,.str])],[.cells [(.int .i64)]]⟩
def q4B:List FOut:=[⟨.str,[.cells [(.int .i64)]],none⟩]
noncomputable def qe7:=qe [(120,q9 q1B q1r zQ),(121,q9 q1v q1x z6)] [(116,Tryz.f116)] [] 1
noncomputable def v7:=qt qe7 116 Tryz.f116 true q4C q4B
theorem q96:zb Tryz.prog qa 116 (q9 q4C q4B v7):=sk qe7 qc q8 (alc q4H (alc q4L aln)) aln (b1 Tryz.func116) Tryz.func116
def q83:FIn:=⟨[(.ptr 0 0),.str,.str,.str,.str],[.cells [(.int .i64)]]⟩
def q88:List FOut:=[⟨(.tuple [.str,.str]),[.cells [(.int .i64)]],none⟩]
noncomputable def qik:=qe [(111,q9 jc j9 qg)] [(147,Tryz.f147)] [] 1
noncomputable def q32:=qt qik 147 Tryz.f147 true q83 q88
theorem qe9:zb Tryz.prog qa 147 (q9 q83 q88 q32):=sk qik qc q8 (alc jq aln) aln (b1 Tryz.func147) Tryz.func147
def q0F:FIn:=⟨[.str,.str,(.fn 147 [] [])],[]⟩
def q0e:List FOut:=[⟨(.tuple [.str,(.int .i64)]),[],none⟩]
noncomputable def q4V:=qe [(131,q9 wj wo qD),(133,q9 ud u9 qX),(134,q9 q2f q2s qR),(147,q9 q83 q88 q32)] [(109,Tryz.f109)] [] 0
noncomputable def vu:=qt q4V 109 Tryz.f109 true q0F q0e
theorem q9T:zb Tryz.prog qa 109 (q9 q0F q0e vu):=sk q4V qc q8 (alc wK (alc uq (alc q1E (alc qe9 aln)))) aln (b1 Tryz.func109) Tryz.func109
def qdq:FIn:=⟨[.str,.str],[]⟩
def qdg:List FOut:=[⟨(.tuple [.str,(.int .i64)]),[],none⟩]
noncomputable def qoh:=qe [(133,q9 ud u9 qX),(147,q9 q83 q88 q32),(109,q9 q0F q0e vu)] [(118,Tryz.f118)] [] 0
noncomputable def q6F:=qt qoh 118 Tryz.f118 true qdq qdg
theorem qhc:zb Tryz.prog qa 118 (q9 qdq qdg q6F):=sk qoh qc q8 (alc uq (alc qe9 (alc q9T aln))) aln (b1 Tryz.func118) Tryz.func118
def kD:FIn:=⟨[(.ptr 0 0),(.fn 118 [] []),.str,.str],[.cells [(.int .i64)]]⟩
def kU:List FOut:=[⟨.str,[.cells [(.int .i64)]],none⟩]
noncomputable def q3S:=qe [(118,q9 qdq qdg q6F)] [(117,Tryz.f117)] [] 1
noncomputable def zS:=qt q3S 117 Tryz.f117 true kD kU
theorem q8S:zb Tryz.prog qa 117 (q9 kD kU zS):=sk q3S qc q8 (alc qhc aln) aln (b1 Tryz.func117) Tryz.func117
def q29:FIn:=⟨[(.ptr 0 0),(.imm [.str,.str,.str]),(.agg [(.int .i64),(.int .i64),(.int .i64)])],[.cells [(.int .i64)]]⟩
def q24:List FOut:=[⟨(.tuple [(.agg [.str,.str,.str,.str,.str]),.bool]),[.cells [(.int .i64)]],none⟩]
noncomputable def qaP:=qe [(115,q9 q33 q3f jv),(116,q9 q4C q4B v7),(118,q9 qdq qdg q6F),(119,q9 q1w q1q zg),(120,q9 q1B q1r zQ),(121,q9 q1v q1x z6),(117,q9 kD kU zS)] [(89,Tryz.f89)] [] 1
noncomputable def vT:=qt qaP 89 Tryz.f89 true q29 q24
theorem q7m:zb Tryz.prog qa 89 (q9 q29 q24 vT):=sk qaP qc q8 (alc q7U (alc q96 (alc qhc (alc q4J (alc q4H (alc q4L (alc q8S aln))))))) aln (b1 Tryz.func89) Tryz.func89
def qeA:FIn:=⟨[.str],[]⟩
def qf3:List FOut:=[⟨(.tuple [(.int .i64),(.int .i64)]),[],none⟩]
noncomputable def qlC:=qe [(130,q9 jJ jH qP),(176,q9 q7e q7n ug)] [(236,Tryz.f236)] [] 0
noncomputable def q7p:=qt qlC 236 Tryz.f236 true qeA qf3
theorem qmW:zb Tryz.prog qa 236 (q9 qeA qf3 q7p):=sk qlC qc q8 (alc jd (alc q9b aln)) aln (b1 Tryz.func236) Tryz.func236
def q2G:FIn:=⟨[(.ptr 0 0),.str],[.cells [(.int .i64)]]⟩
def q3g:List FOut:=[⟨(.int .i64),[.cells [(.int .i64)]],none⟩]
noncomputable def qcp:=qe [(236,q9 qeA qf3 q7p)] [(215,Tryz.f215)] [] 1
noncomputable def zy:=qt qcp 215 Tryz.f215 true q2G q3g
theorem q7R:zb Tryz.prog qa 215 (q9 q2G q3g zy):=sk qcp qc q8 (alc qmW aln) aln (b1 Tryz.func215) Tryz.func215
def q6v:FIn:=⟨[(.ptr 0 0),.str,.str,.str],[.cells [(.int .i64)]]⟩
def q6o:List FOut:=[⟨(.int .i64),[.cells [(.int .i64)]],none⟩]
noncomputable def qcg:=qe [(111,q9 jc j9 qg),(160,q9 uX uQ zu),(215,q9 q2G q3g zy)] [(214,Tryz.f214)] [] 1
noncomputable def ut:=qt qcg 214 Tryz.f214 true q6v q6o
theorem qgx:zb Tryz.prog qa 214 (q9 q6v q6o ut):=sk qcg qc q8 (alc jq (alc q1k (alc q7R aln))) aln (b1 Tryz.func214) Tryz.func214
def q6H:FIn:=⟨[.str,.str,.str,.str,.str],[]⟩
def q6s:List FOut:=[⟨(.tuple [(.int .i64),(.int .i64)]),[],none⟩]
noncomputable def qcr:=qe [(111,q9 jc j9 qg),(133,q9 ud u9 qX),(134,q9 q2f q2s qR),(160,q9 uX uQ zu),(182,q9 q4y q4l yx),(214,q9 q6v q6o ut),(215,q9 q2G q3g zy)] [(183,Tryz.f183)] [] 0
noncomputable def q0P:=qt qcr 183 Tryz.f183 true q6H q6s
theorem qgq:zb Tryz.prog qa 183 (q9 q6H q6s q0P):=sk qcr qc q8 (alc jq (alc uq (alc q1E (alc q1k (alc q9x (alc qgx (alc q7R aln))))))) aln (b1 Tryz.func183) Tryz.func183
def q7J:FIn:=⟨[.str,.str,.str],[]⟩
def q7w:List FOut:=[⟨(.tuple [(.int .i64),(.int .i64)]),[],none⟩]
noncomputable def qdQ:=qe [(183,q9 q6H q6s q0P)] [(150,Tryz.f150)] [] 0
noncomputable def q1l:=qt qdQ 150 Tryz.f150 true q7J q7w
theorem qi0:zb Tryz.prog qa 150 (q9 q7J q7w q1l):=sk qdQ qc q8 (alc qgq aln) aln (b1 Tryz.func150) Tryz.func150
def q6r:FIn:=⟨[(.ptr 0 0),.str,.str,.str],[.cells [(.int .i64)]]⟩
def q6y:List FOut:=[⟨(.int .i64),[.cells [(.int .i64)]],none⟩]
noncomputable def qc5:=qe [(150,q9 q7J q7w q1l)] [(122,Tryz.f122)] [] 1
noncomputable def q0l:=qt qc5 122 Tryz.f122 true q6r q6y
theorem qgs:zb Tryz.prog qa 122 (q9 q6r q6y q0l):=sk qc5 qc q8 (alc qi0 aln) aln (b1 Tryz.func122) Tryz.func122
def q26:FIn:=⟨[(.ptr 0 0),(.agg [.str,.str,.str]),(.agg [.str,.str,.str,.str,.str])],[.cells [(.int .i64)]]⟩
def q21:List FOut:=[⟨.bool,[.cells [(.int .i64)]],none⟩]
noncomputable def qaz:=qe [(115,q9 q33 q3f jv),(116,q9 q4C q4B v7),(119,q9 q1w q1q zg),(120,q9 q1B q1r zQ),(121,q9 q1v q1x z6),(122,q9 q6r q6y q0l)] [(91,Tryz.f91)] [] 1
noncomputable def yk:=qt qaz 91 Tryz.f91 true q26 q21
theorem q74:zb Tryz.prog qa 91 (q9 q26 q21 yk):=sk qaz qc q8 (alc q7U (alc q96 (alc q4J (alc q4H (alc q4L (alc qgs aln)))))) aln (b1 Tryz.func91) Tryz.func91
def wn:FIn:=⟨[(.ptr 0 0),(.imm [.str,.str,.str]),(.agg [(.int .i64),(.int .i64),(.int .i64)])],[.cells [(.int .i64)]]⟩
def wi:List FOut:=[⟨.bool,[.cells [(.int .i64)]],none⟩]
def kO:Tmpl:={ t:=((.imm [.str,.str,.str])::(.fn 93 [] [(.ptr 4 0)])::qI 5 ((.int .i64)::(.int .i64)::qI 10 [])),h:=[.cells [(.int .i64)],.cells [(.ptr 0 0)],.cells [(.int .i64),(.int .i64),(.int .i64)],.cells [.str,.str,.str,.str,.str],.cells [(.fn 90 [] [(.ptr 1 0),(.ptr 3 0)])]],fs:=[[(.imm [.str,.str,.str]),(.fn 93 [] [(.ptr 4 0)]),.any,.any,(.blit false),(.imm [.str,.str,.str]),(.fn 93 [] [(.ptr 4 0)]),.any,.any],[(.ptr 0 0),(.imm [.str,.str,.str]),(.agg [(.int .i64),(.int .i64),(.int .i64)]),(.ptr 1 0),.any,(.ptr 2 0),(.blit false),(.ptr 3 0),.bool,(.ptr 4 0),(.tuple [(.agg [.str,.str,.str,.str,.str]),.bool]),(.ptr 0 0),(.imm [.str,.str,.str]),(.agg [(.int .i64),(.int .i64),(.int .i64)]),(.tuple [(.agg [.str,.str,.str,.str,.str]),.bool]),(.agg [.str,.str,.str,.str,.str]),.bool,(.fn 90 [] [(.ptr 1 0),(.ptr 3 0)]),.bool,(.blit true),(.imm [.str,.str,.str]),(.fn 93 [] [(.ptr 4 0)]),.any,.any,.any,.any,.any,.any,.any,.any,.any,.any],[]] }
def kL:List Out:=[⟨(.exit 0),{ t:=(qI 19 []),h:=[.cells [(.int .i64)],.cells [(.ptr 0 0)],.cells [(.int .i64),(.int .i64),(.int .i64)],.cells [.str,.str,.str,.str,.str],.cells [(.fn 90 [] [(.ptr 1 0),(.ptr 3 0)])]],fs:=[[(.imm [.str,.str,.str]),(.fn 93 [] [(.ptr 4 0)]),.any,.any,(.blit false),(.imm [.str,.str,.str]),(.fn 93 [] [(.ptr 4 0)]),.any,.any],[(.ptr 0 0),(.imm [.str,.str,.str]),(.agg [(.int .i64),(.int .i64),(.int .i64)]),(.ptr 1 0),.any,(.ptr 2 0),(.blit false),(.ptr 3 0),.bool,(.ptr 4 0),(.tuple [(.agg [.str,.str,.str,.str,.str]),.bool]),(.ptr 0 0),(.imm [.str,.str,.str]),(.agg [(.int .i64),(.int .i64),(.int .i64)]),(.tuple [(.agg [.str,.str,.str,.str,.str]),.bool]),(.agg [.str,.str,.str,.str,.str]),.bool,(.fn 90 [] [(.ptr 1 0),(.ptr 3 0)]),.bool,(.blit true),(.imm [.str,.str,.str]),(.fn 93 [] [(.ptr 4 0)]),.any,.any,.any,.any,.any,.any,.any,.any,.any,.any],[]] }⟩,⟨.ret,{ t:=(qI 4 ((.int .i64)::qI 14 [])),h:=[.cells [(.int .i64)],.cells [(.ptr 0 0)],.cells [(.int .i64),(.int .i64),(.int .i64)],.cells [.str,.str,.str,.str,.str],.cells [(.fn 90 [] [(.ptr 1 0),(.ptr 3 0)])]],fs:=[[(.imm [.str,.str,.str]),(.fn 93 [] [(.ptr 4 0)]),.any,.any,(.blit false),(.imm [.str,.str,.str]),(.fn 93 [] [(.ptr 4 0)]),.any,.any],[(.ptr 0 0),(.imm [.str,.str,.str]),(.agg [(.int .i64),(.int .i64),(.int .i64)]),(.ptr 1 0),.any,(.ptr 2 0),(.blit false),(.ptr 3 0),.bool,(.ptr 4 0),(.tuple [(.agg [.str,.str,.str,.str,.str]),.bool]),(.ptr 0 0),(.imm [.str,.str,.str]),(.agg [(.int .i64),(.int .i64),(.int .i64)]),(.tuple [(.agg [.str,.str,.str,.str,.str]),.bool]),(.agg [.str,.str,.str,.str,.str]),.bool,(.fn 90 [] [(.ptr 1 0),(.ptr 3 0)]),.bool,(.blit true),(.imm [.str,.str,.str]),(.fn 93 [] [(.ptr 4 0)]),.any,.any,.any,.any,.any,.any,.any,.any,.any,.any],[]] }⟩]
noncomputable def jy:=qe [(89,q9 q29 q24 vT),(91,q9 q26 q21 yk)] [(61,Tryz.f61),(90,Tryz.f90),(92,Tryz.f92),(93,Tryz.f93),(123,Tryz.f123)] [] 1
noncomputable def wX:=jl jy 123 Tryz.f123 3 kO kL
theorem q8C:qo Tryz.prog qa jy.nimp (qC Tryz.prog jy.iter 123) (zH Tryz.f123 3) (ql kO kL (qh wX)):=
 gk jy qc q8 (alc q7m (alc q74 aln)) aln (alc (bk Tryz.func61) (alc (bk Tryz.func90) (alc (bk Tryz.func92) (alc (bk Tryz.func93) (alc (bk Tryz.func123) aln))))) Tryz.func123
noncomputable def q9J:=qe [(89,q9 q29 q24 vT),(91,q9 q26 q21 yk)] [(61,Tryz.f61),(90,Tryz.f90),(92,Tryz.f92),(93,Tryz.f93),(123,Tryz.f123)] [((123,3),ql kO kL (qh wX))] 1
noncomputable def qQ:=qt q9J 61 Tryz.f61 true wn wi
theorem wM:zb Tryz.prog qa 61 (q9 wn wi qQ):=sk q9J qc q8 (alc q7m (alc q74 aln)) (alc (lk Tryz.func123 q8C) aln) (alc (bk Tryz.func61) (alc (bk Tryz.func90) (alc (bk Tryz.func92) (alc (bk Tryz.func93) (alc (bk Tryz.func123) aln))))) Tryz.func61
def zl:FIn:=⟨[(.ptr 0 0),(.imm [.str,.str,.str])],[.cells [(.int .i64)]]⟩
def zj:List FOut:=[⟨(.tuple [(.agg [(.int .i64),(.int .i64),(.int .i64)]),.bool]),[.cells [(.int .i64)]],none⟩]
def q0h:Tmpl:={ t:=(.yld::(.ptr 5 0)::qI 6 ((.int .i64)::(.int .i64)::qI 35 [])),h:=[.cells [(.int .i64)],.cells [(.ptr 0 0)],.cells [(.imm [.str,.str,.str])],.cells [(.int .i64),(.int .i64),(.int .i64)],.cells [.bool],.cells [(.int .i64)]],fs:=[[.any,.any,(.ptr 1 0),(.ptr 2 0),(.ptr 3 0),(.ptr 4 0),.any,.any,.any,(.fn 129 [] [(.ptr 5 0)]),.any,.any,.any,.any,.any,.any,.any],[]] }
def q0T:List Out:=[⟨(.exit 0),{ t:=(.yld::(.ptr 5 0)::qI 43 []),h:=[.cells [(.int .i64)],.cells [(.ptr 0 0)],.cells [(.imm [.str,.str,.str])],.cells [(.int .i64),(.int .i64),(.int .i64)],.cells [.bool],.cells [(.int .i64)]],fs:=[[.any,.any,(.ptr 1 0),(.ptr 2 0),(.ptr 3 0),(.ptr 4 0),.any,.any,.any,(.fn 129 [] [(.ptr 5 0)]),.any,.any,.any,.any,.any,.any,.any],[]] }⟩,⟨.ret,{ t:=(qI 45 []),h:=[.cells [(.int .i64)],.cells [(.ptr 0 0)],.cells [(.imm [.str,.str,.str])],.cells [(.int .i64),(.int .i64),(.int .i64)],.cells [.bool],.cells [(.int .i64)]],fs:=[[.any,.any,(.ptr 1 0),(.ptr 2 0),(.ptr 3 0),(.ptr 4 0),.any,.any,.any,(.fn 129 [] [(.ptr 5 0)]),.any,.any,.any,.any,.any,.any,.any],[]],pend:=(.some .ret) }⟩]
noncomputable def ye:Env:={ tt:=q7L,glob:=qa,spec:=[(61,q9 wn wi qQ)],body:=[(82,Tryz.f82),(106,Tryz.f106),(129,Tryz.f129)],loops:=[],nimp:=1,iter:=[(129,82,3)] }
noncomputable def vq:=qsK ye (some (82,Tryz.f82,3)) 129 Tryz.f129 2 q0h q0T
theorem qab:qo Tryz.prog qa ye.nimp (qC Tryz.prog ye.iter 129) (zH Tryz.f129 2) (ql q0h q0T (qh vq)):=
 q7r (E:=ye) qc ⟨q53 q8,(alc wM aln),aln,(alc (bk Tryz.func82) (alc (bk Tryz.func106) (alc (bk Tryz.func129) aln)))⟩ Tryz.func129 (by kernel_rfl) (y:=some (82,Tryz.f82,3)) ⟨Tryz.func82,by kernel_rfl⟩ (by kernel_rfl) (by kernel_rfl) (fun _=>rfl)
def ku:Tmpl:={ t:=(.yld::(.ptr 5 0)::.any::.any::(.int .i64)::(.int .i64)::qI 13 ((.int .i64)::(.int .i64)::qI 9 ((.vec 6)::(.int .i64)::(.int .i64)::qI 12 []))),h:=[.cells [(.int .i64)],.cells [(.ptr 0 0)],.cells [(.imm [.str,.str,.str])],.cells [(.int .i64),(.int .i64),(.int .i64)],.cells [.bool],.cells [(.int .i64)],.vec 3 [(.int .i64)]],fs:=[[.any,.any,(.ptr 1 0),(.ptr 2 0),(.ptr 3 0),(.ptr 4 0),.any,.any,.any,(.fn 129 [] [(.ptr 5 0)]),.any,.any,.any,.any,.any,.any,.any],[]] }
def kJ:List Out:=[⟨(.exit 6),{ t:=(.yld::(.ptr 5 0)::.any::.any::(.int .i64)::(.int .i64)::qI 13 ((.int .i64)::(.int .i64)::qI 24 [])),h:=[.cells [(.int .i64)],.cells [(.ptr 0 0)],.cells [(.imm [.str,.str,.str])],.cells [(.int .i64),(.int .i64),(.int .i64)],.cells [.bool],.cells [(.int .i64)]],fs:=[[.any,.any,(.ptr 1 0),(.ptr 2 0),(.ptr 3 0),(.ptr 4 0),.any,.any,.any,(.fn 129 [] [(.ptr 5 0)]),.any,.any,.any,.any,.any,.any,.any],[]] }⟩,⟨.ret,{ t:=(qI 45 []),h:=[.cells [(.int .i64)],.cells [(.ptr 0 0)],.cells [(.imm [.str,.str,.str])],.cells [(.int .i64),(.int .i64),(.int .i64)],.cells [.bool],.cells [(.int .i64)]],fs:=[[.any,.any,(.ptr 1 0),(.ptr 2 0),(.ptr 3 0),(.ptr 4 0),.any,.any,.any,(.fn 129 [] [(.ptr 5 0)]),.any,.any,.any,.any,.any,.any,.any],[]],pend:=(.some .ret) }⟩]
noncomputable def jD:Env:={ tt:=q7L,glob:=qa,spec:=[(61,q9 wn wi qQ)],body:=[(82,Tryz.f82),(106,Tryz.f106),(129,Tryz.f129)],loops:=[],nimp:=1,iter:=[(129,82,3)] }
noncomputable def wN:=qsK jD (some (82,Tryz.f82,3)) 129 Tryz.f129 20 ku kJ
theorem q8A:qo Tryz.prog qa jD.nimp (qC Tryz.prog jD.iter 129) (zH Tryz.f129 20) (ql ku kJ (qh wN)):=
 q7r (E:=jD) qc ⟨q53 q8,(alc wM aln),aln,(alc (bk Tryz.func82) (alc (bk Tryz.func106) (alc (bk Tryz.func129) aln)))⟩ Tryz.func129 (by kernel_rfl) (y:=some (82,Tryz.f82,3)) ⟨Tryz.func82,by kernel_rfl⟩ (by kernel_rfl) (by kernel_rfl) (fun _=>rfl)
def kN:Tmpl:={ t:=(.yld::(.ptr 5 0)::.any::.any::(.int .i64)::(.int .i64)::qI 13 ((.int .i64)::(.int .i64)::qI 24 [])),h:=[.cells [(.int .i64)],.cells [(.ptr 0 0)],.cells [(.imm [.str,.str,.str])],.cells [(.int .i64),(.int .i64),(.int .i64)],.cells [.bool],.cells [(.int .i64)]],fs:=[[.any,.any,(.ptr 1 0),(.ptr 2 0),(.ptr 3 0),(.ptr 4 0),.any,.any,.any,(.fn 129 [] [(.ptr 5 0)]),.any,.any,.any,.any,.any,.any,.any],[]] }
def kG:List Out:=[⟨(.exit 4),{ t:=(.yld::(.ptr 5 0)::qI 17 ((.int .i64)::(.int .i64)::qI 24 [])),h:=[.cells [(.int .i64)],.cells [(.ptr 0 0)],.cells [(.imm [.str,.str,.str])],.cells [(.int .i64),(.int .i64),(.int .i64)],.cells [.bool],.cells [(.int .i64)]],fs:=[[.any,.any,(.ptr 1 0),(.ptr 2 0),(.ptr 3 0),(.ptr 4 0),.any,.any,.any,(.fn 129 [] [(.ptr 5 0)]),.any,.any,.any,.any,.any,.any,.any],[]] }⟩,⟨.ret,{ t:=(qI 45 []),h:=[.cells [(.int .i64)],.cells [(.ptr 0 0)],.cells [(.imm [.str,.str,.str])],.cells [(.int .i64),(.int .i64),(.int .i64)],.cells [.bool],.cells [(.int .i64)]],fs:=[[.any,.any,(.ptr 1 0),(.ptr 2 0),(.ptr 3 0),(.ptr 4 0),.any,.any,.any,(.fn 129 [] [(.ptr 5 0)]),.any,.any,.any,.any,.any,.any,.any],[]],pend:=(.some .ret) }⟩]
noncomputable def jL:Env:={ tt:=q7L,glob:=qa,spec:=[(61,q9 wn wi qQ)],body:=[(82,Tryz.f82),(106,Tryz.f106),(129,Tryz.f129)],loops:=[((129,20),ql ku kJ (qh wN))],nimp:=1,iter:=[(129,82,3)] }
noncomputable def wS:=qsK jL (some (82,Tryz.f82,3)) 129 Tryz.f129 15 kN kG
theorem q8O:qo Tryz.prog qa jL.nimp (qC Tryz.prog jL.iter 129) (zH Tryz.f129 15) (ql kN kG (qh wS)):=
 q7r (E:=jL) qc ⟨q53 q8,(alc wM aln),(alc (lk Tryz.func129 q8A) aln),(alc (bk Tryz.func82) (alc (bk Tryz.func106) (alc (bk Tryz.func129) aln)))⟩ Tryz.func129 (by kernel_rfl) (y:=some (82,Tryz.f82,3)) ⟨Tryz.func82,by kernel_rfl⟩ (by kernel_rfl) (by kernel_rfl) (fun _=>rfl)
def q0y:Tmpl:={ t:=(.yld::(.ptr 5 0)::qI 17 ((.int .i64)::(.int .i64)::qI 24 [])),h:=[.cells [(.int .i64)],.cells [(.ptr 0 0)],.cells [(.imm [.str,.str,.str])],.cells [(.int .i64),(.int .i64),(.int .i64)],.cells [.bool],.cells [(.int .i64)]],fs:=[[.any,.any,(.ptr 1 0),(.ptr 2 0),(.ptr 3 0),(.ptr 4 0),.any,.any,.any,(.fn 129 [] [(.ptr 5 0)]),.any,.any,.any,.any,.any,.any,.any],[]] }
def q0t:List Out:=[⟨(.exit 2),{ t:=(qI 45 []),h:=[.cells [(.int .i64)],.cells [(.ptr 0 0)],.cells [(.imm [.str,.str,.str])],.cells [(.int .i64),(.int .i64),(.int .i64)],.cells [.bool],.cells [(.int .i64)]],fs:=[[.any,.any,(.ptr 1 0),(.ptr 2 0),(.ptr 3 0),(.ptr 4 0),.any,.any,.any,(.fn 129 [] [(.ptr 5 0)]),.any,.any,.any,.any,.any,.any,.any],[]] }⟩,⟨.ret,{ t:=(qI 45 []),h:=[.cells [(.int .i64)],.cells [(.ptr 0 0)],.cells [(.imm [.str,.str,.str])],.cells [(.int .i64),(.int .i64),(.int .i64)],.cells [.bool],.cells [(.int .i64)]],fs:=[[.any,.any,(.ptr 1 0),(.ptr 2 0),(.ptr 3 0),(.ptr 4 0),.any,.any,.any,(.fn 129 [] [(.ptr 5 0)]),.any,.any,.any,.any,.any,.any,.any],[]],pend:=(.some .ret) }⟩]
noncomputable def yi:Env:={ tt:=q7L,glob:=qa,spec:=[(61,q9 wn wi qQ)],body:=[(82,Tryz.f82),(106,Tryz.f106),(129,Tryz.f129)],loops:=[((129,15),ql kN kG (qh wS))],nimp:=1,iter:=[(129,82,3)] }
noncomputable def vJ:=qsK yi (some (82,Tryz.f82,3)) 129 Tryz.f129 9 q0y q0t
theorem q9N:qo Tryz.prog qa yi.nimp (qC Tryz.prog yi.iter 129) (zH Tryz.f129 9) (ql q0y q0t (qh vJ)):=
 q7r (E:=yi) qc ⟨q53 q8,(alc wM aln),(alc (lk Tryz.func129 q8O) aln),(alc (bk Tryz.func82) (alc (bk Tryz.func106) (alc (bk Tryz.func129) aln)))⟩ Tryz.func129 (by kernel_rfl) (y:=some (82,Tryz.f82,3)) ⟨Tryz.func82,by kernel_rfl⟩ (by kernel_rfl) (by kernel_rfl) (fun _=>rfl)
noncomputable def qaV:Env:={ tt:=q7L,glob:=qa,spec:=[(61,q9 wn wi qQ)],body:=[(82,Tryz.f82),(106,Tryz.f106),(129,Tryz.f129)],loops:=[((129,2),ql q0h q0T (qh vq)),((129,9),ql q0y q0t (qh vJ))],nimp:=1,iter:=[(129,82,3)] }
noncomputable def qE:=qt qaV 82 Tryz.f82 true zl zj
theorem zi:zb Tryz.prog qa 82 (q9 zl zj qE):=sk qaV qc q8 (alc wM aln) (alc (lk Tryz.func129 qab) (alc (lk Tryz.func129 q9N) aln)) (alc (bk Tryz.func82) (alc (bk Tryz.func106) (alc (bk Tryz.func129) aln))) Tryz.func82
def qb8:FIn:=⟨[(.imm [.str,.str,.str])],[]⟩
def qbQ:List FOut:=[⟨(.tuple [.bool,(.agg [(.int .i64),(.int .i64),(.int .i64)]),(.int .i64)]),[],none⟩]
noncomputable def qgU:=qe [(60,q9 j8 jf zI),(82,q9 zl zj qE)] [(53,Tryz.f53)] [] 0
noncomputable def q3T:=qt qgU 53 Tryz.f53 true qb8 qbQ
theorem qku:zb Tryz.prog qa 53 (q9 qb8 qbQ q3T):=sk qgU qc q8 (alc wV (alc zi aln)) aln (b1 Tryz.func53) Tryz.func53
def qeN:FIn:=⟨[.str,.str],[]⟩
def qf9:List FOut:=[⟨(.tuple [.str,(.int .i64)]),[],none⟩]
def qby:Tmpl:={ t:=(.str::.str::qI 11 ((.vec 0)::(.int .i64)::(.int .i64)::qI 27 [])),h:=[.vec 148 [.str]] }
def qbN:List Out:=[⟨(.exit 0),{ t:=(.str::.str::qI 41 []),h:=[] }⟩,⟨.ret,{ t:=(qI 4 (.str::(.int .i64)::qI 37 [])),h:=[] }⟩]
noncomputable def q6U:=qe [(130,q9 jJ jH qP),(131,q9 wj wo qD)] [(107,Tryz.f107)] [] 0
noncomputable def q1J:=jl q6U 107 Tryz.f107 3 qby qbN
theorem qk3:qo Tryz.prog qa q6U.nimp (qC Tryz.prog q6U.iter 107) (zH Tryz.f107 3) (ql qby qbN (qh q1J)):=
 gk q6U qc q8 (alc jd (alc wK aln)) aln (b1 Tryz.func107) Tryz.func107
noncomputable def qll:=qe [(130,q9 jJ jH qP),(131,q9 wj wo qD)] [(107,Tryz.f107)] [((107,3),ql qby qbN (qh q1J))] 0
noncomputable def q7q:=qt qll 107 Tryz.f107 true qeN qf9
theorem qnJ:zb Tryz.prog qa 107 (q9 qeN qf9 q7q):=sk qll qc q8 (alc jd (alc wK aln)) (alc (lk Tryz.func107 qk3) aln) (b1 Tryz.func107) Tryz.func107
def qg8:FIn:=⟨[(.int .i64),(.int .i64)],[]⟩
def qgc:List FOut:=[⟨(.tuple [.str,(.int .i64)]),[],none⟩]
noncomputable def qpQ:=qe [(107,q9 qeN qf9 q7q),(108,q9 q3a q2M zx)] [(83,Tryz.f83)] [] 0
noncomputable def q8Y:=qt qpQ 83 Tryz.f83 true qg8 qgc
theorem qjP:zb Tryz.prog qa 83 (q9 qg8 qgc q8Y):=sk qpQ qc q8 (alc qnJ (alc q12 aln)) aln (b1 Tryz.func83) Tryz.func83
def q8N:FIn:=⟨[(.int .i64)],[]⟩
def q8r:List FOut:=[⟨.str,[],none⟩]
noncomputable def qja:=qe [(108,q9 q3a q2M zx)] [(85,Tryz.f85)] [] 0
noncomputable def q15:=qt qja 85 Tryz.f85 true q8N q8r
theorem qe8:zb Tryz.prog qa 85 (q9 q8N q8r q15):=sk qja qc q8 (alc q12 aln) aln (b1 Tryz.func85) Tryz.func85
def q4E:FIn:=⟨[(.agg [(.imm [(.int .i64),(.int .i64),(.int .i64),(.int .i64),(.int .i64),(.int .i64),.bool]),(.imm [(.int .i64),(.int .i64),(.int .i64),(.int .i64),(.int .i64),(.int .i64),.bool])]),(.agg [(.imm [(.int .i64),(.int .i64),(.int .i64)]),(.imm [(.int .i64),(.int .i64),(.int .i64)])])],[]⟩
def q4x:List FOut:=[⟨(.imm [.str,.str,.str]),[],none⟩]
def q5h:Tmpl:={ t:=(.any::.any::.any::(.ptr 1 0)::.any::(.vec 2)::qI 10 ((.imm [(.int .i64)])::(.int .i64)::(.int .i64)::qI 47 [])),h:=[.dead,.cells [(.imm [(.int .i64),(.int .i64),(.int .i64)]),(.imm [(.int .i64),(.int .i64),(.int .i64)])],.vec 118 [.str,.str,.str]],pro:=[(5,118,[.str,.str,.str])] }
def q5u:List Out:=[⟨(.exit 0),{ t:=(qI 5 ((.vec 2)::qI 60 [])),h:=[.dead,.dead,.vec 118 [.str,.str,.str]] }⟩]
noncomputable def q25:=qe [(49,q9 yB yA zt),(83,q9 qg8 qgc q8Y),(84,q9 q6g q6l q14),(85,q9 q8N q8r q15)] [(54,Tryz.f54)] [] 0
noncomputable def yf:=jl q25 54 Tryz.f54 4 q5h q5u
theorem qeI:qo Tryz.prog qa q25.nimp (qC Tryz.prog q25.iter 54) (zH Tryz.f54 4) (ql q5h q5u (qh yf)):=
 gk q25 qc q8 (alc uD (alc qjP (alc q6P (alc qe8 aln)))) aln (b1 Tryz.func54) Tryz.func54
noncomputable def qe5:=qe [(49,q9 yB yA zt),(83,q9 qg8 qgc q8Y),(84,q9 q6g q6l q14),(85,q9 q8N q8r q15)] [(54,Tryz.f54)] [((54,4),ql q5h q5u (qh yf))] 0
noncomputable def yu:=qt qe5 54 Tryz.f54 true q4E q4x
theorem q9H:zb Tryz.prog qa 54 (q9 q4E q4x yu):=sk qe5 qc q8 (alc uD (alc qjP (alc q6P (alc qe8 aln)))) (alc (lk Tryz.func54 qeI) aln) (b1 Tryz.func54) Tryz.func54
def vh:FIn:=⟨[(.agg [(.imm [(.int .i64),(.int .i64),(.int .i64),(.int .i64),(.int .i64),(.int .i64),.bool]),(.imm [(.int .i64),(.int .i64),(.int .i64),(.int .i64),(.int .i64),(.int .i64),.bool])]),(.agg [(.imm [(.int .i64),(.int .i64),(.int .i64)]),(.imm [(.int .i64),(.int .i64),(.int .i64)])])],[]⟩
def ve:List FOut:=[⟨(.tuple [.bool,(.agg [(.int .i64),(.int .i64),(.int .i64)]),(.int .i64)]),[],none⟩]
noncomputable def q9P:=qe [(43,q9 vg vj wh),(48,q9 q0q q0L wz),(49,q9 yB yA zt),(53,q9 qb8 qbQ q3T),(54,q9 q4E q4x yu),(42,q9 qH qJ qk)] [(22,Tryz.f22)] [] 0
noncomputable def qv:=qt q9P 22 Tryz.f22 true vh ve
theorem jj:zb Tryz.prog qa 22 (q9 vh ve qv):=sk q9P qc q8 (alc jo (alc q3w (alc uD (alc qku (alc q9H (alc zE aln)))))) aln (b1 Tryz.func22) Tryz.func22
def q2u:FIn:=⟨[(.imm [.str,.str,.str])],[]⟩
def q2p:List FOut:=[⟨(.tuple [(.imm [(.int .i64)]),(.int .i64)]),[],none⟩]
def yH:Tmpl:={ t:=(.any::(.ptr 0 0)::(.ptr 2 0)::.any::.any::(.vec 4)::qI 4 ((.vec 3)::(.int .i64)::(.int .i64)::qI 26 [])),h:=[.cells [(.imm [.str,.str,.str])],.cells [(.int .i64)],.cells [(.ptr 1 0)],.vec 3 [(.int .i64)],.vec 118 [.str,.str,.str]],pro:=[(5,118,[.str,.str,.str])],fs:=[[.any,(.ptr 0 0),.any,.any,.any,(.ptr 2 0),(.fn 87 [] [(.ptr 0 0),(.ptr 2 0)]),(.int .i64),(.int .i64),.any,.any,.any,.any,.any,.any,.any,.any,.any,.any,.any,.any,(.int .i64),(.int .i64),.any,.any,.any,.any,(.int .i64),(.imm [.str,.str,.str]),(.int .i64),(.blit true),.any,.any,(.fn 87 [] [(.ptr 0 0),(.ptr 2 0)]),(.int .i64),(.int .i64),(.vec 3),.any,.any,.any,.any,.any,.any,.any,.any,.any,.any,.any,.any,.any,.any,.any,.any,.any,.any,.any,.any,.any,.any,.any,.any,.any,.any,.any,.any,.any,.any,.any,.any,.any,.any,.any,.any,.any,.any,.any,.any,.any],[]] }
def yv:List Out:=[⟨(.exit 0),{ t:=(.any::.any::(.ptr 2 0)::.any::.any::(.vec 4)::qI 33 []),h:=[.cells [(.imm [.str,.str,.str])],.cells [(.int .i64)],.cells [(.ptr 1 0)],.vec 3 [(.int .i64)],.vec 118 [.str,.str,.str]],fs:=[[.any,(.ptr 0 0),.any,.any,.any,(.ptr 2 0),(.fn 87 [] [(.ptr 0 0),(.ptr 2 0)]),(.int .i64),(.int .i64),.any,.any,.any,.any,.any,.any,.any,.any,.any,.any,.any,.any,(.int .i64),(.int .i64),.any,.any,.any,.any,(.int .i64),(.imm [.str,.str,.str]),(.int .i64),(.blit true),.any,.any,(.fn 87 [] [(.ptr 0 0),(.ptr 2 0)]),(.int .i64),(.int .i64),(.vec 3),.any,.any,.any,.any,.any,.any,.any,.any,.any,.any,.any,.any,.any,.any,.any,.any,.any,.any,.any,.any,.any,.any,.any,.any,.any,.any,.any,.any,.any,.any,.any,.any,.any,.any,.any,.any,.any,.any,.any,.any,.any],[]] }⟩]
noncomputable def vd:=qe [(60,q9 j8 jf zI),(82,q9 zl zj qE)] [(57,Tryz.f57),(87,Tryz.f87)] [] 0
noncomputable def ze:=jl vd 87 Tryz.f87 4 yH yv
theorem q63:qo Tryz.prog qa vd.nimp (qC Tryz.prog vd.iter 87) (zH Tryz.f87 4) (ql yH yv (qh ze)):=
 gk vd qc q8 (alc wV (alc zi aln)) aln (alc (bk Tryz.func57) (alc (bk Tryz.func87) aln)) Tryz.func87
def q0k:Tmpl:={ t:=(.any::(.ptr 0 0)::.any::.any::.any::(.ptr 2 0)::(.fn 87 [] [(.ptr 0 0),(.ptr 2 0)])::(.int .i64)::(.int .i64)::qI 12 ((.int .i64)::(.int .i64)::qI 55 [])),h:=[.cells [(.imm [.str,.str,.str])],.cells [(.int .i64)],.cells [(.ptr 1 0)]] }
def q0O:List Out:=[⟨(.exit 2),{ t:=(.any::(.ptr 0 0)::.any::.any::.any::(.ptr 2 0)::(.fn 87 [] [(.ptr 0 0),(.ptr 2 0)])::qI 14 ((.int .i64)::(.int .i64)::qI 55 [])),h:=[.cells [(.imm [.str,.str,.str])],.cells [(.int .i64)],.cells [(.ptr 1 0)]] }⟩,⟨.ret,{ t:=(.any::.any::(.vec 6)::(.int .i64)::qI 74 []),h:=[.dead,.dead,.dead,.dead,.dead,.dead,.vec 3 [(.int .i64)]] }⟩]
noncomputable def yh:=qe [(60,q9 j8 jf zI),(82,q9 zl zj qE)] [(57,Tryz.f57),(87,Tryz.f87)] [((87,4),ql yH yv (qh ze))] 0
noncomputable def vt:=jl yh 57 Tryz.f57 15 q0k q0O
theorem q98:qo Tryz.prog qa yh.nimp (qC Tryz.prog yh.iter 57) (zH Tryz.f57 15) (ql q0k q0O (qh vt)):=
 gk yh qc q8 (alc wV (alc zi aln)) (alc (lk Tryz.func87 q63) aln) (alc (bk Tryz.func57) (alc (bk Tryz.func87) aln)) Tryz.func57
def q1i:Tmpl:={ t:=(.any::(.ptr 0 0)::.any::.any::.any::(.ptr 2 0)::(.fn 87 [] [(.ptr 0 0),(.ptr 2 0)])::qI 14 ((.int .i64)::(.int .i64)::qI 55 [])),h:=[.cells [(.imm [.str,.str,.str])],.cells [(.int .i64)],.cells [(.ptr 1 0)]] }
def q1j:List Out:=[⟨(.exit 0),{ t:=(.any::(.ptr 0 0)::.any::.any::.any::(.ptr 2 0)::(.fn 87 [] [(.ptr 0 0),(.ptr 2 0)])::qI 71 []),h:=[.cells [(.imm [.str,.str,.str])],.cells [(.int .i64)],.cells [(.ptr 1 0)]] }⟩,⟨.ret,{ t:=(.any::.any::(.vec 6)::(.int .i64)::qI 74 []),h:=[.dead,.dead,.dead,.dead,.dead,.dead,.vec 3 [(.int .i64)]] }⟩]
noncomputable def yU:=qe [(60,q9 j8 jf zI),(82,q9 zl zj qE)] [(57,Tryz.f57),(87,Tryz.f87)] [((57,15),ql q0k q0O (qh vt))] 0
noncomputable def vQ:=jl yU 57 Tryz.f57 9 q1i q1j
theorem qak:qo Tryz.prog qa yU.nimp (qC Tryz.prog yU.iter 57) (zH Tryz.f57 9) (ql q1i q1j (qh vQ)):=
 gk yU qc q8 (alc wV (alc zi aln)) (alc (lk Tryz.func57 q98) aln) (alc (bk Tryz.func57) (alc (bk Tryz.func87) aln)) Tryz.func57
def yF:Tmpl:={ t:=(.any::(.ptr 0 0)::(.ptr 2 0)::.any::.any::(.vec 4)::qI 4 ((.vec 3)::(.int .i64)::(.int .i64)::qI 26 [])),h:=[.cells [(.imm [.str,.str,.str])],.cells [(.int .i64)],.cells [(.ptr 1 0)],.vec 3 [(.int .i64)],.vec 118 [.str,.str,.str]],pro:=[(5,118,[.str,.str,.str])],fs:=[[.any,(.ptr 0 0),.any,.any,.any,(.ptr 2 0),(.fn 87 [] [(.ptr 0 0),(.ptr 2 0)]),.any,.any,(.int .i64),(.int .i64),(.int .i64),.any,.any,.any,.any,.any,.any,.any,.any,.any,.any,.any,.any,.any,.any,.any,.any,.any,.any,.any,.any,.any,.any,.any,.any,.any,.any,.any,.any,.any,.any,.any,(.int .i64),(.int .i64),.any,.any,.any,.any,.any,.any,.any,.any,.any,.any,.any,.any,(.int .i64),(.imm [.str,.str,.str]),(.int .i64),(.blit true),.any,.any,(.fn 87 [] [(.ptr 0 0),(.ptr 2 0)]),(.int .i64),(.int .i64),(.int .i64),(.vec 3),.any,.any,.any,.any,.any,.any,.any,.any,.any,.any],[]] }
def yI:List Out:=[⟨(.exit 0),{ t:=(.any::.any::(.ptr 2 0)::.any::.any::(.vec 4)::qI 33 []),h:=[.cells [(.imm [.str,.str,.str])],.cells [(.int .i64)],.cells [(.ptr 1 0)],.vec 3 [(.int .i64)],.vec 118 [.str,.str,.str]],fs:=[[.any,(.ptr 0 0),.any,.any,.any,(.ptr 2 0),(.fn 87 [] [(.ptr 0 0),(.ptr 2 0)]),.any,.any,(.int .i64),(.int .i64),(.int .i64),.any,.any,.any,.any,.any,.any,.any,.any,.any,.any,.any,.any,.any,.any,.any,.any,.any,.any,.any,.any,.any,.any,.any,.any,.any,.any,.any,.any,.any,.any,.any,(.int .i64),(.int .i64),.any,.any,.any,.any,.any,.any,.any,.any,.any,.any,.any,.any,(.int .i64),(.imm [.str,.str,.str]),(.int .i64),(.blit true),.any,.any,(.fn 87 [] [(.ptr 0 0),(.ptr 2 0)]),(.int .i64),(.int .i64),(.int .i64),(.vec 3),.any,.any,.any,.any,.any,.any,.any,.any,.any,.any],[]] }⟩]
noncomputable def v8:=qe [(60,q9 j8 jf zI),(82,q9 zl zj qE)] [(57,Tryz.f57),(87,Tryz.f87)] [] 0
noncomputable def zd:=jl v8 87 Tryz.f87 4 yF yI
theorem q64:qo Tryz.prog qa v8.nimp (qC Tryz.prog v8.iter 87) (zH Tryz.f87 4) (ql yF yI (qh zd)):=
 gk v8 qc q8 (alc wV (alc zi aln)) aln (alc (bk Tryz.func57) (alc (bk Tryz.func87) aln)) Tryz.func87
def q0g:Tmpl:={ t:=(.any::(.ptr 0 0)::.any::.any::.any::(.ptr 2 0)::(.fn 87 [] [(.ptr 0 0),(.ptr 2 0)])::.any::.any::(.int .i64)::(.int .i64)::(.int .i64)::qI 31 ((.int .i64)::(.int .i64)::qI 33 [])),h:=[.cells [(.imm [.str,.str,.str])],.cells [(.int .i64)],.cells [(.ptr 1 0)]] }
def q0f:List Out:=[⟨(.exit 8),{ t:=(.any::(.ptr 0 0)::.any::.any::.any::(.ptr 2 0)::(.fn 87 [] [(.ptr 0 0),(.ptr 2 0)])::.any::.any::(.int .i64)::(.int .i64)::qI 32 ((.int .i64)::(.int .i64)::qI 33 [])),h:=[.cells [(.imm [.str,.str,.str])],.cells [(.int .i64)],.cells [(.ptr 1 0)]] }⟩,⟨.ret,{ t:=(.any::.any::(.vec 6)::(.int .i64)::qI 74 []),h:=[.dead,.dead,.dead,.dead,.dead,.dead,.vec 3 [(.int .i64)]] }⟩]
noncomputable def yd:=qe [(60,q9 j8 jf zI),(82,q9 zl zj qE)] [(57,Tryz.f57),(87,Tryz.f87)] [((87,4),ql yF yI (qh zd))] 0
noncomputable def vr:=jl yd 57 Tryz.f57 34 q0g q0f
theorem q9g:qo Tryz.prog qa yd.nimp (qC Tryz.prog yd.iter 57) (zH Tryz.f57 34) (ql q0g q0f (qh vr)):=
 gk yd qc q8 (alc wV (alc zi aln)) (alc (lk Tryz.func87 q64) aln) (alc (bk Tryz.func57) (alc (bk Tryz.func87) aln)) Tryz.func57
def q0m:Tmpl:={ t:=(.any::(.ptr 0 0)::.any::.any::.any::(.ptr 2 0)::(.fn 87 [] [(.ptr 0 0),(.ptr 2 0)])::.any::.any::(.int .i64)::(.int .i64)::qI 32 ((.int .i64)::(.int .i64)::qI 33 [])),h:=[.cells [(.imm [.str,.str,.str])],.cells [(.int .i64)],.cells [(.ptr 1 0)]] }
def q0o:List Out:=[⟨(.exit 6),{ t:=(.any::(.ptr 0 0)::.any::.any::.any::(.ptr 2 0)::(.fn 87 [] [(.ptr 0 0),(.ptr 2 0)])::qI 36 ((.int .i64)::(.int .i64)::qI 33 [])),h:=[.cells [(.imm [.str,.str,.str])],.cells [(.int .i64)],.cells [(.ptr 1 0)]] }⟩,⟨.ret,{ t:=(.any::.any::(.vec 6)::(.int .i64)::qI 74 []),h:=[.dead,.dead,.dead,.dead,.dead,.dead,.vec 3 [(.int .i64)]] }⟩]
noncomputable def yg:=qe [(60,q9 j8 jf zI),(82,q9 zl zj qE)] [(57,Tryz.f57),(87,Tryz.f87)] [((57,34),ql q0g q0f (qh vr))] 0
noncomputable def vw:=jl yg 57 Tryz.f57 29 q0m q0o
theorem q9h:qo Tryz.prog qa yg.nimp (qC Tryz.prog yg.iter 57) (zH Tryz.f57 29) (ql q0m q0o (qh vw)):=
 gk yg qc q8 (alc wV (alc zi aln)) (alc (lk Tryz.func57 q9g) aln) (alc (bk Tryz.func57) (alc (bk Tryz.func87) aln)) Tryz.func57
def q0I:Tmpl:={ t:=(.any::(.ptr 0 0)::.any::.any::.any::(.ptr 2 0)::(.fn 87 [] [(.ptr 0 0),(.ptr 2 0)])::qI 36 ((.int .i64)::(.int .i64)::qI 33 [])),h:=[.cells [(.imm [.str,.str,.str])],.cells [(.int .i64)],.cells [(.ptr 1 0)]] }
def q0w:List Out:=[⟨(.exit 4),{ t:=(qI 5 ((.ptr 2 0)::qI 72 [])),h:=[.dead,.cells [(.int .i64)],.cells [(.ptr 1 0)]] }⟩,⟨.ret,{ t:=(.any::.any::(.vec 6)::(.int .i64)::qI 74 []),h:=[.dead,.dead,.dead,.dead,.dead,.dead,.vec 3 [(.int .i64)]] }⟩]
noncomputable def yn:=qe [(60,q9 j8 jf zI),(82,q9 zl zj qE)] [(57,Tryz.f57),(87,Tryz.f87)] [((57,29),ql q0m q0o (qh vw))] 0
noncomputable def vk:=jl yn 57 Tryz.f57 23 q0I q0w
theorem qa9:qo Tryz.prog qa yn.nimp (qC Tryz.prog yn.iter 57) (zH Tryz.f57 23) (ql q0I q0w (qh vk)):=
 gk yn qc q8 (alc wV (alc zi aln)) (alc (lk Tryz.func57 q9h) aln) (alc (bk Tryz.func57) (alc (bk Tryz.func87) aln)) Tryz.func57
noncomputable def q7u:=qe [(60,q9 j8 jf zI),(82,q9 zl zj qE)] [(57,Tryz.f57),(87,Tryz.f87)] [((57,9),ql q1i q1j (qh vQ)),((57,23),ql q0I q0w (qh vk))] 0
noncomputable def jZ:=qt q7u 57 Tryz.f57 true q2u q2p
theorem qcl:zb Tryz.prog qa 57 (q9 q2u q2p jZ):=sk q7u qc q8 (alc wV (alc zi aln)) (alc (lk Tryz.func57 qak) (alc (lk Tryz.func57 qa9) aln)) (alc (bk Tryz.func57) (alc (bk Tryz.func87) aln)) Tryz.func57
def yE:FIn:=⟨[(.agg [(.imm [(.int .i64),(.int .i64),(.int .i64),(.int .i64),(.int .i64),(.int .i64),.bool]),(.imm [(.int .i64),(.int .i64),(.int .i64),(.int .i64),(.int .i64),(.int .i64),.bool])]),(.agg [(.imm [(.int .i64),(.int .i64),(.int .i64)]),(.imm [(.int .i64),(.int .i64),(.int .i64)])])],[]⟩
def yw:List FOut:=[⟨(.tuple [(.imm [(.int .i64)]),(.int .i64)]),[],none⟩]
noncomputable def qe1:=qe [(43,q9 vg vj wh),(48,q9 q0q q0L wz),(49,q9 yB yA zt),(54,q9 q4E q4x yu),(57,q9 q2u q2p jZ),(42,q9 qH qJ qk)] [(24,Tryz.f24)] [] 0
noncomputable def z7:=qt qe1 24 Tryz.f24 true yE yw
theorem uB:zb Tryz.prog qa 24 (q9 yE yw z7):=sk qe1 qc q8 (alc jo (alc q3w (alc uD (alc q9H (alc qcl (alc zE aln)))))) aln (b1 Tryz.func24) Tryz.func24
def q5S:FIn:=⟨[(.int .i64)],[]⟩
def q5O:List FOut:=[⟨.bool,[],none⟩]
noncomputable def qaK:=qe [] [(128,Tryz.f128)] [] 0
noncomputable def wI:=qt qaK 128 Tryz.f128 true q5S q5O
theorem qfu:zb Tryz.prog qa 128 (q9 q5S q5O wI):=sk qaK qc q8 aln aln (b1 Tryz.func128) Tryz.func128
def q3k:FIn:=⟨[(.agg [(.int .i64),(.int .i64)])],[]⟩
def q36:List FOut:=[⟨(.int .i64),[],none⟩]
noncomputable def qc9:=qe [(128,q9 q5S q5O wI)] [(96,Tryz.f96)] [] 0
noncomputable def uo:=qt qc9 96 Tryz.f96 true q3k q36
theorem q7S:zb Tryz.prog qa 96 (q9 q3k q36 uo):=sk qc9 qc q8 (alc qfu aln) aln (b1 Tryz.func96) Tryz.func96
def uJ:FIn:=⟨[(.imm [(.int .i64),(.int .i64)])],[]⟩
def uG:List FOut:=[⟨(.int .i64),[],none⟩]
def q0s:Tmpl:={ t:=(qI 14 ((.imm [(.int .i64),(.int .i64)])::(.int .i64)::(.int .i64)::qI 12 [])),h:=[] }
def q0c:List Out:=[⟨(.exit 1),{ t:=(qI 29 []),h:=[] }⟩,⟨.ret,{ t:=(.any::.any::(.int .i64)::qI 26 []),h:=[] }⟩]
noncomputable def ym:=qe [(96,q9 q3k q36 uo)] [(66,Tryz.f66)] [] 0
noncomputable def vo:=jl ym 66 Tryz.f66 8 q0s q0c
theorem q9B:qo Tryz.prog qa ym.nimp (qC Tryz.prog ym.iter 66) (zH Tryz.f66 8) (ql q0s q0c (qh vo)):=
 gk ym qc q8 (alc q7S aln) aln (b1 Tryz.func66) Tryz.func66
noncomputable def q65:=qe [(96,q9 q3k q36 uo)] [(66,Tryz.f66)] [((66,8),ql q0s q0c (qh vo))] 0
noncomputable def wL:=qt q65 66 Tryz.f66 true uJ uG
theorem q3Q:zb Tryz.prog qa 66 (q9 uJ uG wL):=sk q65 qc q8 (alc q7S aln) (alc (lk Tryz.func66 q9B) aln) (b1 Tryz.func66) Tryz.func66
def q5Y:FIn:=⟨[(.imm [(.int .i64),(.int .i64)])],[]⟩
def q5t:List FOut:=[⟨(.tuple [(.agg [(.int .i64),(.int .i64)]),(.int .i64)]),[],none⟩]
def q3C:Tmpl:={ t:=(.any::.any::(.ptr 0 0)::.any::.any::(.ptr 1 0)::qI 8 ((.imm [(.int .i64),(.int .i64)])::(.int .i64)::(.int .i64)::qI 17 [])),h:=[.cells [(.int .i64),(.int .i64)],.cells [(.int .i64),(.int .i64)]] }
def q3I:List Out:=[⟨(.exit 0),{ t:=(.any::.any::(.ptr 0 0)::.any::.any::(.ptr 1 0)::qI 28 []),h:=[.cells [(.int .i64),(.int .i64)],.cells [(.int .i64),(.int .i64)]] }⟩]
noncomputable def q07:=qe [(66,q9 uJ uG wL)] [(33,Tryz.f33)] [] 0
noncomputable def j0:=jl q07 33 Tryz.f33 8 q3C q3I
theorem qcL:qo Tryz.prog qa q07.nimp (qC Tryz.prog q07.iter 33) (zH Tryz.f33 8) (ql q3C q3I (qh j0)):=
 gk q07 qc q8 (alc q3Q aln) aln (b1 Tryz.func33) Tryz.func33
noncomputable def qb6:=qe [(66,q9 uJ uG wL)] [(33,Tryz.f33)] [((33,8),ql q3C q3I (qh j0))] 0
noncomputable def kl:=qt qb6 33 Tryz.f33 true q5Y q5t
theorem qeH:zb Tryz.prog qa 33 (q9 q5Y q5t kl):=sk qb6 qc q8 (alc q3Q aln) (alc (lk Tryz.func33 qcL) aln) (b1 Tryz.func33) Tryz.func33
def qhw:FIn:=⟨[],[]⟩
def qhQ:List FOut:=[⟨(.agg [(.imm [(.int .i64),(.int .i64),(.int .i64),(.int .i64),(.int .i64),(.int .i64),.bool]),(.imm [(.int .i64),(.int .i64),(.int .i64),(.int .i64),(.int .i64),(.int .i64),.bool])]),[],none⟩]
def qcO:Tmpl:={ t:=((.ptr 0 0)::(.ptr 1 0)::.any::.any::.any::(.vec 2)::(.int .i64)::(.int .i64)::qI 24 []),h:=[.cells [.nils,.nils],.cells [(.vec 3),(.vec 4)],.vec 3 [(.int .i64)],.vec 68 [(.int .i64),(.int .i64),(.int .i64),(.int .i64),(.int .i64),(.int .i64),.bool],.vec 68 [(.int .i64),(.int .i64),(.int .i64),(.int .i64),(.int .i64),(.int .i64),.bool]],prc:=[(1,0,68,[(.int .i64),(.int .i64),(.int .i64),(.int .i64),(.int .i64),(.int .i64),.bool]),(1,1,68,[(.int .i64),(.int .i64),(.int .i64),(.int .i64),(.int .i64),(.int .i64),.bool])] }
def qdD:List Out:=[⟨(.exit 0),{ t:=((.ptr 0 0)::(.ptr 1 0)::qI 30 []),h:=[.cells [.nils,.nils],.cells [(.vec 3),(.vec 4)],.dead,.vec 68 [(.int .i64),(.int .i64),(.int .i64),(.int .i64),(.int .i64),(.int .i64),.bool],.vec 68 [(.int .i64),(.int .i64),(.int .i64),(.int .i64),(.int .i64),(.int .i64),.bool]] }⟩]
noncomputable def q8n:=qe [] [(38,Tryz.f38)] [] 0
noncomputable def q2Z:=jl q8n 38 Tryz.f38 4 qcO qdD
theorem qlJ:qo Tryz.prog qa q8n.nimp (qC Tryz.prog q8n.iter 38) (zH Tryz.f38 4) (ql qcO qdD (qh q2Z)):=
 gk q8n qc q8 aln aln (b1 Tryz.func38) Tryz.func38
noncomputable def qod:=qe [] [(38,Tryz.f38)] [((38,4),ql qcO qdD (qh q2Z))] 0
noncomputable def q9a:=qt qod 38 Tryz.f38 true qhw qhQ
theorem qpb:zb Tryz.prog qa 38 (q9 qhw qhQ q9a):=sk qod qc q8 aln (alc (lk Tryz.func38 qlJ) aln) (b1 Tryz.func38) Tryz.func38
def q7B:FIn:=⟨[(.int .i64)],[]⟩
def q7G:List FOut:=[⟨(.agg [(.imm [(.int .i64),(.int .i64),(.int .i64)]),(.imm [(.int .i64),(.int .i64),(.int .i64)])]),[],none⟩]
noncomputable def qef:=qe [] [(39,Tryz.f39)] [] 0
noncomputable def uV:=qt qef 39 Tryz.f39 true q7B q7G
theorem qhj:zb Tryz.prog qa 39 (q9 q7B q7G uV):=sk qef qc q8 aln aln (b1 Tryz.func39) Tryz.func39
def q3d:FIn:=⟨[],[]⟩
def q3m:List FOut:=[⟨.bool,[],none⟩]
noncomputable def qjF:=qe [(12,q9 q2a q1Z vX),(14,q9 qa0 q9L q2n),(18,q9 jh jg qK),(20,q9 kp uZ wc),(22,q9 vh ve qv),(24,q9 yE yw z7),(33,q9 q5Y q5t kl),(38,q9 qhw qhQ q9a),(39,q9 q7B q7G uV)] [(11,Tryz.f11)] [] 0
noncomputable def zp:=qt qjF 11 Tryz.f11 true q3d q3m
theorem q4q:zb Tryz.prog qa 11 (q9 q3d q3m zp):=sk qjF qc q8 (alc q76 (alc qiH (alc kQ (alc q2v (alc jj (alc uB (alc qeH (alc qpb (alc qhj aln))))))))) aln (b1 Tryz.func11) Tryz.func11
def qkm:FIn:=⟨[(.int .i64)],[]⟩
def qkI:List FOut:=[⟨.bool,[],none⟩]
noncomputable def qqb:=qe [] [(59,Tryz.f59)] [] 0
noncomputable def q4T:=qt qqb 59 Tryz.f59 true qkm qkI
theorem qr3:zb Tryz.prog qa 59 (q9 qkm qkI q4T):=sk qqb qc q8 aln aln (b1 Tryz.func59) Tryz.func59
def q2F:FIn:=⟨[(.agg [(.int .i64),(.int .i64)])],[]⟩
def q2N:List FOut:=[⟨.bool,[],none⟩]
noncomputable def qjv:=qe [(59,q9 qkm qkI q4T)] [(27,Tryz.f27)] [] 0
noncomputable def va:=qt qjv 27 Tryz.f27 true q2F q2N
theorem q4m:zb Tryz.prog qa 27 (q9 q2F q2N va):=sk qjv qc q8 (alc qr3 aln) aln (b1 Tryz.func27) Tryz.func27
def qaJ:FIn:=⟨[(.int .i64)],[]⟩
def qaG:List FOut:=[⟨.bool,[],none⟩]
noncomputable def qlx:=qe [] [(103,Tryz.f103)] [] 0
noncomputable def jY:=qt qlx 103 Tryz.f103 true qaJ qaG
theorem qfK:zb Tryz.prog qa 103 (q9 qaJ qaG jY):=sk qlx qc q8 aln aln (b1 Tryz.func103) Tryz.func103
def qdp:FIn:=⟨[(.agg [(.int .i64),(.int .i64),(.int .i64),(.int .i64),(.int .i64),(.int .i64),.bool])],[]⟩
def qdw:List FOut:=[⟨(.int .i64),[],none⟩]
noncomputable def qje:=qe [(27,q9 q2F q2N va),(103,q9 qaJ qaG jY)] [(76,Tryz.f76)] [] 0
noncomputable def q2K:=qt qje 76 Tryz.f76 true qdp qdw
theorem qlK:zb Tryz.prog qa 76 (q9 qdp qdw q2K):=sk qje qc q8 (alc q4m (alc qfK aln)) aln (b1 Tryz.func76) Tryz.func76
def qaE:FIn:=⟨[(.agg [(.int .i64),(.int .i64),(.int .i64),(.int .i64),(.int .i64),(.int .i64),.bool]),(.agg [(.int .i64),(.int .i64),(.int .i64),(.int .i64),(.int .i64),(.int .i64),.bool])],[]⟩
def qaC:List FOut:=[⟨(.int .i64),[],none⟩]
noncomputable def qlg:=qe [(76,q9 qdp qdw q2K)] [(46,Tryz.f46)] [] 0
noncomputable def q52:=qt qlg 46 Tryz.f46 true qaE qaC
theorem qfR:zb Tryz.prog qa 46 (q9 qaE qaC q52):=sk qlg qc q8 (alc qlK aln) aln (b1 Tryz.func46) Tryz.func46
def q8q:FIn:=⟨[(.agg [(.imm [(.int .i64),(.int .i64),(.int .i64),(.int .i64),(.int .i64),(.int .i64),.bool]),(.imm [(.int .i64),(.int .i64),(.int .i64),(.int .i64),(.int .i64),(.int .i64),.bool])])],[]⟩
def q8h:List FOut:=[⟨(.int .i64),[],none⟩]
def q7y:Tmpl:={ t:=(.any::(.ptr 0 0)::.any::(.int .i64)::qI 37 []),h:=[.cells [(.imm [(.int .i64),(.int .i64),(.int .i64),(.int .i64),(.int .i64),(.int .i64),.bool]),(.imm [(.int .i64),(.int .i64),(.int .i64),(.int .i64),(.int .i64),(.int .i64),.bool])]] }
def q7D:List Out:=[⟨(.exit 0),{ t:=(qI 41 []),h:=[] }⟩,⟨.ret,{ t:=(.any::.any::(.int .i64)::qI 38 []),h:=[] }⟩]
noncomputable def q4u:=qe [(46,q9 qaE qaC q52)] [(17,Tryz.f17)] [] 0
noncomputable def q1t:=jl q4u 17 Tryz.f17 12 q7y q7D
theorem qi3:qo Tryz.prog qa q4u.nimp (qC Tryz.prog q4u.iter 17) (zH Tryz.f17 12) (ql q7y q7D (qh q1t)):=
 gk q4u qc q8 (alc qfR aln) aln (b1 Tryz.func17) Tryz.func17
noncomputable def qjl:=qe [(46,q9 qaE qaC q52)] [(17,Tryz.f17)] [((17,12),ql q7y q7D (qh q1t))] 0
noncomputable def q2L:=qt qjl 17 Tryz.f17 true q8q q8h
theorem qek:zb Tryz.prog qa 17 (q9 q8q q8h q2L):=sk qjl qc q8 (alc qfR aln) (alc (lk Tryz.func17 qi3) aln) (b1 Tryz.func17) Tryz.func17
def qaX:FIn:=⟨[(.agg [(.int .i64),(.int .i64),(.int .i64)])],[]⟩
def qb1:List FOut:=[⟨(.int .i64),[],none⟩]
noncomputable def ql0:=qe [(27,q9 q2F q2N va),(103,q9 qaJ qaG jY)] [(79,Tryz.f79)] [] 0
noncomputable def q2o:=qt ql0 79 Tryz.f79 true qaX qb1
theorem qeY:zb Tryz.prog qa 79 (q9 qaX qb1 q2o):=sk ql0 qc q8 (alc q4m (alc qfK aln)) aln (b1 Tryz.func79) Tryz.func79
def q6X:FIn:=⟨[(.agg [(.int .i64),(.int .i64),(.int .i64),(.int .i64),(.int .i64),(.int .i64),.bool]),(.int .i64)],[]⟩
def q70:List FOut:=[⟨.bool,[],none⟩]
noncomputable def qgS:=qe [] [(80,Tryz.f80)] [] 0
noncomputable def kR:=qt qgS 80 Tryz.f80 true q6X q70
theorem qcy:zb Tryz.prog qa 80 (q9 q6X q70 kR):=sk qgS qc q8 aln aln (b1 Tryz.func80) Tryz.func80
def q8y:FIn:=⟨[(.agg [(.imm [(.int .i64),(.int .i64),(.int .i64),(.int .i64),(.int .i64),(.int .i64),.bool]),(.imm [(.int .i64),(.int .i64),(.int .i64),(.int .i64),(.int .i64),(.int .i64),.bool])]),(.agg [(.imm [(.int .i64),(.int .i64),(.int .i64)]),(.imm [(.int .i64),(.int .i64),(.int .i64)])])],[]⟩
def q8a:List FOut:=[⟨(.int .i64),[],none⟩]
def q7I:Tmpl:={ t:=(.any::.any::(.ptr 0 0)::(.ptr 1 0)::.any::.any::(.int .i64)::qI 76 []),h:=[.cells [(.imm [(.int .i64),(.int .i64),(.int .i64),(.int .i64),(.int .i64),(.int .i64),.bool]),(.imm [(.int .i64),(.int .i64),(.int .i64),(.int .i64),(.int .i64),(.int .i64),.bool])],.cells [(.imm [(.int .i64),(.int .i64),(.int .i64)]),(.imm [(.int .i64),(.int .i64),(.int .i64)])]] }
def q7P:List Out:=[⟨(.exit 0),{ t:=(qI 83 []),h:=[] }⟩,⟨.ret,{ t:=(qI 4 ((.int .i64)::qI 78 [])),h:=[] }⟩]
noncomputable def q4t:=qe [(17,q9 q8q q8h q2L),(79,q9 qaX qb1 q2o),(80,q9 q6X q70 kR)] [(51,Tryz.f51)] [] 0
noncomputable def q1A:=jl q4t 51 Tryz.f51 10 q7I q7P
theorem qi6:qo Tryz.prog qa q4t.nimp (qC Tryz.prog q4t.iter 51) (zH Tryz.f51 10) (ql q7I q7P (qh q1A)):=
 gk q4t qc q8 (alc qek (alc qeY (alc qcy aln))) aln (b1 Tryz.func51) Tryz.func51
noncomputable def qjs:=qe [(17,q9 q8q q8h q2L),(79,q9 qaX qb1 q2o),(80,q9 q6X q70 kR)] [(51,Tryz.f51)] [((51,10),ql q7I q7P (qh q1A))] 0
noncomputable def q0Z:=qt qjs 51 Tryz.f51 true q8y q8a
theorem qec:zb Tryz.prog qa 51 (q9 q8y q8a q0Z):=sk qjs qc q8 (alc qek (alc qeY (alc qcy aln))) (alc (lk Tryz.func51 qi6) aln) (b1 Tryz.func51) Tryz.func51
def qhU:FIn:=⟨[(.agg [(.imm [(.int .i64),(.int .i64),(.int .i64),(.int .i64),(.int .i64),(.int .i64),.bool]),(.imm [(.int .i64),(.int .i64),(.int .i64),(.int .i64),(.int .i64),(.int .i64),.bool])]),(.agg [(.imm [(.int .i64),(.int .i64),(.int .i64)]),(.imm [(.int .i64),(.int .i64),(.int .i64)])])],[]⟩
def qhl:List FOut:=[⟨.bool,[],none⟩]
noncomputable def qnq:=qe [(51,q9 q8y q8a q0Z)] [(47,Tryz.f47)] [] 0
noncomputable def q9f:=qt qnq 47 Tryz.f47 true qhU qhl
theorem qp3:zb Tryz.prog qa 47 (q9 qhU qhl q9f):=sk qnq qc q8 (alc qec aln) aln (b1 Tryz.func47) Tryz.func47
def qhG:FIn:=⟨[(.agg [(.imm [(.int .i64),(.int .i64),(.int .i64),(.int .i64),(.int .i64),(.int .i64),.bool]),(.imm [(.int .i64),(.int .i64),(.int .i64),(.int .i64),(.int .i64),(.int .i64),.bool])]),(.agg [(.imm [(.int .i64),(.int .i64),(.int .i64)]),(.imm [(.int .i64),(.int .i64),(.int .i64)])])],[]⟩
def qhk:List FOut:=[⟨.bool,[],none⟩]
noncomputable def qmn:=qe [(47,q9 qhU qhl q9f)] [(19,Tryz.f19)] [] 0
noncomputable def q9i:=qt qmn 19 Tryz.f19 true qhG qhk
theorem qoD:zb Tryz.prog qa 19 (q9 qhG qhk q9i):=sk qmn qc q8 (alc qp3 aln) aln (b1 Tryz.func19) Tryz.func19
def qar:FIn:=⟨[(.agg [(.imm [(.int .i64),(.int .i64),(.int .i64),(.int .i64),(.int .i64),(.int .i64),.bool]),(.imm [(.int .i64),(.int .i64),(.int .i64),(.int .i64),(.int .i64),(.int .i64),.bool])]),(.agg [(.imm [(.int .i64),(.int .i64),(.int .i64)]),(.imm [(.int .i64),(.int .i64),(.int .i64)])]),(.int .i64)],[]⟩
def qao:List FOut:=[⟨(.int .i64),[],none⟩]
noncomputable def ql4:=qe [] [(63,Tryz.f63)] [] 0
noncomputable def q4U:=qt ql4 63 Tryz.f63 true qar qao
theorem qfd:zb Tryz.prog qa 63 (q9 qar qao q4U):=sk ql4 qc q8 aln aln (b1 Tryz.func63) Tryz.func63
def q87:FIn:=⟨[(.agg [(.int .i64),(.int .i64)]),(.agg [(.int .i64),(.int .i64)])],[]⟩
def q8L:List FOut:=[⟨(.agg [(.int .i64),(.int .i64)]),[],none⟩]
noncomputable def qjI:=qe [] [(62,Tryz.f62)] [] 0
noncomputable def q5i:=qt qjI 62 Tryz.f62 true q87 q8L
theorem qei:zb Tryz.prog qa 62 (q9 q87 q8L q5i):=sk qjI qc q8 aln aln (b1 Tryz.func62) Tryz.func62
def yW:FIn:=⟨[.str],[]⟩
def yV:List FOut:=[⟨.bool,[],none⟩]
noncomputable def qih:=qe [] [(126,Tryz.f126)] [] 0
noncomputable def qN:=qt qih 126 Tryz.f126 true yW yV
theorem yC:zb Tryz.prog qa 126 (q9 yW yV qN):=sk qih qc q8 aln aln (b1 Tryz.func126) Tryz.func126
def jN:FIn:=⟨[.str,.bool],[]⟩
def jC:List FOut:=[⟨.str,[],none⟩]
noncomputable def qh6:=qe [] [(151,Tryz.f151)] [] 0
noncomputable def qO:=qt qh6 151 Tryz.f151 true jN jC
theorem js:zb Tryz.prog qa 151 (q9 jN jC qO):=sk qh6 qc q8 aln aln (b1 Tryz.func151) Tryz.func151
def jb:FIn:=⟨[.str],[]⟩
def ja:List FOut:=[⟨.str,[],none⟩]
noncomputable def qlk:=qe [] [(152,Tryz.f152)] [] 0
noncomputable def qz:=qt qlk 152 Tryz.f152 true jb ja
theorem wR:zb Tryz.prog qa 152 (q9 jb ja qz):=sk qlk qc q8 aln aln (b1 Tryz.func152) Tryz.func152
def ua:FIn:=⟨[.str],[]⟩
def uc:List FOut:=[⟨.str,[],none⟩]
noncomputable def qh0:=qe [(126,q9 yW yV qN),(151,q9 jN jC qO),(152,q9 jb ja qz)] [(124,Tryz.f124)] [] 0
noncomputable def zT:=qt qh0 124 Tryz.f124 true ua uc
theorem uu:zb Tryz.prog qa 124 (q9 ua uc zT):=sk qh0 qc q8 (alc yC (alc js (alc wR aln))) aln (b1 Tryz.func124) Tryz.func124
def qdd:FIn:=⟨[(.int .i64)],[]⟩
def qdC:List FOut:=[⟨.str,[],none⟩]
def qd9:Tmpl:={ t:=((.int .i64)::.any::.any::.str::qI 33 []),h:=[] }
def qda:List Out:=[⟨(.exit 0),{ t:=((.int .i64)::.any::.any::.str::qI 33 []),h:=[] }⟩]
noncomputable def q8k:=qe [(124,q9 ua uc zT)] [] [] 0
noncomputable def q5b:=jl q8k 94 Tryz.f94 9 qd9 qda
theorem qlQ:qo Tryz.prog qa q8k.nimp (qC Tryz.prog q8k.iter 94) (zH Tryz.f94 9) (ql qd9 qda (qh q5b)):=
 gk q8k qc q8 (alc uu aln) aln aln Tryz.func94
noncomputable def qmR:=qe [(124,q9 ua uc zT)] [] [((94,9),ql qd9 qda (qh q5b))] 0
noncomputable def q4P:=qt qmR 94 Tryz.f94 true qdd qdC
theorem qh8:zb Tryz.prog qa 94 (q9 qdd qdC q4P):=sk qmR qc q8 (alc uu aln) (alc (lk Tryz.func94 qlQ) aln) aln Tryz.func94
def q1L:FIn:=⟨[(.int .i64)],[]⟩
def q1N:List FOut:=[⟨.str,[],none⟩]
def qfr:Tmpl:={ t:=((.int .i64)::.any::.any::.str::qI 33 []),h:=[] }
def qfn:List Out:=[⟨(.exit 0),{ t:=((.int .i64)::.any::.any::.str::qI 33 []),h:=[] }⟩]
noncomputable def qaH:=qe [(94,q9 qdd qdC q4P),(124,q9 ua uc zT)] [] [] 0
noncomputable def q7d:=jl qaH 94 Tryz.f94 9 qfr qfn
theorem qop:qo Tryz.prog qa qaH.nimp (qC Tryz.prog qaH.iter 94) (zH Tryz.f94 9) (ql qfr qfn (qh q7d)):=
 gk qaH qc q8 (alc qh8 (alc uu aln)) aln aln Tryz.func94
noncomputable def qpv:=qe [(94,q9 qdd qdC q4P),(124,q9 ua uc zT)] [] [((94,9),ql qfr qfn (qh q7d))] 0
noncomputable def zf:=qt qpv 94 Tryz.f94 true q1L q1N
theorem kj:zb Tryz.prog qa 94 (q9 q1L q1N zf):=sk qpv qc q8 (alc qh8 (alc uu aln)) (alc (lk Tryz.func94 qop) aln) aln Tryz.func94
def q8U:FIn:=⟨[(.int .i64)],[]⟩
def q8w:List FOut:=[⟨.str,[],none⟩]
noncomputable def qid:=qe [(94,q9 q1L q1N zf)] [(64,Tryz.f64)] [] 0
noncomputable def q1g:=qt qid 64 Tryz.f64 true q8U q8w
theorem qeb:zb Tryz.prog qa 64 (q9 q8U q8w q1g):=sk qid qc q8 (alc kj aln) aln (b1 Tryz.func64) Tryz.func64
def qbw:FIn:=⟨[.str],[]⟩
def qbH:List FOut:=[⟨(.int .i64),[],none⟩]
def q7E:Tmpl:={ t:=(.str::.any::.any::(.int .i64)::.str::(.int .i64)::qI 21 []),h:=[] }
def q7H:List Out:=[⟨(.exit 0),{ t:=(.str::.any::.any::(.int .i64)::qI 23 []),h:=[] }⟩]
noncomputable def q4p:=qe [(126,q9 yW yV qN),(152,q9 jb ja qz)] [(184,Tryz.f184)] [] 0
noncomputable def uT:=jl q4p 184 Tryz.f184 4 q7E q7H
theorem qhM:qo Tryz.prog qa q4p.nimp (qC Tryz.prog q4p.iter 184) (zH Tryz.f184 4) (ql q7E q7H (qh uT)):=
 gk q4p qc q8 (alc yC (alc wR aln)) aln (b1 Tryz.func184) Tryz.func184
noncomputable def qgF:=qe [(126,q9 yW yV qN),(152,q9 jb ja qz)] [(184,Tryz.f184)] [((184,4),ql q7E q7H (qh uT))] 0
noncomputable def uf:=qt qgF 184 Tryz.f184 true qbw qbH
theorem qk1:zb Tryz.prog qa 184 (q9 qbw qbH uf):=sk qgF qc q8 (alc yC (alc wR aln)) (alc (lk Tryz.func184 qhM) aln) (b1 Tryz.func184) Tryz.func184
def kd:FIn:=⟨[.str,.str],[]⟩
def uY:List FOut:=[⟨(.tuple [(.int .i64),(.int .i64),.bool]),[],none⟩]
noncomputable def qjQ:=qe [(152,q9 jb ja qz),(184,q9 qbw qbH uf)] [(153,Tryz.f153)] [] 0
noncomputable def wA:=qt qjQ 153 Tryz.f153 true kd uY
theorem uS:zb Tryz.prog qa 153 (q9 kd uY wA):=sk qjQ qc q8 (alc wR (alc qk1 aln)) aln (b1 Tryz.func153) Tryz.func153
def jS:FIn:=⟨[.str],[]⟩
def jV:List FOut:=[⟨.str,[],none⟩]
def qbg:Tmpl:={ t:=(.str::qI 13 []),h:=[] }
def qbv:List Out:=[⟨(.exit 0),{ t:=(.str::qI 13 []),h:=[] }⟩]
noncomputable def q6Y:=qe [] [(185,Tryz.f185)] [] 0
noncomputable def q40:=jl q6Y 185 Tryz.f185 2 qbg qbv
theorem qkO:qo Tryz.prog qa q6Y.nimp (qC Tryz.prog q6Y.iter 185) (zH Tryz.f185 2) (ql qbg qbv (qh q40)):=
 gk q6Y qc q8 aln aln (b1 Tryz.func185) Tryz.func185
noncomputable def ql1:=qe [] [(185,Tryz.f185)] [((185,2),ql qbg qbv (qh q40))] 0
noncomputable def zX:=qt ql1 185 Tryz.f185 true jS jV
theorem vW:zb Tryz.prog qa 185 (q9 jS jV zX):=sk ql1 qc q8 aln (alc (lk Tryz.func185 qkO) aln) (b1 Tryz.func185) Tryz.func185
def q4X:FIn:=⟨[.str,.str],[]⟩
def q51:List FOut:=[⟨.bool,[],none⟩]
noncomputable def qlj:=qe [] [(186,Tryz.f186)] [] 0
noncomputable def kf:=qt qlj 186 Tryz.f186 true q4X q51
theorem q5n:zb Tryz.prog qa 186 (q9 q4X q51 kf):=sk qlj qc q8 aln aln (b1 Tryz.func186) Tryz.func186
def qau:FIn:=⟨[.str,(.int .i64)],[]⟩
def qaN:List FOut:=[⟨.str,[],none⟩]
def qbD:Tmpl:={ t:=(.str::(.int .i64)::.any::.any::.any::(.vec 0)::(.int .i64)::qI 20 []),h:=[.vec 5 [(.int .u8)]] }
def qbb:List Out:=[⟨(.exit 0),{ t:=(.str::(.int .i64)::.any::.any::.any::(.vec 0)::qI 21 []),h:=[.vec 5 [(.int .u8)]] }⟩]
noncomputable def q6Q:=qe [] [(216,Tryz.f216)] [] 0
noncomputable def q1D:=jl q6Q 216 Tryz.f216 4 qbD qbb
theorem qjV:qo Tryz.prog qa q6Q.nimp (qC Tryz.prog q6Q.iter 216) (zH Tryz.f216 4) (ql qbD qbb (qh q1D)):=
 gk q6Q qc q8 aln aln (b1 Tryz.func216) Tryz.func216
noncomputable def ql5:=qe [] [(216,Tryz.f216)] [((216,4),ql qbD qbb (qh q1D))] 0
noncomputable def q2x:=qt ql5 216 Tryz.f216 true qau qaN
theorem qfc:zb Tryz.prog qa 216 (q9 qau qaN q2x):=sk ql5 qc q8 aln (alc (lk Tryz.func216 qjV) aln) (b1 Tryz.func216) Tryz.func216
def q6N:FIn:=⟨[(.int .u8),(.int .u8),(.int .i64),.bool],[]⟩
def q6R:List FOut:=[⟨(.tuple [(.int .u8),(.int .i64)]),[],none⟩]
noncomputable def qgW:=qe [] [(217,Tryz.f217)] [] 0
noncomputable def q1F:=qt qgW 217 Tryz.f217 true q6N q6R
theorem qcd:zb Tryz.prog qa 217 (q9 q6N q6R q1F):=sk qgW qc q8 aln aln (b1 Tryz.func217) Tryz.func217
def q2P:FIn:=⟨[.str,.str,.bool],[]⟩
def q3c:List FOut:=[⟨.str,[],none⟩]
def q9G:Tmpl:={ t:=(.str::.str::.bool::qI 5 ((.vec 0)::(.int .i64)::(.int .i64)::qI 38 [])),h:=[.vec 5 [(.int .u8)]] }
def q9M:List Out:=[⟨(.exit 0),{ t:=(qI 8 ((.vec 0)::qI 40 [])),h:=[.vec 5 [(.int .u8)]] }⟩]
noncomputable def q61:=qe [(185,q9 jS jV zX),(216,q9 qau qaN q2x),(217,q9 q6N q6R q1F)] [(187,Tryz.f187)] [] 0
noncomputable def q0E:=jl q61 187 Tryz.f187 7 q9G q9M
theorem qj2:qo Tryz.prog qa q61.nimp (qC Tryz.prog q61.iter 187) (zH Tryz.f187 7) (ql q9G q9M (qh q0E)):=
 gk q61 qc q8 (alc vW (alc qfc (alc qcd aln))) aln (b1 Tryz.func187) Tryz.func187
noncomputable def qiu:=qe [(185,q9 jS jV zX),(216,q9 qau qaN q2x),(217,q9 q6N q6R q1F)] [(187,Tryz.f187)] [((187,7),ql q9G q9M (qh q0E))] 0
noncomputable def vP:=qt qiu 187 Tryz.f187 true q2P q3c
theorem q4D:zb Tryz.prog qa 187 (q9 q2P q3c vP):=sk qiu qc q8 (alc vW (alc qfc (alc qcd aln))) (alc (lk Tryz.func187 qj2) aln) (b1 Tryz.func187) Tryz.func187
def q92:FIn:=⟨[.str,.str],[]⟩
def qa3:List FOut:=[⟨(.tuple [.str,.str]),[],none⟩]
def q5x:Tmpl:={ t:=(.str::.str::qI 4 (.str::.str::(.int .i64)::(.int .u8)::qI 31 [])),h:=[] }
def q5I:List Out:=[⟨(.exit 2),{ t:=(.str::.str::qI 4 (.str::.str::(.int .i64)::(.int .u8)::qI 31 [])),h:=[] }⟩]
noncomputable def q2b:=qe [(185,q9 jS jV zX),(186,q9 q4X q51 kf),(187,q9 q2P q3c vP)] [(154,Tryz.f154)] [] 0
noncomputable def yj:=jl q2b 154 Tryz.f154 11 q5x q5I
theorem qfh:qo Tryz.prog qa q2b.nimp (qC Tryz.prog q2b.iter 154) (zH Tryz.f154 11) (ql q5x q5I (qh yj)):=
 gk q2b qc q8 (alc vW (alc q5n (alc q4D aln))) aln (b1 Tryz.func154) Tryz.func154
def q6h:Tmpl:={ t:=(.str::.str::qI 4 (.str::.str::(.int .i64)::qI 32 [])),h:=[] }
def q6i:List Out:=[⟨(.exit 0),{ t:=(qI 6 (.str::.str::qI 33 [])),h:=[] }⟩]
noncomputable def q35:=qe [(185,q9 jS jV zX),(186,q9 q4X q51 kf),(187,q9 q2P q3c vP)] [(154,Tryz.f154)] [((154,11),ql q5x q5I (qh yj))] 0
noncomputable def q0p:=jl q35 154 Tryz.f154 4 q6h q6i
theorem qgv:qo Tryz.prog qa q35.nimp (qC Tryz.prog q35.iter 154) (zH Tryz.f154 4) (ql q6h q6i (qh q0p)):=
 gk q35 qc q8 (alc vW (alc q5n (alc q4D aln))) (alc (lk Tryz.func154 qfh) aln) (b1 Tryz.func154) Tryz.func154
noncomputable def qfH:=qe [(185,q9 jS jV zX),(186,q9 q4X q51 kf),(187,q9 q2P q3c vP)] [(154,Tryz.f154)] [((154,4),ql q6h q6i (qh q0p))] 0
noncomputable def q2D:=qt qfH 154 Tryz.f154 true q92 qa3
theorem qiy:zb Tryz.prog qa 154 (q9 q92 qa3 q2D):=sk qfH qc q8 (alc vW (alc q5n (alc q4D aln))) (alc (lk Tryz.func154 qgv) aln) (b1 Tryz.func154) Tryz.func154
def qeX:FIn:=⟨[.str,.str],[]⟩
def qfA:List FOut:=[⟨.str,[],none⟩]
noncomputable def qli:=qe [(94,q9 q1L q1N zf),(126,q9 yW yV qN),(151,q9 jN jC qO),(152,q9 jb ja qz),(153,q9 kd uY wA),(186,q9 q4X q51 kf),(187,q9 q2P q3c vP)] [(174,Tryz.f174)] [] 0
noncomputable def q7h:=qt qli 174 Tryz.f174 true qeX qfA
theorem qnx:zb Tryz.prog qa 174 (q9 qeX qfA q7h):=sk qli qc q8 (alc kj (alc yC (alc js (alc wR (alc uS (alc q5n (alc q4D aln))))))) aln (b1 Tryz.func174) Tryz.func174
def qdG:FIn:=⟨[.str,.str],[]⟩
def qdi:List FOut:=[⟨.str,[],none⟩]
noncomputable def qiY:=qe [(124,q9 ua uc zT),(174,q9 qeX qfA q7h)] [(155,Tryz.f155)] [] 0
noncomputable def ki:=qt qiY 155 Tryz.f155 true qdG qdi
theorem qlG:zb Tryz.prog qa 155 (q9 qdG qdi ki):=sk qiY qc q8 (alc uu (alc qnx aln)) aln (b1 Tryz.func155) Tryz.func155
def qaa:FIn:=⟨[.str,.str],[]⟩
def q9c:List FOut:=[⟨.str,[],none⟩]
def q6k:Tmpl:={ t:=(.str::.str::.any::.any::.any::(.vec 0)::(.int .i64)::(.int .i64)::qI 69 []),h:=[.vec 3 [(.int .i64)]] }
def q6I:List Out:=[⟨(.exit 2),{ t:=(.str::.str::.any::.any::.any::(.vec 0)::(.int .i64)::qI 70 []),h:=[.vec 3 [(.int .i64)]] }⟩]
noncomputable def q3i:=qe [(185,q9 jS jV zX)] [(188,Tryz.f188)] [] 0
noncomputable def uw:=jl q3i 188 Tryz.f188 9 q6k q6I
theorem qgy:qo Tryz.prog qa q3i.nimp (qC Tryz.prog q3i.iter 188) (zH Tryz.f188 9) (ql q6k q6I (qh uw)):=
 gk q3i qc q8 (alc vW aln) aln (b1 Tryz.func188) Tryz.func188
def q6A:Tmpl:={ t:=(.str::.str::.any::.any::.any::(.vec 0)::(.int .i64)::qI 70 []),h:=[.vec 3 [(.int .i64)]] }
def q6b:List Out:=[⟨(.exit 0),{ t:=(qI 5 ((.vec 0)::qI 71 [])),h:=[.vec 3 [(.int .i64)]] }⟩]
noncomputable def q2O:=qe [(185,q9 jS jV zX)] [(188,Tryz.f188)] [((188,9),ql q6k q6I (qh uw))] 0
noncomputable def ur:=jl q2O 188 Tryz.f188 4 q6A q6b
theorem qgl:qo Tryz.prog qa q2O.nimp (qC Tryz.prog q2O.iter 188) (zH Tryz.f188 4) (ql q6A q6b (qh ur)):=
 gk q2O qc q8 (alc vW aln) (alc (lk Tryz.func188 qgy) aln) (b1 Tryz.func188) Tryz.func188
def q5z:Tmpl:={ t:=(qI 5 ((.vec 0)::.any::.any::(.vec 1)::(.int .i64)::(.int .i64)::qI 66 [])),h:=[.vec 3 [(.int .i64)],.vec 5 [(.int .u8)]] }
def q5p:List Out:=[⟨(.exit 4),{ t:=(qI 8 ((.vec 1)::qI 68 [])),h:=[.dead,.vec 5 [(.int .u8)]] }⟩]
noncomputable def q1V:=qe [(185,q9 jS jV zX)] [(188,Tryz.f188)] [] 0
noncomputable def ya:=jl q1V 188 Tryz.f188 17 q5z q5p
theorem qeE:qo Tryz.prog qa q1V.nimp (qC Tryz.prog q1V.iter 188) (zH Tryz.f188 17) (ql q5z q5p (qh ya)):=
 gk q1V qc q8 (alc vW aln) aln (b1 Tryz.func188) Tryz.func188
noncomputable def qfI:=qe [(185,q9 jS jV zX)] [(188,Tryz.f188)] [((188,4),ql q6A q6b (qh ur)),((188,17),ql q5z q5p (qh ya))] 0
noncomputable def q0H:=qt qfI 188 Tryz.f188 true qaa q9c
theorem qiA:zb Tryz.prog qa 188 (q9 qaa q9c q0H):=sk qfI qc q8 (alc vW aln) (alc (lk Tryz.func188 qgl) (alc (lk Tryz.func188 qeE) aln)) (b1 Tryz.func188) Tryz.func188
def qcU:FIn:=⟨[.str,.str],[]⟩
def qd1:List FOut:=[⟨.str,[],none⟩]
noncomputable def qiv:=qe [(94,q9 q1L q1N zf),(126,q9 yW yV qN),(151,q9 jN jC qO),(152,q9 jb ja qz),(153,q9 kd uY wA),(188,q9 qaa q9c q0H)] [(156,Tryz.f156)] [] 0
noncomputable def q16:=qt qiv 156 Tryz.f156 true qcU qd1
theorem qlN:zb Tryz.prog qa 156 (q9 qcU qd1 q16):=sk qiv qc q8 (alc kj (alc yC (alc js (alc wR (alc uS (alc qiA aln)))))) aln (b1 Tryz.func156) Tryz.func156
def q1G:FIn:=⟨[.str,.str],[]⟩
def q1I:List FOut:=[⟨(.tuple [.str,.str]),[],none⟩]
noncomputable def qgX:=qe [(94,q9 q1L q1N zf),(126,q9 yW yV qN),(151,q9 jN jC qO),(152,q9 jb ja qz),(153,q9 kd uY wA),(154,q9 q92 qa3 q2D),(155,q9 qdG qdi ki),(156,q9 qcU qd1 q16)] [(127,Tryz.f127)] [] 0
noncomputable def wu:=qt qgX 127 Tryz.f127 true q1G q1I
theorem q2Y:zb Tryz.prog qa 127 (q9 q1G q1I wu):=sk qgX qc q8 (alc kj (alc yC (alc js (alc wR (alc uS (alc qiy (alc qlG (alc qlN aln)))))))) aln (b1 Tryz.func127) Tryz.func127
def qbL:FIn:=⟨[.str,.str],[]⟩
def qbI:List FOut:=[⟨.str,[],none⟩]
def q6w:Tmpl:={ t:=(qI 5 ((.int .i64)::(.int .i64)::qI 36 [])),h:=[] }
def q6f:List Out:=[⟨(.exit 2),{ t:=(qI 5 ((.int .i64)::qI 37 [])),h:=[] }⟩]
noncomputable def q38:=qe [(94,q9 q1L q1N zf),(127,q9 q1G q1I wu),(151,q9 jN jC qO),(152,q9 jb ja qz),(153,q9 kd uY wA)] [(125,Tryz.f125)] [] 0
noncomputable def um:=jl q38 125 Tryz.f125 10 q6w q6f
theorem qgt:qo Tryz.prog qa q38.nimp (qC Tryz.prog q38.iter 125) (zH Tryz.f125 10) (ql q6w q6f (qh um)):=
 gk q38 qc q8 (alc kj (alc q2Y (alc js (alc wR (alc uS aln))))) aln (b1 Tryz.func125) Tryz.func125
def q7F:Tmpl:={ t:=(.str::.str::qI 41 []),h:=[] }
def q7K:List Out:=[⟨(.exit 0),{ t:=(.str::qI 42 []),h:=[] }⟩,⟨.ret,{ t:=(qI 4 (.str::qI 38 [])),h:=[] }⟩]
noncomputable def q4r:=qe [(94,q9 q1L q1N zf),(127,q9 q1G q1I wu),(151,q9 jN jC qO),(152,q9 jb ja qz),(153,q9 kd uY wA)] [(125,Tryz.f125)] [((125,10),ql q6w q6f (qh um))] 0
noncomputable def q1n:=jl q4r 125 Tryz.f125 3 q7F q7K
theorem qi4:qo Tryz.prog qa q4r.nimp (qC Tryz.prog q4r.iter 125) (zH Tryz.f125 3) (ql q7F q7K (qh q1n)):=
 gk q4r qc q8 (alc kj (alc q2Y (alc js (alc wR (alc uS aln))))) (alc (lk Tryz.func125 qgt) aln) (b1 Tryz.func125) Tryz.func125
noncomputable def qh7:=qe [(94,q9 q1L q1N zf),(127,q9 q1G q1I wu),(151,q9 jN jC qO),(152,q9 jb ja qz),(153,q9 kd uY wA)] [(125,Tryz.f125)] [((125,3),ql q7F q7K (qh q1n))] 0
noncomputable def q4c:=qt qh7 125 Tryz.f125 true qbL qbI
theorem qki:zb Tryz.prog qa 125 (q9 qbL qbI q4c):=sk qh7 qc q8 (alc kj (alc q2Y (alc js (alc wR (alc uS aln))))) (alc (lk Tryz.func125 qi4) aln) (b1 Tryz.func125) Tryz.func125
def qbo:FIn:=⟨[.str,.str],[]⟩
def qbf:List FOut:=[⟨.str,[],none⟩]
noncomputable def qgT:=qe [(124,q9 ua uc zT),(125,q9 qbL qbI q4c),(126,q9 yW yV qN),(127,q9 q1G q1I wu)] [(95,Tryz.f95)] [] 0
noncomputable def q3O:=qt qgT 95 Tryz.f95 true qbo qbf
theorem qkk:zb Tryz.prog qa 95 (q9 qbo qbf q3O):=sk qgT qc q8 (alc uu (alc qki (alc yC (alc q2Y aln)))) aln (b1 Tryz.func95) Tryz.func95
def qaZ:FIn:=⟨[(.int .i64),(.int .i64)],[]⟩
def qaY:List FOut:=[⟨.str,[],none⟩]
noncomputable def ql3:=qe [(94,q9 q1L q1N zf),(95,q9 qbo qbf q3O)] [(65,Tryz.f65)] [] 0
noncomputable def q55:=qt ql3 65 Tryz.f65 true qaZ qaY
theorem qfP:zb Tryz.prog qa 65 (q9 qaZ qaY q55):=sk ql3 qc q8 (alc kj (alc qkk aln)) aln (b1 Tryz.func65) Tryz.func65
def q8e:FIn:=⟨[(.agg [(.imm [(.int .i64),(.int .i64),(.int .i64),(.int .i64),(.int .i64),(.int .i64),.bool]),(.imm [(.int .i64),(.int .i64),(.int .i64),(.int .i64),(.int .i64),(.int .i64),.bool])]),(.agg [(.imm [(.int .i64),(.int .i64),(.int .i64)]),(.imm [(.int .i64),(.int .i64),(.int .i64)])])],[]⟩
def q8o:List FOut:=[⟨(.imm [.str,.str,.str]),[],none⟩]
def q9d:Tmpl:={ t:=(.any::.any::(.ptr 0 0)::(.ptr 1 0)::.any::(.vec 2)::(.int .i64)::qI 42 []),h:=[.cells [(.imm [(.int .i64),(.int .i64),(.int .i64),(.int .i64),(.int .i64),(.int .i64),.bool]),(.imm [(.int .i64),(.int .i64),(.int .i64),(.int .i64),(.int .i64),(.int .i64),.bool])],.cells [(.imm [(.int .i64),(.int .i64),(.int .i64)]),(.imm [(.int .i64),(.int .i64),(.int .i64)])],.vec 118 [.str,.str,.str]],pro:=[(5,118,[.str,.str,.str])] }
def q9O:List Out:=[⟨(.exit 0),{ t:=(qI 5 ((.vec 2)::qI 43 [])),h:=[.dead,.dead,.vec 118 [.str,.str,.str]] }⟩]
noncomputable def q5U:=qe [(62,q9 q87 q8L q5i),(63,q9 qar qao q4U),(64,q9 q8U q8w q1g),(65,q9 qaZ qaY q55)] [(30,Tryz.f30)] [] 0
noncomputable def q0D:=jl q5U 30 Tryz.f30 4 q9d q9O
theorem qj4:qo Tryz.prog qa q5U.nimp (qC Tryz.prog q5U.iter 30) (zH Tryz.f30 4) (ql q9d q9O (qh q0D)):=
 gk q5U qc q8 (alc qei (alc qfd (alc qeb (alc qfP aln)))) aln (b1 Tryz.func30) Tryz.func30
noncomputable def qiS:=qe [(62,q9 q87 q8L q5i),(63,q9 qar qao q4U),(64,q9 q8U q8w q1g),(65,q9 qaZ qaY q55)] [(30,Tryz.f30)] [((30,4),ql q9d q9O (qh q0D))] 0
noncomputable def q30:=qt qiS 30 Tryz.f30 true q8e q8o
theorem qdT:zb Tryz.prog qa 30 (q9 q8e q8o q30):=sk qiS qc q8 (alc qei (alc qfd (alc qeb (alc qfP aln)))) (alc (lk Tryz.func30 qj4) aln) (b1 Tryz.func30) Tryz.func30
end Go.Eng

namespace Go.Eng
open Go.Proofs
def q3p:FIn:=⟨[(.agg [(.imm [(.int .i64),(.int .i64),(.int .i64),(.int .i64),(.int .i64),(.int .i64),.bool]),(.imm [(.int .i64),(.int .i64),(.int .i64),(.int .i64),(.int .i64),(.int .i64),.bool])]),(.agg [(.imm [(.int .i64),(.int .i64),(.int .i64)]),(.imm [(.int .i64),(.int .i64),(.int .i64)])])],[]⟩
def q2R:List FOut:=[⟨.bool,[],none⟩]
noncomputable def qiz:=qe [(19,q9 qhG qhk q9i),(51,q9 q8y q8a q0Z)] [(26,Tryz.f26)] [] 0
noncomputable def vR:=qt qiz 26 Tryz.f26 true q3p q2R
theorem q4k:zb Tryz.prog qa 26 (q9 q3p q2R vR):=sk qiz qc q8 (alc qoD (alc qec aln)) aln (b1 Tryz.func26) Tryz.func26
def zB:FIn:=⟨[(.imm [(.int .i64),(.int .i64),(.int .i64)])],[]⟩
def zz:List FOut:=[⟨(.vec 0),[.vec 60 [(.int .i64),(.int .i64),(.int .i64)]],none⟩]
noncomputable def uh:=qe [] [(28,Tryz.f28)] [] 0
noncomputable def qA:=qt uh 28 Tryz.f28 false zB zz
theorem jX:zb Tryz.prog qa 28 (q9 zB zz qA):=qkW (E:=uh) qc ⟨q53 q8,aln,aln,(b1 Tryz.func28)⟩ Tryz.func28 (by kernel_rfl) (by kernel_rfl) (fun _=>rfl)
def q2h:FIn:=⟨[(.agg [(.imm [(.int .i64),(.int .i64),(.int .i64),(.int .i64),(.int .i64),(.int .i64),.bool]),(.imm [(.int .i64),(.int .i64),(.int .i64),(.int .i64),(.int .i64),(.int .i64),.bool])]),(.agg [(.imm [(.int .i64),(.int .i64),(.int .i64)]),(.imm [(.int .i64),(.int .i64),(.int .i64)])]),(.agg [(.int .i64),(.int .i64)])],[]⟩
def q2r:List FOut:=[⟨.bool,[],none⟩]
def q0b:Tmpl:={ t:=(.any::.any::.any::(.ptr 0 0)::.any::(.ptr 2 0)::.any::.any::.any::.bool::.any::.any::(.imm [(.int .i64)])::.any::(.ptr 4 0)::qI 68 ((.int .i64)::(.int .i64)::qI 64 [])),h:=[.cells [(.imm [(.int .i64),(.int .i64),(.int .i64),(.int .i64),(.int .i64),(.int .i64),.bool]),(.imm [(.int .i64),(.int .i64),(.int .i64),(.int .i64),(.int .i64),(.int .i64),.bool])],.dead,.cells [(.int .i64),(.int .i64)],.dead,.cells [(.vec 5),(.imm [(.int .i64),(.int .i64),(.int .i64)])],.vec 60 [(.int .i64),(.int .i64),(.int .i64)]] }
def q0Q:List Out:=[⟨(.exit 0),{ t:=(.any::.any::.any::(.ptr 0 0)::qI 5 (.bool::.any::.any::(.imm [(.int .i64)])::.any::(.ptr 4 0)::qI 134 [])),h:=[.cells [(.imm [(.int .i64),(.int .i64),(.int .i64),(.int .i64),(.int .i64),(.int .i64),.bool]),(.imm [(.int .i64),(.int .i64),(.int .i64),(.int .i64),(.int .i64),(.int .i64),.bool])],.dead,.dead,.dead,.cells [(.vec 5),(.imm [(.int .i64),(.int .i64),(.int .i64)])],.vec 60 [(.int .i64),(.int .i64),(.int .i64)]] }⟩]
noncomputable def yt:Env:={ tt:=q7L,glob:=qa,spec:=[(11,q9 q3d q3m zp),(18,q9 jh jg qK),(20,q9 kp uZ wc),(22,q9 vh ve qv),(24,q9 yE yw z7),(26,q9 q3p q2R vR),(27,q9 q2F q2N va),(28,q9 zB zz qA)],body:=[(6,Tryz.f6)],loops:=[],nimp:=0,raws:=[28] }
noncomputable def zw:=jl yt 6 Tryz.f6 13 q0b q0Q
theorem q9v:qo Tryz.prog qa yt.nimp (qC Tryz.prog yt.iter 6) (zH Tryz.f6 13) (ql q0b q0Q (qh zw)):=
 gk yt qc q8 (alc q4q (alc kQ (alc q2v (alc jj (alc uB (alc q4k (alc q4m (alc jX aln)))))))) aln (b1 Tryz.func6) Tryz.func6
noncomputable def qW:Env:={ tt:=q7L,glob:=qa,spec:=[(11,q9 q3d q3m zp),(18,q9 jh jg qK),(20,q9 kp uZ wc),(22,q9 vh ve qv),(24,q9 yE yw z7),(26,q9 q3p q2R vR),(27,q9 q2F q2N va),(28,q9 zB zz qA)],body:=[(6,Tryz.f6)],loops:=[((6,13),ql q0b q0Q (qh zw))],nimp:=0,raws:=[28] }
noncomputable def jP:=qt qW 6 Tryz.f6 true q2h q2r
theorem qcq:zb Tryz.prog qa 6 (q9 q2h q2r jP):=sk qW qc q8 (alc q4q (alc kQ (alc q2v (alc jj (alc uB (alc q4k (alc q4m (alc jX aln)))))))) (alc (lk Tryz.func6 q9v) aln) (b1 Tryz.func6) Tryz.func6
def q6K:FIn:=⟨[(.imm [.str,.str,.str]),(.agg [(.int .i64),(.int .i64),(.int .i64)])],[]⟩
def q6J:List FOut:=[⟨(.tuple [.bool,(.int .i64)]),[],none⟩]
noncomputable def qh5:=qe [(60,q9 j8 jf zI),(61,q9 wn wi qQ)] [(29,Tryz.f29)] [] 0
noncomputable def q1K:=qt qh5 29 Tryz.f29 true q6K q6J
theorem qco:zb Tryz.prog qa 29 (q9 q6K q6J q1K):=sk qh5 qc q8 (alc wV (alc wM aln)) aln (b1 Tryz.func29) Tryz.func29
def q1T:FIn:=⟨[(.agg [(.imm [(.int .i64),(.int .i64),(.int .i64),(.int .i64),(.int .i64),(.int .i64),.bool]),(.imm [(.int .i64),(.int .i64),(.int .i64),(.int .i64),(.int .i64),(.int .i64),.bool])]),(.agg [(.imm [(.int .i64),(.int .i64),(.int .i64)]),(.imm [(.int .i64),(.int .i64),(.int .i64)])])],[]⟩
def q1S:List FOut:=[⟨.bool,[],none⟩]
def kK:Tmpl:={ t:=(.any::.any::(.ptr 0 0)::(.ptr 1 0)::qI 4 ((.imm [(.int .i64)])::.any::.any::.any::(.ptr 3 0)::(.ptr 4 0)::qI 43 ((.imm [(.int .i64)])::(.int .i64)::(.int .i64)::qI 74 []))),h:=[.cells [(.imm [(.int .i64),(.int .i64),(.int .i64),(.int .i64),(.int .i64),(.int .i64),.bool]),(.imm [(.int .i64),(.int .i64),(.int .i64),(.int .i64),(.int .i64),(.int .i64),.bool])],.cells [(.imm [(.int .i64),(.int .i64),(.int .i64)]),(.imm [(.int .i64),(.int .i64),(.int .i64)])],.dead,.cells [(.vec 5),(.vec 6)],.cells [(.vec 7),(.vec 8)],.vec 68 [(.int .i64),(.int .i64),(.int .i64),(.int .i64),(.int .i64),(.int .i64),.bool],.vec 68 [(.int .i64),(.int .i64),(.int .i64),(.int .i64),(.int .i64),(.int .i64),.bool],.vec 60 [(.int .i64),(.int .i64),(.int .i64)],.vec 60 [(.int .i64),(.int .i64),(.int .i64)]],prc:=[(12,0,68,[(.int .i64),(.int .i64),(.int .i64),(.int .i64),(.int .i64),(.int .i64),.bool]),(12,1,68,[(.int .i64),(.int .i64),(.int .i64),(.int .i64),(.int .i64),(.int .i64),.bool]),(13,0,60,[(.int .i64),(.int .i64),(.int .i64)]),(13,1,60,[(.int .i64),(.int .i64),(.int .i64)])],sw:=[(1000012,5),(2000012,6),(1000013,7),(2000013,8)],swn:=0 }
def kV:List Out:=[⟨(.exit 0),{ t:=(qI 8 ((.imm [(.int .i64)])::.any::.any::.any::(.ptr 3 0)::(.ptr 4 0)::qI 120 [])),h:=[.dead,.dead,.dead,.cells [(.vec 5),(.vec 6)],.cells [(.vec 7),(.vec 8)],.vec 68 [(.int .i64),(.int .i64),(.int .i64),(.int .i64),(.int .i64),(.int .i64),.bool],.vec 68 [(.int .i64),(.int .i64),(.int .i64),(.int .i64),(.int .i64),(.int .i64),.bool],.vec 60 [(.int .i64),(.int .i64),(.int .i64)],.vec 60 [(.int .i64),(.int .i64),(.int .i64)]] }⟩,⟨.ret,{ t:=(qI 4 (.bool::qI 129 [])),h:=[] }⟩]
noncomputable def jF:=qe [(11,q9 q3d q3m zp),(22,q9 vh ve qv),(24,q9 yE yw z7),(26,q9 q3p q2R vR),(29,q9 q6K q6J q1K),(30,q9 q8e q8o q30)] [(7,Tryz.f7)] [] 0
noncomputable def zU:=jl jF 7 Tryz.f7 17 kK kV
theorem q8E:qo Tryz.prog qa jF.nimp (qC Tryz.prog jF.iter 7) (zH Tryz.f7 17) (ql kK kV (qh zU)):=
 gk jF qc q8 (alc q4q (alc jj (alc uB (alc q4k (alc qco (alc qdT aln)))))) aln (b1 Tryz.func7) Tryz.func7
noncomputable def zo:=qe [(11,q9 q3d q3m zp),(22,q9 vh ve qv),(24,q9 yE yw z7),(26,q9 q3p q2R vR),(29,q9 q6K q6J q1K),(30,q9 q8e q8o q30)] [(7,Tryz.f7)] [((7,17),ql kK kV (qh zU))] 0
noncomputable def ji:=qt zo 7 Tryz.f7 true q1T q1S
theorem qbp:zb Tryz.prog qa 7 (q9 q1T q1S ji):=sk zo qc q8 (alc q4q (alc jj (alc uB (alc q4k (alc qco (alc qdT aln)))))) (alc (lk Tryz.func7 q8E) aln) (b1 Tryz.func7) Tryz.func7
end Go.Eng

