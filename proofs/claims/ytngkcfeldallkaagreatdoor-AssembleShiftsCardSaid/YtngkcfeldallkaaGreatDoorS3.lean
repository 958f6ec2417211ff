/- Texts of the proof, merged: what the code computes, and plain laws. No statement stands here. -/
import Derived.KernelRfl
import Derived.Shelf.Strings.SlTrimAscii
import Derived.Shelf.Strings.Search2
import Derived.Shelf.Small.Strs
import Derived.Shelf.Strconv.Itoa3
import Derived.Shelf.Strconv.Atoi
import Derived.Shelf.Strings.BuilderK
import Derived.Shelf.LaysM
import Derived.Test.YtngkcfeldallkaaGreatDoorProg
import Derived.WalkKit
import Derived.BigCall
import Derived.Deep.RegionWith
import Derived.Laws.Externs
import Derived.Lib.Builder
import Derived.Lib.AppendStr
import Derived.Test.YtngkcfeldallkaaGreatDoorS2
namespace Go.Eng
inductive PK where
 | i|b|s|r
inductive PV where
 | i (n:Int)|b (x:Bool)|s (l:List UInt8)|r (l:R)
def PV.kind:PV→PK|.i _=>.i|.b _=>.b|.s _=>.s|.r _=>.r
def PV.toI:PV→Int|.i n=>n|_=>0
def PV.toB:PV→Bool|.b x=>x|_=>false
def PV.toS:PV→List UInt8|.s x=>x|_=>[]
def PV.toR:PV→R|.r x=>x|_=>[]
inductive AP where
 | any|yld
 | int (k:IntKind)|bool|str|blit (b:Bool)
 | nilp|ptr (b off:Nat)|eptr (sh:List Sh) (off:Nat)|mptr (sh:List Sh) (off:Nat)|vptr (b off:Nat)
 | nils|imm (sh:List Sh)|vec (b:Nat)
 | nilf|fn (f:FuncId) (first caps:List AP)
 | agg (l:List AP)|tuple (l:List AP)
def qA:Nat→List AP→List AP
 | 0,l=>l
 | n+1,l=>.any::qA n l
def qAJ:Option (List PV)→Option (List PV)→Option (List PV)
 | some a,some b=>some (a++b)
 | _,_=>none
mutual
def AP.take:AP→AV→Option (List PV)
 | .any,_=>some []
 | .yld,.yld=>some []
 | .int k,.int k' n=>if k=k' then some [.i n] else none
 | .int k,.ilit k' n=>if k=k' then some [.i n] else none
 | .bool,.bool b=>some [.b b]
 | .bool,.blit b=>some [.b b]
 | .str,.str s=>some [.s s]
 | .blit b,.blit b'=>if b=b' then some [] else none
 | .nilp,.nilp=>some []
 | .ptr b off,.ptr b' off'=>if b=b'∧off=off' then some [] else none
 | .eptr sh off,.eptr sh' l i off'=>if Sh.beqL sh sh'=true∧off=off' then some [.r l,.i i] else none
 | .mptr _ _,.nilp=>some [.b false,.r [],.i 0]
 | .mptr sh off,.eptr sh' l i off'=>if Sh.beqL sh sh'=true∧off=off' then some [.b true,.r l,.i i] else none
 | .mptr sh off,.mptr c sh' l i off'=>if Sh.beqL sh sh'=true∧off=off' then some [.b c,.r l,.i i] else none
 | .vptr b off,.vptr b' i off'=>if b=b'∧off=off' then some [.i i] else none
 | .nils,.nils=>some []
 | .imm sh,.imm sh' l=>if Sh.beqL sh sh'=true then some [.r l] else none
 | .imm _,.nils=>some [.r []]
 | .vec b,.vec b'=>if b=b' then some [] else none
 | .nilf,.nilf=>some []
 | .fn f p q,.fn g a c=>if f=g then qAJ (AP.takeL p a) (AP.takeL q c) else none
 | .agg l,.agg a=>AP.takeL l a
 | .tuple l,.tuple a=>AP.takeL l a
 | _,_=>none
def AP.takeL:List AP→List AV→Option (List PV)
 | [],[]=>some []
 | p::l,a::azz=>qAJ (p.take a) (AP.takeL l azz)
 | _,_=>none
end
mutual
def AP.make:AP→List PV→AV×List PV
 | .any,ps=>(.undef,ps)
 | .yld,ps=>(.yld,ps)
 | .int k,.i n::ps=>(.int k n,ps)
 | .bool,.b x::ps=>(.bool x,ps)
 | .str,.s x::ps=>(.str x,ps)
 | .blit b,ps=>(.blit b,ps)
 | .nilp,ps=>(.nilp,ps)
 | .ptr b off,ps=>(.ptr b off,ps)
 | .eptr sh off,.r l::.i i::ps=>(.eptr sh l i off,ps)
 | .mptr sh off,.b c::.r l::.i i::ps=>(.mptr c sh l i off,ps)
 | .vptr b off,.i i::ps=>(.vptr b i off,ps)
 | .nils,ps=>(.nils,ps)
 | .imm sh,.r l::ps=>(.imm sh l,ps)
 | .vec b,ps=>(.vec b,ps)
 | .nilf,ps=>(.nilf,ps)
 | .fn f p q,ps=>let x:=AP.makeL p ps;let y:=AP.makeL q x.2;(.fn f x.1 y.1,y.2)
 | .agg l,ps=>let x:=AP.makeL l ps;(.agg x.1,x.2)
 | .tuple l,ps=>let x:=AP.makeL l ps;(.tuple x.1,x.2)
 | _,ps=>(.undef,ps)
def AP.makeL:List AP→List PV→List AV×List PV
 | [],ps=>([],ps)
 | p::l,ps=>let x:=p.make ps;let y:=AP.makeL l x.2;(x.1::y.1,y.2)
end
mutual
def AP.kinds:AP→List PK
 | .int _=>[.i]|.bool=>[.b]|.str=>[.s]
 | .eptr _ _=>[.r,.i]|.mptr _ _=>[.b,.r,.i]|.vptr _ _=>[.i]|.imm _=>[.r]
 | .fn _ p q=>AP.kindsL p++AP.kindsL q
 | .agg l=>AP.kindsL l
 | .tuple l=>AP.kindsL l
 | _=>[]
def AP.kindsL:List AP→List PK
 | []=>[]
 | p::l=>p.kinds++AP.kindsL l
end
theorem q42{a b:Option (List PV)}{c:List PV}(h:qAJ a b=some c):∃x y,a=some x∧b=some y∧c=x++y:=by
 cases a<;>cases b<;>simp[qAJ] at h
 exact⟨_,_,rfl,rfl,h.symm⟩
mutual
theorem AP.take_ok{X:Ctx}:∀(p:AP) (a:AV) (ps rest:List PV),p.take a=some ps→(p.make (ps++rest)).2=rest∧ps.map PV.kind=p.kinds∧∀v,Rep X a v→Rep X (p.make (ps++rest)).1 v
 | .any,a,ps,rest,h=>by simp only[AP.take,Option.some.injEq] at h;subst h;exact⟨rfl,rfl,fun v _=>.undef v⟩
 | .yld,a,ps,rest,h=>by
  cases a<;>simp only[AP.take] at h<;>first|(cases h;done)|skip
  cases h;exact⟨rfl,rfl,fun v hv=>hv⟩
 | .int k,a,ps,rest,h=>by
  cases a<;>simp only[AP.take] at h<;>first|(cases h;done)|skip
  all_goals
   split at h
   ·rename_i hk;cases h;subst hk
    refine⟨rfl,rfl,fun v hv=>?_⟩
    cases hv
    exact .int _ _
   ·cases h
 | .bool,a,ps,rest,h=>by
  cases a<;>simp only[AP.take] at h<;>first|(cases h;done)|skip
  all_goals
   cases h
   refine⟨rfl,rfl,fun v hv=>?_⟩
   cases hv
   exact .bool _
 | .str,a,ps,rest,h=>by
  cases a<;>simp only[AP.take] at h<;>first|(cases h;done)|skip
  cases h
  exact⟨rfl,rfl,fun v hv=>hv⟩
 | .blit b,a,ps,rest,h=>by
  cases a<;>simp only[AP.take] at h<;>first|(cases h;done)|skip
  split at h
  ·rename_i hb;cases h;subst hb;exact⟨rfl,rfl,fun v hv=>hv⟩
  ·cases h
 | .nilp,a,ps,rest,h=>by
  cases a<;>simp only[AP.take] at h<;>first|(cases h;done)|skip
  cases h;exact⟨rfl,rfl,fun v hv=>hv⟩
 | .ptr b off,a,ps,rest,h=>by
  cases a<;>simp only[AP.take] at h<;>first|(cases h;done)|skip
  split at h
  ·rename_i hb;cases h;obtain⟨rfl,rfl⟩:=hb;exact⟨rfl,rfl,fun v hv=>hv⟩
  ·cases h
 | .eptr sh off,a,ps,rest,h=>by
  cases a<;>simp only[AP.take] at h<;>first|(cases h;done)|skip
  split at h
  ·rename_i hb;cases h;obtain⟨hb,rfl⟩:=hb;have:=Sh.beqL_eq _ _ hb;subst this;exact⟨rfl,rfl,fun v hv=>hv⟩
  ·cases h
 | .mptr sh off,a,ps,rest,h=>by
  cases a<;>simp only[AP.take] at h<;>first|(cases h;done)|skip
  ·cases h
   refine⟨rfl,rfl,fun v hv=>?_⟩
   cases hv
   exact .mnil _ _ _ _
  ·split at h
   ·rename_i hb;cases h;obtain⟨hb,rfl⟩:=hb;have:=Sh.beqL_eq _ _ hb;subst this
    refine⟨rfl,rfl,fun v hv=>?_⟩
    cases hv with
    | eptr _ _ _ _ a h1 h2 h3 h4=>exact .mptr _ _ _ _ a h1 h2 h3 h4
   ·cases h
  ·split at h
   ·rename_i hb;cases h;obtain⟨hb,rfl⟩:=hb;have:=Sh.beqL_eq _ _ hb;subst this;exact⟨rfl,rfl,fun v hv=>hv⟩
   ·cases h
 | .vptr b off,a,ps,rest,h=>by
  cases a<;>simp only[AP.take] at h<;>first|(cases h;done)|skip
  split at h
  ·rename_i hb;cases h;obtain⟨rfl,rfl⟩:=hb;exact⟨rfl,rfl,fun v hv=>hv⟩
  ·cases h
 | .nils,a,ps,rest,h=>by
  cases a<;>simp only[AP.take] at h<;>first|(cases h;done)|skip
  cases h;exact⟨rfl,rfl,fun v hv=>hv⟩
 | .imm sh,a,ps,rest,h=>by
  cases a<;>simp only[AP.take] at h<;>first|(cases h;done)|skip
  ·cases h
   refine⟨rfl,rfl,fun v hv=>?_⟩
   cases hv
   exact .imm _ _ _ (.inl ⟨rfl,rfl⟩)
  ·split at h
   ·rename_i hb;cases h;have:=Sh.beqL_eq _ _ hb;subst this;exact⟨rfl,rfl,fun v hv=>hv⟩
   ·cases h
 | .vec b,a,ps,rest,h=>by
  cases a<;>simp only[AP.take] at h<;>first|(cases h;done)|skip
  split at h
  ·rename_i hb;cases h;subst hb;exact⟨rfl,rfl,fun v hv=>hv⟩
  ·cases h
 | .nilf,a,ps,rest,h=>by
  cases a<;>simp only[AP.take] at h<;>first|(cases h;done)|skip
  cases h;exact⟨rfl,rfl,fun v hv=>hv⟩
 | .fn f p q,a,ps,rest,h=>by
  cases a<;>simp only[AP.take] at h<;>first|(cases h;done)|skip
  rename_i g a c
  split at h
  ·rename_i hf;subst hf
   obtain⟨x,y,h1,h2,rfl⟩:=q42 h
   obtain⟨a1,a2,a3⟩:=AP.takeL_ok (X:=X) p a x (y++rest) h1
   obtain⟨b1,b2,b3⟩:=AP.takeL_ok (X:=X) q c y rest h2
   simp only[AP.make,List.append_assoc,a1,b1,AP.kinds,List.map_append,a2,b2,true_and]
   intro v hv
   cases hv with
   | fn _ _ _ vf vc g1 g2=>exact .fn _ _ _ vf vc (a3 _ g1) (b3 _ g2)
  ·cases h
 | .agg l,a,ps,rest,h=>by
  cases a<;>simp only[AP.take] at h<;>first|(cases h;done)|skip
  obtain⟨a1,a2,a3⟩:=AP.takeL_ok (X:=X) l _ ps rest h
  simp only[AP.make,a1,AP.kinds,a2,true_and]
  intro v hv
  cases hv with
  | agg _ vs g=>exact .agg _ vs (a3 _ g)
 | .tuple l,a,ps,rest,h=>by
  cases a<;>simp only[AP.take] at h<;>first|(cases h;done)|skip
  obtain⟨a1,a2,a3⟩:=AP.takeL_ok (X:=X) l _ ps rest h
  simp only[AP.make,a1,AP.kinds,a2,true_and]
  intro v hv
  cases hv with
  | tuple _ vs g=>exact .tuple _ vs (a3 _ g)
theorem AP.takeL_ok{X:Ctx}:∀(p:List AP) (a:List AV) (ps rest:List PV),AP.takeL p a=some ps→(AP.makeL p (ps++rest)).2=rest∧ps.map PV.kind=AP.kindsL p∧∀v,RepL X a v→RepL X (AP.makeL p (ps++rest)).1 v
 | [],a,ps,rest,h=>by
  cases a<;>simp only[AP.takeL] at h<;>cases h
  exact⟨rfl,rfl,fun v hv=>hv⟩
 | p::l,a,ps,rest,h=>by
  cases a with
  | nil=>simp only[AP.takeL] at h;cases h
  | cons a azz=>
   simp only[AP.takeL] at h
   obtain⟨x,y,h1,h2,rfl⟩:=q42 h
   obtain⟨a1,a2,a3⟩:=AP.take_ok (X:=X) p a x (y++rest) h1
   obtain⟨b1,b2,b3⟩:=AP.takeL_ok (X:=X) l azz y rest h2
   simp only[AP.makeL,List.append_assoc,a1,b1,AP.kindsL,List.map_append,a2,b2,true_and]
   intro v hv
   cases hv with
   | cons g1 g2=>exact .cons (a3 _ g1) (b3 _ g2)
end
def AP.takeLL:List (List AP)→List (List AV)→Option (List PV)
 | [],[]=>some []
 | p::l,a::azz=>qAJ (AP.takeL p a) (AP.takeLL l azz)
 | _,_=>none
def AP.makeLL:List (List AP)→List PV→List (List AV)×List PV
 | [],ps=>([],ps)
 | p::l,ps=>let x:=AP.makeL p ps;let y:=AP.makeLL l x.2;(x.1::y.1,y.2)
def AP.kindsLL:List (List AP)→List PK
 | []=>[]
 | p::l=>AP.kindsL p++AP.kindsLL l
theorem AP.takeLL_ok{X:Ctx}:∀(p:List (List AP)) (a:List (List AV)) (ps rest:List PV),AP.takeLL p a=some ps→(AP.makeLL p (ps++rest)).2=rest∧ps.map PV.kind=AP.kindsLL p∧∀v,RepLL X a v→RepLL X (AP.makeLL p (ps++rest)).1 v
 | [],a,ps,rest,h=>by
  cases a<;>simp only[AP.takeLL] at h<;>cases h
  exact⟨rfl,rfl,fun v hv=>hv⟩
 | p::l,a,ps,rest,h=>by
  cases a with
  | nil=>simp only[AP.takeLL] at h;cases h
  | cons a azz=>
   simp only[AP.takeLL] at h
   obtain⟨x,y,h1,h2,rfl⟩:=q42 h
   obtain⟨a1,a2,a3⟩:=AP.takeL_ok (X:=X) p a x (y++rest) h1
   obtain⟨b1,b2,b3⟩:=AP.takeLL_ok (X:=X) l azz y rest h2
   simp only[AP.makeLL,List.append_assoc,a1,b1,AP.kindsLL,List.map_append,a2,b2,true_and]
   intro v hv
   cases hv with
   | cons g1 g2=>exact .cons (a3 _ g1) (b3 _ g2)
inductive BP where
 | cells (l:List AP)|big (l:List AP) (k:IntKind) (n:Nat)|vec (e:TypeId) (sh:List Sh)|frz (e:TypeId) (sh:List Sh)|dead
def BP.take:BP→Blk→Option (List PV)
 | .cells l,.cells cs=>AP.takeL l cs
 | .big l k n,.big cs k' n' r=>if k=k'∧n=n' then qAJ (AP.takeL l cs) (some [.r r]) else none
 | .vec e sh,.vec e' sh' l=>if e=e'∧Sh.beqL sh sh'=true then some [.r l] else none
 | .frz e sh,.frz e' sh' l=>if e=e'∧Sh.beqL sh sh'=true then some [.r l] else none
 | .dead,_=>some []
 | _,_=>none
def BP.make:BP→List PV→Blk×List PV
 | .cells l,ps=>let x:=AP.makeL l ps;(.cells x.1,x.2)
 | .big l k n,ps=>let x:=AP.makeL l ps;match x.2 with
  | .r r::qs=>(.big x.1 k n r,qs)
  | qs=>(.dead,qs)
 | .vec e sh,.r l::ps=>(.vec e sh l,ps)
 | .frz e sh,.r l::ps=>(.frz e sh l,ps)
 | _,ps=>(.dead,ps)
def BP.kinds:BP→List PK
 | .cells l=>AP.kindsL l
 | .big l _ _=>AP.kindsL l++[.r]
 | .vec _ _=>[.r]
 | .frz _ _=>[.r]
 | .dead=>[]
def BP.takeL:List BP→List Blk→Option (List PV)
 | [],[]=>some []
 | p::l,b::bs=>qAJ (p.take b) (BP.takeL l bs)
 | _,_=>none
def BP.makeL:List BP→List PV→List Blk×List PV
 | [],ps=>([],ps)
 | p::l,ps=>let x:=p.make ps;let y:=BP.makeL l x.2;(x.1::y.1,y.2)
def BP.kindsL:List BP→List PK
 | []=>[]
 | p::l=>p.kinds++BP.kindsL l
def BP.isCells:BP→Bool
 | .cells _|.big _ _ _=>true
 | _=>false
theorem BP.take_ok{X:Ctx}(p:BP)(k:Blk)(ps rest:List PV)(h:p.take k=some ps):(p.make (ps++rest)).2=rest∧ps.map PV.kind=p.kinds∧Wk X k (p.make (ps++rest)).1 ∧
  (p.isCells=true→(p.make (ps++rest)).1.solid=true):=by
 cases p with
 | cells l=>
  cases k<;>simp only[BP.take] at h<;>first|(cases h;done)|skip
  obtain⟨a1,a2,a3⟩:=AP.takeL_ok (X:=X) l _ ps rest h
  simp only[BP.make,a1,BP.kinds,a2,true_and]
  exact⟨.inr (.inr (.inl ⟨_,_,rfl,rfl,a3⟩)),fun _=>rfl⟩
 | big l kk n=>
  cases k<;>simp only[BP.take] at h<;>first|(cases h;done)|skip
  split at h
  ·rename_i hb;obtain⟨rfl,rfl⟩:=hb
   obtain⟨x,y,h1,h2,rfl⟩:=q42 h
   cases h2
   rename_i cs r
   obtain⟨a1,a2,a3⟩:=AP.takeL_ok (X:=X) l _ x ([.r r]++rest) h1
   simp only[List.cons_append,List.nil_append] at a1 a3
   simp only[BP.make,List.append_assoc,a1,List.cons_append,List.nil_append,BP.kinds,List.map_append,a2,List.map_cons,List.map_nil,PV.kind,true_and]
   exact⟨.inr (.inr (.inr ⟨_,_,_,_,_,rfl,rfl,a3⟩)),fun _=>rfl⟩
  ·cases h
 | vec e sh=>
  cases k<;>simp only[BP.take] at h<;>first|(cases h;done)|skip
  split at h
  ·rename_i hb;cases h;obtain⟨rfl,hb⟩:=hb;have:=Sh.beqL_eq _ _ hb;subst this;exact⟨rfl,rfl,.inr (.inl rfl),fun h=>by cases h⟩
  ·cases h
 | frz e sh=>
  cases k<;>simp only[BP.take] at h<;>first|(cases h;done)|skip
  split at h
  ·rename_i hb;cases h;obtain⟨rfl,hb⟩:=hb;have:=Sh.beqL_eq _ _ hb;subst this;exact⟨rfl,rfl,.inr (.inl rfl),fun h=>by cases h⟩
  ·cases h
 | dead=>
  have:ps=[]:=by cases k<;>simp[BP.take] at h<;>exact h
  subst this
  exact⟨rfl,rfl,.inl rfl,fun h=>by cases h⟩
theorem BP.takeL_ok{X:Ctx}:∀(p:List BP) (k:List Blk) (ps rest:List PV),BP.takeL p k=some ps→(BP.makeL p (ps++rest)).2=rest∧ps.map PV.kind=BP.kindsL p ∧
  (BP.makeL p (ps++rest)).1.length=k.length∧p.length=k.length∧∀(b:Nat) (k':Blk),(BP.makeL p (ps++rest)).1[b]?=some k'→∃k0,k[b]?=some k0∧Wk X k0 k'∧∀q:BP,p[b]?=some q→q.isCells=true→k'.solid=true
 | [],k,ps,rest,h=>by
  cases k<;>simp only[BP.takeL] at h<;>cases h
  exact⟨rfl,rfl,rfl,rfl,fun b k' hb=>by simp[BP.makeL] at hb⟩
 | p::l,k,ps,rest,h=>by
  cases k with
  | nil=>simp only[BP.takeL] at h;cases h
  | cons k ks=>
   simp only[BP.takeL] at h
   obtain⟨x,y,h1,h2,rfl⟩:=q42 h
   obtain⟨a1,a2,a3,a4⟩:=BP.take_ok (X:=X) p k x (y++rest) h1
   obtain⟨b1,b2,b3,b4,b5⟩:=BP.takeL_ok (X:=X) l ks y rest h2
   simp only[BP.makeL,List.append_assoc,a1,b1,BP.kindsL,List.map_append,a2,b2,List.length_cons,b3,b4,true_and]
   intro b k' hb
   cases b with
   | zero=>
    simp only[List.getElem?_cons_zero,Option.some.injEq] at hb
    subst hb
    exact⟨k,rfl,a3,fun q hq hc=>by simp only[List.getElem?_cons_zero,Option.some.injEq] at hq;subst hq;exact a4 hc⟩
   | succ b=>
    simp only[List.getElem?_cons_succ] at hb ⊢
    exact b5 b k' hb
def qww(n:Nat):Nat→Option Nat:=fun b=>if Nat.blt b n then some b else none
theorem qBK{n b b':Nat}(h:qww n b=some b'):b'=b∧b<n:=by
 unfold qww at h
 split at h
 ·rename_i hb;cases h;exact⟨rfl,by simpa[Nat.blt_eq] using hb⟩
 ·cases h
def Ctx.cut(X:Ctx)(n:Nat):Ctx:={ X with h:=(X.h.take n).map (Blk.ren (qww n)) }
theorem Ctx.cut_get{X:Ctx}{n b:Nat}{k:Blk}(h:(X.cut n).h[b]?=some k):b<n∧∃k0,X.h[b]?=some k0∧k=k0.ren (qww n):=by
 have h':((X.h.take n).map (Blk.ren (qww n)))[b]?=some k:=h
 rw[List.getElem?_map,List.getElem?_take] at h'
 split at h'
 ·rename_i hb
  refine⟨hb,?_⟩
  cases hk:X.h[b]? with
  | none=>rw[hk] at h';cases h'
  | some k0=>rw[hk] at h';exact⟨k0,rfl,(Option.some.inj h').symm⟩
 ·cases h'
theorem qyu{B:Base}{X:Ctx}(hs:HSim B X){n:Nat}(hn:B.imps.length≤n):HSim B (X.cut n)∧Move X (X.cut n) (qww n):=by
 have hvec:∀b sh m,(X.cut n).isVec b sh m→X.isVec b sh m:=by
  intro b sh m ⟨e,l,h1,h2⟩
  refine⟨e,l,?_,h2⟩
  rcases h1 with h1|h1
  ·obtain⟨_,k0,h3,h4⟩:=Ctx.cut_get h1
   cases k0<;>simp[Blk.ren] at h4
   obtain⟨rfl,rfl,rfl⟩:=h4;exact .inl h3
  ·obtain⟨_,k0,h3,h4⟩:=Ctx.cut_get h1
   cases k0<;>simp[Blk.ren] at h4
   obtain⟨rfl,rfl,rfl⟩:=h4;exact .inr h3
 have hm:Move X (X.cut n) (qww n):=by
  refine Move.of (fun _ h=>h) (fun _ _=>rfl) (fun b b' hb hf=>?_)
  obtain⟨rfl,hlt⟩:=qBK hf
  exact⟨by simp[Ctx.cut];omega,rfl,hvec b',fun sh m _ k hk c T fr hc=>⟨c,T,fr,hc,rfl⟩⟩
 have hown:∀b m,(X.cut n).own b m→X.own b m:=by
  intro b m ⟨h1,k,h2,h3⟩
  obtain⟨_,k0,h4,h5⟩:=Ctx.cut_get h2
  exact⟨h1,k0,h4,by rw[h5,Blk.mut_ren] at h3;exact h3⟩
 refine⟨⟨?_,fun b b' m h h'=>hs.inj b b' m (hown _ _ h) (hown _ _ h'),fun b m h=>hs.notM b m (hown _ _ h),hs.ltM,hs.M0,hs.newM,hs.os,hs.tape,hs.output,hs.size,hs.frame,hs.imps,?_,fun b m h=>hs.fresh b m (hown _ _ h),hs.kept⟩,hm⟩
 ·intro b k hk
  obtain⟨_,k0,h1,h2⟩:=Ctx.cut_get hk
  rw[h2]
  exact yH.move hm.toMove0 rfl (fun _ _=>rfl) (hs.blk b k0 h1)
 ·intro b hb
  obtain⟨cs,h1,h2⟩:=hs.impc b hb
  refine⟨cs.ren (qww n),?_,by rw[Blk.solid_ren];exact h2⟩
  show ((X.h.take n).map (Blk.ren (qww n)))[b]?=_
  rw[List.getElem?_map,List.getElem?_take,if_pos (by omega),h1]
  rfl
end Go.Eng

namespace Go.Eng
def Ex.beq:Ex→Ex→Bool
 | .normal,.normal=>true
 | .ret,.ret=>true
 | .exit i,.exit j=>Nat.beq i j
 | _,_=>false
theorem Ex.beq_eq{x y:Ex}(h:x.beq y=true):x=y:=by
 cases x<;>cases y<;>simp[Ex.beq] at h ⊢
 exact h
def peq:Option Ex→Option Ex→Bool
 | none,none=>true
 | some x,some y=>x.beq y
 | _,_=>false
theorem qFP{x y:Option Ex}(h:peq x y=true):x=y:=by
 cases x<;>cases y<;>simp[peq] at h ⊢
 exact Ex.beq_eq h
structure Tmpl where
 t:List AP
 h:List BP
 pro:List (Nat×TypeId×List Sh):=[]
 fs:List (List AP):=[[]]
 pend:Option Ex:=none
 sw:List (Nat×Nat):=[]
 swn:Nat:=0
 prc:List (Nat×Nat×TypeId×List Sh):=[]
def qAk:List (Nat×TypeId×List Sh)→St→St
 | [],st=>st
 | (i,e,sh)::l,st=>match st.t[i]? with
  | some .nils=>qAk l { st with t:=st.t.set i (.vec st.h.length),h:=st.h++[.vec e sh []] }
  | _=>qAk l st
def qnC:List (Nat×Nat×TypeId×List Sh)→St→St
 | [],st=>st
 | (i,off,e,sh)::l,st=>match st.t[i]? with
  | some (.ptr b _)=>(match st.h[b]? with
   | some (.cells cs)=>(match cs[off]? with
    | some .nils=>qnC l { st with h:=(st.h++[Blk.vec e sh []]).set b (.cells (cs.set off (.vec st.h.length))) }
    | _=>qnC l st)
   | _=>qnC l st)
  | _=>qnC l st
def qcH(n:Nat)(h:List BP):Bool:=Nat.ble n h.length&&(h.take n).all BP.isCells
def swp(b c x:Nat):Nat:=if Nat.beq x b then c else if Nat.beq x c then b else x
def swB(b c:Nat):Nat→Option Nat:=fun x=>some (swp b c x)
def qxi(b c:Nat)(h:List Blk):List Blk:=(h.set b (h.getD c .dead)).set c (h.getD b .dead)
def St.swap(b c:Nat)(st:St):St:={ t:=AV.renL (swB b c) st.t,fs:=st.fs.map (AV.renL (swB b c)),h:=(qxi b c st.h).map (Blk.ren (swB b c)),pend:=st.pend }
def qG7:AV→Option Nat
 | .ptr b _=>some b
 | .vec b=>some b
 | _=>none
def qGx(st:St)(i:Nat):Option Nat:=match Nat.blt i 1000000 with
 | true=>(st.t[i]?).bind qG7
 | false=>match st.t[i%1000000]? with
  | some (.ptr b _)=>(match st.h[b]? with
   | some (.cells cs)=>(cs[i/1000000-1]?).bind qG7
   | _=>none)
  | _=>none
def qq2(n:Nat):List (Nat×Nat)→St→St
 | [],st=>st
 | (i,b)::l,st=>match qGx st i with
  | some c=>(match Nat.ble n b&&Nat.ble n c&&Nat.blt b st.h.length&&Nat.blt c st.h.length&&!(Nat.beq b c) with
   | true=>qq2 n l (st.swap b c)
   | false=>qq2 n l st)
  | none=>qq2 n l st
def Tmpl.take1(tm:Tmpl)(st:St):Option (List PV):=match peq tm.pend st.pend with
 | true=>qAJ (AP.takeL tm.t (AV.renL (qww tm.h.length) st.t)) (qAJ (AP.takeLL tm.fs (st.fs.map (AV.renL (qww tm.h.length)))) (BP.takeL tm.h ((st.h.take tm.h.length).map (Blk.ren (qww tm.h.length)))))
 | false=>none
def Tmpl.take(tm:Tmpl)(st:St):Option (List PV):=tm.take1 (qq2 tm.swn tm.sw (qnC tm.prc (qAk tm.pro st)))
def Tmpl.ok(n:Nat)(tm:Tmpl):Bool:=qcH n tm.h&&(tm.sw.isEmpty||Nat.ble n tm.swn)
def Tmpl.make(tm:Tmpl)(ps:List PV):St:=let x:=AP.makeL tm.t ps;let y:=AP.makeLL tm.fs x.2;{ t:=x.1,fs:=y.1,h:=(BP.makeL tm.h y.2).1,pend:=tm.pend }
def Tmpl.kinds(tm:Tmpl):List PK:=AP.kindsL tm.t++(AP.kindsLL tm.fs++BP.kindsL tm.h)
theorem qpC{n:Nat}{h:List BP}(hc:qcH n h=true):n≤h.length∧∀b,b<n→∃q,h[b]?=some q∧q.isCells=true:=by
 simp only[qcH,Bool.and_eq_true,Nat.ble_eq,List.all_eq_true] at hc
 refine⟨hc.1,fun b hb=>?_⟩
 have hlt:b<h.length:=by omega
 refine⟨h[b],List.getElem?_eq_getElem hlt,hc.2 _ ?_⟩
 rw[List.mem_take_iff_getElem]
 exact⟨b,by omega,rfl⟩
theorem qpl{E:Env}{X X':Ctx}(hM:∀n,X.M n→X'.M n)(hw:X'.w=X.w)(hy:X'.y=X.y)
  (h:∀x,x∈E.glob→(∃sh l i off,x.2=.eptr sh l i off)∧qCX X x) :
  ∀x,x∈E.glob→(∃sh l i off,x.2=.eptr sh l i off)∧qCX X' x:=by
 intro x hx
 obtain⟨⟨sh,l,i,off,he⟩,hr⟩:=h x hx
 refine⟨⟨sh,l,i,off,he⟩,hr.move hM (fun _ _=>by rw[hw]) ?_⟩
 have hr:=hr.1
 rw[he] at hr ⊢
 exact hr.noMen rfl hM (fun _ _=>by rw[hw]) hy
theorem qmA{E:Env}{B:Base}{a:Act}:∀(l:List (Nat×TypeId×List Sh)) {X:Ctx} {st:St},Sim E B X st a→∃X',X'.w=X.w∧Sim E B X' (qAk l st) a
 | [],X,st,hs=>⟨X,rfl,hs⟩
 | (i,e,sh)::l,X,st,hs=>by
  simp only[qAk]
  split
  ·rename_i hi
   have hw:=PushW.same X
   have hk:yH (X.pushW (.vec e sh []) none X.w) X.h.length (.vec e sh []):=.inl ⟨by simp[Ctx.pushW],rfl⟩
   have hs1:=HSim.push hs.hs hw hk
   have hx:=Ctx.push_ext hs.hs (.vec e sh []) hw
   have hsim:=hs.ext hx hs1
   obtain⟨v,g1,g2⟩:=hs.t.get i _ hi
   have hv:v=.slice none 0 0:=by cases g2;rfl
   subst hv
   have hrep:Rep (X.pushW (.vec e sh []) none X.w) (.vec st.h.length) (.slice none 0 0):=by
    rw[←hs.h]
    refine .vec _ _ _ _ (by simp[Ctx.pushW]) fun sh' m hv=>?_
    unfold qwz
    simp[Ctx.pushW]
   have hset:=RepL.set hrep hsim.t i
   have he:a.tmps.toList.set i (.slice none 0 0)=a.tmps.toList:=by
    apply List.ext_getElem?
    intro j
    by_cases hj:j=i
    ·subst hj;rw[List.getElem?_set_self (qt g1),g1]
    ·rw[List.getElem?_set_ne (Ne.symm hj)]
   rw[he] at hset
   obtain⟨X2,q1,q2⟩:=qmA l (X:=X.pushW (.vec e sh []) none X.w) (st:={ st with t:=st.t.set i (.vec st.h.length),h:=st.h++[.vec e sh []] })
    ⟨hs1,by simp[Ctx.pushW,hs.h],hset,hsim.fs,hsim.glob,hsim.df,hsim.ni,hsim.y,hsim.pin⟩
   exact⟨X2,q1,q2⟩
  ·exact qmA l hs
theorem qaA{E:Env}{B:Base}{a:Act}:∀(l:List (Nat×Nat×TypeId×List Sh)) {X:Ctx} {st:St},Sim E B X st a→∃X',X'.w=X.w∧Sim E B X' (qnC l st) a
 | [],X,st,hs=>⟨X,rfl,hs⟩
 | (i,off,e,sh)::l,X,st,hs=>by
  simp only[qnC]
  split
  ·rename_i b o hi
   split
   ·rename_i cs hb
    split
    ·rename_i hc
     have hw:=PushW.same X
     have hk:yH (X.pushW (.vec e sh []) none X.w) X.h.length (.vec e sh []):=.inl ⟨by simp[Ctx.pushW],rfl⟩
     have hs1:=HSim.push hs.hs hw hk
     have hx:=Ctx.push_ext hs.hs (.vec e sh []) hw
     have hsim:=hs.ext hx hs1
     have hbX:X.h[b]?=some (.cells cs):=by rw[hs.h];exact hb
     have hbl:=qt hbX
     obtain⟨n,c,T,g1,g2,g3⟩:=hs.hs.blk b _ hbX
     have hb1:(X.pushW (.vec e sh []) none X.w).h[b]?=some (.cells cs):=by
      show (X.h++[Blk.vec e sh []])[b]?=_
      rw[List.getElem?_append_left hbl];exact hbX
     have g1':(X.pushW (.vec e sh []) none X.w).σ b=some n:=by
      show (if b=X.h.length then none else X.σ b)=_
      rw[if_neg (by omega)];exact g1
     have g3':=g3.ext hx
     have hrep:Rep (X.pushW (.vec e sh []) none X.w) (.vec st.h.length) (.slice none 0 0):=by
      rw[←hs.h]
      refine .vec _ _ _ _ (by simp[Ctx.pushW]) fun sh' m hv=>?_
      unfold qwz
      simp[Ctx.pushW]
     obtain⟨v,k1,k2⟩:=g3'.get off _ hc
     have hv:v=.slice none 0 0:=by cases k2;rfl
     subst hv
     have hset:=RepL.set hrep g3' off
     have he:c.toList.set off (.slice none 0 0)=c.toList:=by
      apply List.ext_getElem?
      intro j
      by_cases hj:j=off
      ·subst hj;rw[List.getElem?_set_self (qt k1),k1]
      ·rw[List.getElem?_set_ne (Ne.symm hj)]
     rw[he] at hset
     have hup:UpdW (X.pushW (.vec e sh []) none X.w) n c c T X.w:=⟨g2,g2,rfl,fun _ _=>rfl,rfl,rfl,rfl,rfl⟩
     have hown:(X.pushW (.vec e sh []) none X.w).own b n:=⟨g1',_,hb1,rfl⟩
     have hx2:=Ctx.upd_ext (k':=.cells (cs.set off (.vec st.h.length))) hs1 hb1 hown hup trivial
     have hs2:=hs1.upd (k':=.cells (cs.set off (.vec st.h.length))) hb1 hown hup trivial ⟨n,c,T,g1',g2,hset.ext hx2⟩
     have hsim2:=hsim.ext hx2 hs2
     have hh:((X.pushW (.vec e sh []) none X.w).upd b (.cells (cs.set off (.vec st.h.length))) X.w).h=(st.h++[Blk.vec e sh []]).set b (.cells (cs.set off (.vec st.h.length))):=by
      show (X.h++[Blk.vec e sh []]).set b _=_
      rw[hs.h]
     obtain⟨X3,q1,q2⟩:=qaA l hsim2
     refine⟨X3,q1,?_⟩
     rw[hh] at q2
     exact q2
    ·exact qaA l hs
   ·exact qaA l hs
  ·exact qaA l hs
theorem qqG(b c x:Nat):swp b c (swp b c x)=x:=by
 unfold swp
 simp only[Nat.beq_eq]
 by_cases h1:x=b
 ·subst h1
  by_cases h2:c=x
  ·simp[h2]
  ·simp[h2]
 ·by_cases h2:x=c
  ·subst h2;simp[h1]
  ·simp[h1,h2]
theorem qG8{b c x n:Nat}(hb:n≤b)(hc:n≤c):n≤swp b c x↔n≤x:=by
 unfold swp
 simp only[Nat.beq_eq]
 split
 ·rename_i h;subst h;exact⟨fun _=>hb,fun _=>hc⟩
 ·split
  ·rename_i h;subst h;exact⟨fun _=>hc,fun _=>hb⟩
  ·exact Iff.rfl
theorem qGn{b c x n:Nat}(hb:b<n)(hc:c<n):swp b c x<n↔x<n:=by
 unfold swp
 simp only[Nat.beq_eq]
 split
 ·rename_i h;subst h;exact⟨fun _=>hb,fun _=>hc⟩
 ·split
  ·rename_i h;subst h;exact⟨fun _=>hc,fun _=>hb⟩
  ·exact Iff.rfl
theorem qEh{b c x n:Nat}(hb:n≤b)(hc:n≤c)(hx:x<n):swp b c x=x:=by
 unfold swp
 simp only[Nat.beq_eq]
 rw[if_neg (by omega),if_neg (by omega)]
theorem qCJ{b c:Nat}{h:List Blk}(hb:b<h.length)(hc:c<h.length)(hbc:b≠c)(i:Nat):(qxi b c h)[i]?=h[swp b c i]?:=by
 have e1:h.getD c .dead=h[c]:=by simp[List.getD_eq_getElem?_getD,hc]
 have e2:h.getD b .dead=h[b]:=by simp[List.getD_eq_getElem?_getD,hb]
 unfold qxi swp
 simp only[Nat.beq_eq]
 rw[e1,e2]
 by_cases h1:i=b
 ·subst h1
  rw[if_pos rfl,List.getElem?_set_ne (Ne.symm hbc),List.getElem?_set_self hb,List.getElem?_eq_getElem hc]
 ·by_cases h2:i=c
  ·subst h2
   rw[if_neg h1,if_pos rfl,List.getElem?_set_self (by simpa using hc),List.getElem?_eq_getElem hb]
  ·rw[if_neg h1,if_neg h2,List.getElem?_set_ne (Ne.symm h2),List.getElem?_set_ne (Ne.symm h1)]
def Ctx.swap(X:Ctx)(b c:Nat):Ctx:={ X with σ:=fun x=>X.σ (swp b c x),h:=(qxi b c X.h).map (Blk.ren (swB b c)) }
theorem qBq{B:Base}{X:Ctx}(hs:HSim B X){b c:Nat}(hb:B.imps.length≤b)(hc:B.imps.length≤c)(hbl:b<X.h.length)(hcl:c<X.h.length)(hbc:b≠c) :
  HSim B (X.swap b c)∧Move X (X.swap b c) (swB b c):=by
 have hget:∀i,(X.swap b c).h[i]?=(X.h[swp b c i]?).map (Blk.ren (swB b c)):=fun i=>by
  show ((qxi b c X.h).map _)[i]?=_
  rw[List.getElem?_map,qCJ hbl hcl hbc]
 have hget':∀i k,(X.swap b c).h[i]?=some k→∃k0,X.h[swp b c i]?=some k0∧k=k0.ren (swB b c):=by
  intro i k h
  rw[hget] at h
  cases hk:X.h[swp b c i]? with
  | none=>rw[hk] at h;cases h
  | some k0=>rw[hk] at h;exact⟨k0,rfl,(Option.some.inj h).symm⟩
 have hσ:∀i,(X.swap b c).σ i=X.σ (swp b c i):=fun _=>rfl
 have hm:Move X (X.swap b c) (swB b c):=by
  refine Move.of (fun _ h=>h) (fun _ _=>rfl) (fun b1 b2 hb1 hf=>?_)
  have hf':b2=swp b c b1:=(Option.some.inj hf).symm
  subst hf'
  refine⟨?_,by rw[hσ,qqG],fun sh m ⟨e,l,h1,h2⟩=>⟨e,l,?_,h2⟩,fun sh m _ n hn c T fr hc=>⟨c,T,fr,hc,rfl⟩⟩
  ·show _<((qxi b c X.h).map _).length
   simp only[qxi,List.length_map,List.length_set]
   exact(qGn hbl hcl).2 hb1
  ·rcases h1 with h1|h1
   ·obtain⟨k0,h3,h4⟩:=hget' _ _ h1
    rw[qqG] at h3
    rcases qmd (.inl h4) with rfl|rfl
    ·exact .inl h3
    ·exact .inr h3
   ·obtain⟨k0,h3,h4⟩:=hget' _ _ h1
    rw[qqG] at h3
    rcases qmd (.inr h4) with rfl|rfl
    ·exact .inl h3
    ·exact .inr h3
 have hown:∀i n,(X.swap b c).own i n→X.own (swp b c i) n:=by
  intro i n ⟨h1,k,h2,h3⟩
  obtain⟨k0,h4,h5⟩:=hget' i k h2
  exact⟨h1,k0,h4,by rw[h5,Blk.mut_ren] at h3;exact h3⟩
 refine⟨⟨?_,?_,fun i n h=>hs.notM _ n (hown _ _ h),hs.ltM,hs.M0,hs.newM,hs.os,hs.tape,hs.output,hs.size,hs.frame,?_,?_,?_,hs.kept⟩,hm⟩
 ·intro i k hk
  obtain⟨k0,h1,h2⟩:=hget' i k hk
  rw[h2]
  exact yH.move hm.toMove0 (hσ i) (fun _ _=>rfl) (hs.blk _ k0 h1)
 ·intro i j n h1 h2
  have:=hs.inj _ _ n (hown _ _ h1) (hown _ _ h2)
  rw[←qqG b c i,this,qqG]
 ·intro i hi
  rw[hσ,qEh hb hc hi];exact hs.imps i hi
 ·intro i hi
  obtain⟨k,h1,h2⟩:=hs.impc i hi
  exact⟨k.ren (swB b c),by rw[hget,qEh hb hc hi,h1];rfl,by rw[Blk.solid_ren];exact h2⟩
 ·intro i n h1 h2
  exact hs.fresh _ n (hown _ _ h1) ((qG8 hb hc).2 h2)
theorem qeB{E:Env}{B:Base}{a:Act}{n:Nat}(hn:B.imps.length≤n):∀(l:List (Nat×Nat)) {X:Ctx} {st:St},Sim E B X st a→∃X',X'.w=X.w∧Sim E B X' (qq2 n l st) a
 | [],X,st,hs=>⟨X,rfl,hs⟩
 | (i,b)::l,X,st,hs=>by
  simp only[qq2]
  split
  ·rename_i c hc
   split
   ·rename_i hcond
    simp only[Bool.and_eq_true,Nat.ble_eq,Nat.blt_eq,Bool.not_eq_true'] at hcond
    obtain⟨⟨⟨⟨c1,c2⟩,c3⟩,c4⟩,c5⟩:=hcond
    have hne:b≠c:=fun e=>by subst e;simp at c5
    obtain⟨g1,g2⟩:=qBq hs.hs (b:=b) (c:=c) (by omega) (by omega) (by rw[hs.h];exact c3) (by rw[hs.h];exact c4) hne
    obtain⟨X2,q1,q2⟩:=qeB hn l (X:=X.swap b c) (st:=st.swap b c) ⟨g1,by simp[Ctx.swap,St.swap,hs.h],hs.t.ren g2.toMove0,hs.fs.ren g2.toMove0,qpl (X:=X) (fun _ h=>h) rfl rfl hs.glob,hs.df,hs.ni,hs.y,hs.pin⟩
    exact⟨X2,q1,q2⟩
   ·exact qeB hn l hs
  ·exact qeB hn l hs
theorem Tmpl.weaken1{tm:Tmpl}{E:Env}{B:Base}{X:Ctx}{st:St}{a:Act}{ps:List PV}(hk:qcH E.nimp tm.h=true)(h:tm.take1 st=some ps)(hs:Sim E B X st a) :
  ps.map PV.kind=tm.kinds∧∃X',X'.w=X.w∧Sim E B X' (tm.make ps) a:=by
 unfold Tmpl.take1 at h
 split at h
 ·rename_i hpe
  have hpe':=qFP hpe
  obtain⟨x,yz,h1,h0,rfl⟩:=q42 h
  obtain⟨y,z,h2,h3,rfl⟩:=q42 h0
  obtain⟨hc1,hc2⟩:=qpC hk
  obtain⟨c1,c2⟩:=qyu hs.hs (n:=tm.h.length) (Nat.le_trans hs.ni hc1)
  obtain⟨a1,a2,a3⟩:=AP.takeL_ok (X:=X.cut tm.h.length) _ _ x (y++z) h1
  obtain⟨d1,d2,d3⟩:=AP.takeLL_ok (X:=X.cut tm.h.length) _ _ y z h2
  obtain⟨b1,b2,b3,b4,b5⟩:=BP.takeL_ok (X:=X.cut tm.h.length) _ _ z [] h3
  have hch:(X.cut tm.h.length).h=(st.h.take tm.h.length).map (Blk.ren (qww tm.h.length)):=by rw[←hs.h];rfl
  rw[←hch] at b3 b5
  rw[List.append_nil] at b3 b5
  obtain⟨e1,e2⟩:=qe5 c1 (h':=(BP.makeL tm.h z).1) b3 (fun b k' hb=>by obtain⟨k0,e1,e2,_⟩:=b5 b k' hb;exact⟨k0,e1,e2⟩)
   (fun b hb k' hk'=>by
    obtain⟨q,q1,q2⟩:=hc2 b (by have:=hs.ni;omega)
    obtain⟨k0,_,_,e3⟩:=b5 b k' hk'
    exact e3 q q1 q2)
  refine⟨by simp[Tmpl.kinds,a2,d2,b2],{ X.cut tm.h.length with h:=(BP.makeL tm.h z).1 },rfl,⟨e1,?_,?_,?_,?_,?_,hs.ni,hs.y,?_⟩⟩
  ·simp only[Tmpl.make,a1,d1]
  ·simp only[Tmpl.make]
   exact(a3 _ (hs.t.ren c2.toMove0)).ext e2
  ·simp only[Tmpl.make,a1]
   exact(d3 _ (hs.fs.ren c2.toMove0)).ext e2
  ·exact qpl (X:=X) (fun _ h=>h) rfl rfl hs.glob
  ·show qwD X.kept (B.pin tm.pend) a.defers
   rw[hpe'];exact hs.df
  ·show ∀p,p∈B.pin tm.pend→p∈X.kept
   rw[hpe'];exact hs.pin
 ·cases h
theorem Tmpl.weaken{tm:Tmpl}{E:Env}{B:Base}{X:Ctx}{st:St}{a:Act}{ps:List PV}(hk:tm.ok E.nimp=true)(h:tm.take st=some ps)(hs:Sim E B X st a) :
  ps.map PV.kind=tm.kinds∧∃X',X'.w=X.w∧Sim E B X' (tm.make ps) a:=by
 unfold Tmpl.ok at hk
 simp only[Bool.and_eq_true,Bool.or_eq_true,List.isEmpty_iff,Nat.ble_eq] at hk
 obtain⟨X0,h0,h2'⟩:=qmA tm.pro hs
 obtain⟨X1,h1',h2⟩:=qaA tm.prc h2'
 have h1:=h1'.trans h0
 have:∃X',X'.w=X1.w∧Sim E B X' (qq2 tm.swn tm.sw (qnC tm.prc (qAk tm.pro st))) a:=by
  rcases hk.2 with h0|h0
  ·rw[h0];exact⟨X1,rfl,h2⟩
  ·exact qeB (Nat.le_trans hs.ni h0) tm.sw h2
 obtain⟨X1',h1',h2'⟩:=this
 obtain⟨g1,X2,g2,g3⟩:=Tmpl.weaken1 hk.1 h h2'
 exact⟨g1,X2,(g2.trans h1').trans h1,g3⟩
structure Out where
 x:Ex
 tm:Tmpl
abbrev TR:=Tree (Nat×List PV)
def qFm:List Out→Nat→Ex×St→TR
 | [],_,_=>.fail
 | o::l,j,r=>match Ex.beq o.x r.1,o.tm.take r.2 with
  | true,some ps=>.leaf (j,ps)
  | _,_=>qFm l (j+1) r
def okR(R:TR):Bool:=R.run.isSome
def jR(R:TR):Nat:=match R.run with|some r=>r.1|none=>0
def pR(R:TR)(i:Nat):PV:=match R.run with|some r=>r.2.getD i (.i 0)|none=>.i 0
def gI(R:TR)(i:Nat):Int:=(pR R i).toI
def gB(R:TR)(i:Nat):Bool:=(pR R i).toB
def gS(R:TR)(i:Nat):List UInt8:=(pR R i).toS
def gR(R:TR)(i:Nat):Go.Eng.R:=(pR R i).toR
def jIs(R:TR)(j:Nat):Bool:=Nat.beq (jR R) j
def qoj(R:TR):List PK→Nat→List PV
 | [],_=>[]
 | .i::l,n=>.i (gI R n)::qoj R l (n+1)
 | .b::l,n=>.b (gB R n)::qoj R l (n+1)
 | .s::l,n=>.s (gS R n)::qoj R l (n+1)
 | .r::l,n=>.r (gR R n)::qoj R l (n+1)
theorem qkk{R:TR}{j:Nat}{ps:List PV}(hR:R.run=some (j,ps)):∀(ks:List PK) (n:Nat),(ps.drop n).map PV.kind=ks→qoj R ks n=ps.drop n
 | [],n,h=>by simp at h;simp[qoj];exact h
 | k::ks,n,h=>by
  cases hd:ps.drop n with
  | nil=>rw[hd] at h;cases h
  | cons v rest=>
   rw[hd] at h
   simp only[List.map_cons,List.cons.injEq] at h
   have hn:ps[n]?=some v:=by
    have:(ps.drop n)[0]?=some v:=by rw[hd];rfl
    rwa [List.getElem?_drop,Nat.add_zero] at this
   have hr:ps.drop (n+1)=rest:=by rw[←List.drop_drop,hd];rfl
   have ih:=qkk hR ks (n+1) (by rw[hr];exact h.2)
   have hp:pR R n=v:=by simp[pR,hR,List.getD_eq_getElem?_getD,hn]
   rw[hr] at ih
   cases v<;>simp only[PV.kind] at h<;>obtain⟨rfl,_⟩:=h<;>simp only[qoj,ih,gI,gB,gS,gR,hp,PV.toI,PV.toB,PV.toS,PV.toR]
def qFs(R:TR):List Out→Nat→Tree (Ex×St)
 | [],_=>.fail
 | o::l,j=>match l with
  | []=>.leaf (o.x,o.tm.make (qoj R o.tm.kinds 0))
  | _::_=>.br (jIs R j) (.leaf (o.x,o.tm.make (qoj R o.tm.kinds 0))) (qFs R l (j+1))
theorem qyp{R:TR}{j:Nat}{ps:List PV}(hR:R.run=some (j,ps)):∀(outs:List Out) (k:Nat) (o:Out) (r:Ex×St),k≤j→outs[j-k]?=some o→ps.map PV.kind=o.tm.kinds →
  (qFs R outs k).run=some r→r=(o.x,o.tm.make ps)
 | [],k,o,r,_,h,_,_=>by simp at h
 | o'::l,k,o,r,hk,h,hp,hr=>by
  have hj:jR R=j:=by simp[jR,hR]
  simp only[qFs] at hr
  cases l with
  | nil=>
   have:j-k=0:=by
    rcases Nat.eq_zero_or_pos (j-k) with h0|h0
    ·exact h0
    ·rw[List.getElem?_eq_none (by simp;omega)] at h;cases h
   rw[this] at h
   simp only[List.getElem?_cons_zero,Option.some.injEq] at h
   subst h
   simp only[Tree.run,Option.some.injEq] at hr
   rw[←hr,qkk hR _ 0 (by simpa using hp)];rfl
  | cons o2 l=>
   simp only[Tree.run] at hr
   by_cases hjk:j=k
   ·have hb:jIs R k=true:=by simp[jIs,hj,hjk]
    rw[hb] at hr
    simp only[Option.some.injEq] at hr
    subst hjk
    simp only[Nat.sub_self,List.getElem?_cons_zero,Option.some.injEq] at h
    subst h
    rw[←hr,qkk hR _ 0 (by simpa using hp)];rfl
   ·have hb:jIs R k=false:=by
     simp only[jIs,hj]
     cases hq:Nat.beq j k with
     | false=>rfl
     | true=>exact absurd (Nat.eq_of_beq_eq_true hq) hjk
    rw[hb] at hr
    simp only at hr
    refine qyp hR (o2::l) (k+1) o r (by omega) ?_ hp hr
    rw[show j-k=(j-(k+1))+1 by omega,List.getElem?_cons_succ] at h
    exact h
theorem qz6:∀(outs:List Out) (k:Nat) (r:Ex×St) (j:Nat) (ps:List PV),(qFm outs k r).run=some (j,ps)→k≤j∧∃o,outs[j-k]?=some o∧o.x=r.1∧o.tm.take r.2=some ps
 | [],k,r,j,ps,h=>by simp only[qFm] at h;cases h
 | o::l,k,r,j,ps,h=>by
  simp only[qFm] at h
  split at h
  ·rename_i ps' hb ht
   simp only[Tree.run,Option.some.injEq,Prod.mk.injEq] at h
   obtain⟨rfl,rfl⟩:=h
   exact⟨Nat.le_refl _,o,by simp,Ex.beq_eq hb,ht⟩
  ·obtain⟨h1,o',h2,h3,h4⟩:=qz6 l (k+1) r j ps h
   refine⟨by omega,o',?_,h3,h4⟩
   rw[show j-k=(j-(k+1))+1 by omega,List.getElem?_cons_succ]
   exact h2
def qj(tin:Tmpl)(outs:List Out)(T:List PV→TR):St→Tree (Ex×St):=fun st=>match tin.take st with
 | none=>.fail
 | some ps=>.br (okR (T ps)) (qFs (T ps) outs 0) .fail
theorem qzz{tin:Tmpl}{outs:List Out}{T:List PV→TR}{st:St}{r:Ex×St}(h:(qj tin outs T st).run=some r) :
  ∃ps j qs,tin.take st=some ps∧(T ps).run=some (j,qs)∧(qFs (T ps) outs 0).run=some r:=by
 unfold qj at h
 cases ht:tin.take st with
 | none=>rw[ht] at h;cases h
 | some ps=>
  rw[ht] at h
  simp only[Tree.run] at h
  cases hr:(T ps).run with
  | none=>simp[okR,hr] at h
  | some q=>
   obtain⟨j,qs⟩:=q
   simp only[okR,hr,Option.isSome_some] at h
   exact⟨ps,j,qs,rfl,hr,h⟩
theorem qya.env{E E':Env}(he:E.glob=E'.glob)(hn:E.nimp=E'.nimp){B:Base}{r:Ex×St}{e:Exit}{a:Act}{w:World}(h:qya E B r e a w):qya E' B r e a w:=by
 obtain⟨h1,X',h2,h3⟩:=h
 exact⟨h1,X',h2,h3.env he hn⟩
theorem qF6{ni:Nat}{outs:List Out}(h:(outs.all fun o=>o.tm.ok ni)=true){j:Nat}{o:Out}(ho:outs[j]?=some o):o.tm.ok ni=true:=
 List.all_eq_true.1 h o (List.mem_of_getElem? ho)
theorem qtS{p:Nat→Prop}(h:∃n,p n):∃n,p n∧∀m,p m→n≤m:=by
 obtain⟨n,hn⟩:=h
 induction n using Nat.strongRecOn with
 | _ n ih=>
  by_cases hlt:∃m,m<n∧p m
  ·obtain⟨m,h1,h2⟩:=hlt;exact ih m h1 h2
  ·exact⟨n,hn,fun m hm=>Nat.le_of_not_lt fun h=>hlt ⟨m,h,hm⟩⟩
open Classical in
noncomputable def qth(p:Nat→Prop):Nat:=if h:∃n,p n then Classical.choose (qtS h) else 0
theorem qnT{p:Nat→Prop}(h:∃n,p n):p (qth p)∧∀m,p m→qth p≤m:=by
 unfold qth
 rw[dif_pos h]
 exact Classical.choose_spec (qtS h)
def qDN(tin:Tmpl)(outs:List Out)(r:Ex×St):TR:=match r.1 with
 | .normal=>match tin.take r.2 with
  | some ps=>.leaf (0,ps)
  | none=>.fail
 | _=>qFm outs 1 r
def qkN(S:List PV→TR):Nat→List PV→TR
 | 0,_=>.fail
 | n+1,ps=>(S ps).bind fun r=>match r.1 with
  | 0=>qkN S n r.2
  | j+1=>.leaf (j,r.2)
theorem qBs{E:Env}{P:Program}{c:Code}{BO:Base→Prop}{ev:St→Tree (Ex×St)}(hev:∀(n0:Nat) B X st a r,BO B→Sim E B X st a→(ev st).run=some r→c.wpIn (q1J B.ro) n0 P (qya E B r) a X.w)
  {tin:Tmpl} {outs:List Out} {S T:List PV→TR} (hk:tin.ok E.nimp=true) (hko:(outs.all fun o=>o.tm.ok E.nimp)=true)
  (hS:∀ps r,ps.map PV.kind=tin.kinds→(S ps).run=some r→((ev (tin.make ps)).bind (qDN tin outs)).run=some r) (hT:∀ps,∃n,T ps=qkN S n ps) :
  qm P E.glob E.nimp BO (.loop c) (qj tin outs T):=by
 intro E' B X st a r he hn hbo hs h nf
 obtain⟨ps,j,qs,h1,h2,h3⟩:=qzz h
 obtain⟨hkd,X',hw,hs'⟩:=Tmpl.weaken hk h1 (hs.env he hn)
 obtain⟨n0,hn0⟩:=hT ps
 have hend:∀(o:Out) (X3:Ctx) (a':Act),outs[j]?=some o→qs.map PV.kind=o.tm.kinds→Sim E B X3 (o.tm.make qs) a'→qya E' B r o.x.out a' X3.w:=by
  intro o X3 a' q1 hkd2 hs3
  have hr:=qyp h2 outs 0 o r (Nat.zero_le _) q1 hkd2 h3
  subst hr
  exact qya.env he.symm hn.symm ⟨rfl,X3,rfl,hs3⟩
 rw[hn0] at h2
 let I:Nat→Act→World→Prop:=fun n a' w'=>∃X1 ps1,X1.w=w'∧ps1.map PV.kind=tin.kinds∧Sim E B X1 (tin.make ps1) a'∧(qkN S n ps1).run=some (j,qs)
 have key:∀a' w',(∃n,I n a' w')→c.wpIn (q1J B.ro) nf P (Exit.then (fun a'' w''=>∃n,I n a'' w''∧∀m,I m a' w'→n<m) (qya E' B r)) a' w':=by
  intro a' w' hex
  have hmin:=qtS hex
  obtain⟨n,⟨X1,ps1,rfl,hk1,hs1,hit⟩,hleast⟩:=hmin
  cases n with
  | zero=>simp only[qkN] at hit;cases hit
  | succ n=>
   simp only[qkN] at hit
   obtain⟨s,g1,g2⟩:=bind_some hit
   obtain⟨r1,g3,g4⟩:=bind_some (hS ps1 s hk1 g1)
   refine wpIn_mono (hev nf B X1 _ a' r1 hbo hs1 g3) fun e a'' w'' ⟨p1,X2,p2,p3⟩=>?_
   subst p1 p2
   obtain⟨x1,s1⟩:=r1
   have other:∀(_:(qFm outs 1 (x1,s1)).run=some s),qya E' B r x1.out a'' X2.w:=by
    intro hf
    obtain⟨sj,sps⟩:=s
    obtain⟨f1,o,f2,f3,f4⟩:=qz6 _ _ _ _ _ hf
    cases sj with
    | zero=>omega
    | succ sj=>
     simp only[Tree.run,Option.some.injEq,Prod.mk.injEq] at g2
     obtain⟨rfl,rfl⟩:=g2
     simp only[Nat.add_sub_cancel] at f2
     obtain⟨hkd2,X3,hw3,hs3⟩:=Tmpl.weaken (qF6 hko f2) f4 p3
     have f3':o.x=x1:=f3
     rw[←f3',←hw3]
     exact hend o X3 a'' f2 hkd2 hs3
   cases x1 with
   | normal=>
    simp only[qDN] at g4
    cases htk:tin.take s1 with
    | none=>rw[htk] at g4;cases g4
    | some ps2=>
     rw[htk] at g4
     simp only[Tree.run,Option.some.injEq] at g4
     subst g4
     obtain⟨hkd2,X3,hw3,hs3⟩:=Tmpl.weaken hk htk p3
     refine⟨n,⟨X3,ps2,hw3,hkd2,hs3,g2⟩,fun m hm=>?_⟩
     have:=hleast m hm
     omega
   | exit i=>exact other g4
   | ret=>exact other g4
 rw[←hw]
 have hI0:∃n,I n a X'.w:=⟨n0,X',ps,rfl,hkd,hs',h2⟩
 refine wpIn_loop (fun a' w'=>∃n,I n a' w') (fun a' w'=>qth fun n=>I n a' w') hI0 fun a' w' hex=>?_
 refine wpIn_mono (key a' w' hex) fun e a'' w'' hq=>?_
 cases e with
 | normal=>
  obtain⟨n,hn1,hn2⟩:=hq
  exact⟨⟨n,hn1⟩,Nat.lt_of_le_of_lt ((qnT ⟨n,hn1⟩).2 n hn1) (hn2 _ (qnT hex).1)⟩
 | exit i=>exact hq
 | goto i=>exact hq
 | ret=>exact hq
 | panic ch=>exact hq
 | outgrown=>exact hq
end Go.Eng

namespace Go.Eng
structure FOut where
 res:AP
 h:List BP
 pro:Option (Nat×TypeId×List Sh):=none
def qEu:Nat→AV→Bool
 | i,.tuple vs=>match vs[i]? with|some .nils=>true|_=>false
 | 0,.nils=>true
 | _,_=>false
def qGC(i:Nat)(v:AV):AV→AV
 | .tuple vs=>.tuple (vs.set i v)
 | .nils=>v
 | x=>x
def qGt(p:Option (Nat×TypeId×List Sh))(r:AV×List Blk):AV×List Blk:=match p with
 | none=>r
 | some (i,e,sh)=>match qEu i r.1 with
  | true=>(qGC i (.vec r.2.length) r.1,r.2++[.vec e sh []])
  | false=>r
def qxT(h:List Blk):Blk→Blk
 | .cells cs=>.cells (AV.lendL h cs)
 | k=>k
def qdi(fz:Bool)(r:AV×List Blk):AV×List Blk:=match fz with
 | false=>r
 | true=>let h1:=zB r.2 (List.range r.2.length);(r.1.lend h1,h1.map (qxT h1))
def FOut.take1(o:FOut)(r:AV×List Blk):Option (List PV):=
 qAJ (o.res.take (r.1.ren (qww o.h.length))) (BP.takeL o.h ((r.2.take o.h.length).map (Blk.ren (qww o.h.length))))
def FOut.take(o:FOut)(r:AV×List Blk):Option (List PV):=o.take1 (qGt o.pro r)
def FOut.make(o:FOut)(ps:List PV):AV×List Blk:=let x:=o.res.make ps;(x.1,(BP.makeL o.h x.2).1)
def FOut.kinds(o:FOut):List PK:=o.res.kinds++BP.kindsL o.h
def qFo:List FOut→Nat→AV×List Blk→TR
 | [],_,_=>.fail
 | o::l,j,r=>match o.take r with
  | some ps=>.leaf (j,ps)
  | none=>qFo l (j+1) r
def qFn(R:TR):List FOut→Nat→Tree (AV×List Blk)
 | [],_=>.fail
 | o::l,j=>match l with
  | []=>.leaf (o.make (qoj R o.kinds 0))
  | _::_=>.br (jIs R j) (.leaf (o.make (qoj R o.kinds 0))) (qFn R l (j+1))
structure FIn where
 args:List AP
 h:List BP
def FIn.take(i:FIn)(args:List AV)(h:List Blk):Option (List PV):=qAJ (AP.takeL i.args args) (BP.takeL i.h h)
def FIn.make(i:FIn)(ps:List PV):List AV×List Blk:=let x:=AP.makeL i.args ps;(x.1,(BP.makeL i.h x.2).1)
def FIn.kinds(i:FIn):List PK:=AP.kindsL i.args++BP.kindsL i.h
def q9(i:FIn)(outs:List FOut)(T:List PV→TR):q1h:=fun args h=>match i.take args h with
 | none=>.fail
 | some ps=>.br (okR (T ps)) (qFn (T ps) outs 0) .fail
theorem qti{R:TR}{j:Nat}{ps:List PV}(hR:R.run=some (j,ps)):∀(outs:List FOut) (k:Nat) (o:FOut) (r:AV×List Blk),k≤j→outs[j-k]?=some o→ps.map PV.kind=o.kinds →
  (qFn R outs k).run=some r→r=o.make ps
 | [],k,o,r,_,h,_,_=>by simp at h
 | o'::l,k,o,r,hk,h,hp,hr=>by
  have hj:jR R=j:=by simp[jR,hR]
  simp only[qFn] at hr
  cases l with
  | nil=>
   have:j-k=0:=by
    rcases Nat.eq_zero_or_pos (j-k) with h0|h0
    ·exact h0
    ·rw[List.getElem?_eq_none (by simp;omega)] at h;cases h
   rw[this] at h
   simp only[List.getElem?_cons_zero,Option.some.injEq] at h
   subst h
   simp only[Tree.run,Option.some.injEq] at hr
   rw[←hr,qkk hR _ 0 (by simpa using hp)];rfl
  | cons o2 l=>
   simp only[Tree.run] at hr
   by_cases hjk:j=k
   ·have hb:jIs R k=true:=by simp[jIs,hj,hjk]
    rw[hb] at hr
    simp only[Option.some.injEq] at hr
    subst hjk
    simp only[Nat.sub_self,List.getElem?_cons_zero,Option.some.injEq] at h
    subst h
    rw[←hr,qkk hR _ 0 (by simpa using hp)];rfl
   ·have hb:jIs R k=false:=by
     simp only[jIs,hj]
     cases hq:Nat.beq j k with
     | false=>rfl
     | true=>exact absurd (Nat.eq_of_beq_eq_true hq) hjk
    rw[hb] at hr
    simp only at hr
    refine qti hR (o2::l) (k+1) o r (by omega) ?_ hp hr
    rw[show j-k=(j-(k+1))+1 by omega,List.getElem?_cons_succ] at h
    exact h
theorem qyF:∀(outs:List FOut) (k:Nat) (r:AV×List Blk) (j:Nat) (ps:List PV),(qFo outs k r).run=some (j,ps)→k≤j∧∃o,outs[j-k]?=some o∧o.take r=some ps
 | [],k,r,j,ps,h=>by simp only[qFo] at h;cases h
 | o::l,k,r,j,ps,h=>by
  simp only[qFo] at h
  split at h
  ·rename_i ps' ht
   simp only[Tree.run,Option.some.injEq,Prod.mk.injEq] at h
   obtain⟨rfl,rfl⟩:=h
   exact⟨Nat.le_refl _,o,by simp,ht⟩
  ·obtain⟨h1,o',h2,h4⟩:=qyF l (k+1) r j ps h
   refine⟨by omega,o',?_,h4⟩
   rw[show j-k=(j-(k+1))+1 by omega,List.getElem?_cons_succ]
   exact h2
theorem qvP{i:FIn}{outs:List FOut}{T:List PV→TR}{args:List AV}{h:List Blk}{r:AV×List Blk}(hr:(q9 i outs T args h).run=some r) :
  ∃ps j qs,i.take args h=some ps∧(T ps).run=some (j,qs)∧(qFn (T ps) outs 0).run=some r:=by
 unfold q9 at hr
 cases ht:i.take args h with
 | none=>rw[ht] at hr;cases hr
 | some ps=>
  rw[ht] at hr
  simp only[Tree.run] at hr
  cases hq:(T ps).run with
  | none=>simp[okR,hq] at hr
  | some q=>
   obtain⟨j,qs⟩:=q
   simp only[okR,hq,Option.isSome_some] at hr
   exact⟨ps,j,qs,rfl,hq,hr⟩
theorem qrI{B:Base}{X:Ctx}(hs:HSim B X)(fz:Bool){r:AV×List Blk}{v:Value}(hr:Rep X r.1 v)(hh:X.h=r.2) :
  ∃X',X'.w=X.w∧X'.h=(qdi fz r).2∧HSim B X'∧Rep X' (qdi fz r).1 v∧X'.y=X.y:=by
 cases fz with
 | false=>exact⟨X,rfl,hh,hs,hr,rfl⟩
 | true=>
  obtain⟨X1,f⟩:=q7X (List.range r.2.length) hs
  have hf:X1.h=zB r.2 (List.range r.2.length):=by rw[f.h,hh]
  obtain⟨d1,d2⟩:=qe5 f.hs (h':=X1.h.map (qxT X1.h)) (by simp) (fun b k' hb=>by
   rw[List.getElem?_map] at hb
   cases hk:X1.h[b]? with
   | none=>rw[hk] at hb;cases hb
   | some k0=>
    rw[hk] at hb
    simp only[Option.map_some,Option.some.injEq] at hb
    refine⟨k0,rfl,?_⟩
    cases k0 with
    | cells cs=>exact .inr (.inr (.inl ⟨cs,_,rfl,hb.symm,fun vs hv=>qdQ f.hs hv⟩))
    | _=>exact .inr (.inl hb.symm)) (fun b hb k' hk'=>by
   obtain⟨cs,hc,hc2⟩:=f.hs.impc b hb
   rw[List.getElem?_map,hc] at hk'
   simp only[Option.map_some,Option.some.injEq] at hk'
   subst hk'
   cases cs<;>first|(cases hc2;done)|rfl)
  refine⟨{ X1 with h:=X1.h.map (qxT X1.h) },f.w,?_,d1,?_,f.ext.y⟩
  ·simp only[qdi,hf]
  ·have:=(qyt f.hs (hr.ext f.ext)).ext d2
   simp only[qdi]
   rw[←hf]
   exact this
theorem qBm{B:Base}{X:Ctx}(hs:HSim B X)(p:Option (Nat×TypeId×List Sh)){r:AV×List Blk}{v:Value}(hr:Rep X r.1 v)(hh:X.h=r.2) :
  ∃X',X'.w=X.w∧X'.h=(qGt p r).2∧HSim B X'∧Rep X' (qGt p r).1 v∧X'.y=X.y:=by
 cases p with
 | none=>exact⟨X,rfl,hh,hs,hr,rfl⟩
 | some p=>
  obtain⟨i,e,sh⟩:=p
  obtain⟨a,h⟩:=r
  simp only at hr hh
  subst hh
  simp only[qGt]
  cases hn:qEu i a with
  | false=>exact⟨X,rfl,rfl,hs,hr,rfl⟩
  | true=>
   simp only
   have hw:=PushW.same X
   have hk:yH (X.pushW (.vec e sh []) none X.w) X.h.length (.vec e sh []):=.inl ⟨by simp[Ctx.pushW],rfl⟩
   have hs1:=HSim.push hs hw hk
   have hx:=Ctx.push_ext hs (.vec e sh []) hw
   have hrep:Rep (X.pushW (.vec e sh []) none X.w) (.vec X.h.length) (.slice none 0 0):=by
    refine .vec _ _ _ _ (by simp[Ctx.pushW]) fun sh' m hv=>?_
    unfold qwz
    simp[Ctx.pushW]
   refine⟨X.pushW (.vec e sh []) none X.w,rfl,by simp[Ctx.pushW],hs1,?_,rfl⟩
   cases a with
   | nils=>
    cases hr
    exact hrep
   | tuple vs=>
    cases hr with
    | tuple _ us hu=>
     simp only[qEu] at hn
     cases hg:vs[i]? with
     | none=>rw[hg] at hn;cases hn
     | some x=>
      rw[hg] at hn
      cases x<;>first|(cases hn;done)|skip
      obtain⟨u,g1,g2⟩:=hu.get i _ hg
      have hue:u=.slice none 0 0:=by cases g2;rfl
      subst hue
      have hset:=RepL.set hrep (hu.ext hx) i
      have he:us.set i (.slice none 0 0)=us:=by
       apply List.ext_getElem?
       intro j
       by_cases hj:j=i
       ·subst hj;rw[List.getElem?_set_self (qt g1),g1]
       ·rw[List.getElem?_set_ne (Ne.symm hj)]
      rw[he] at hset
      exact .tuple _ _ hset
   | _=>cases i<;>cases hn
theorem FOut.weaken1{o:FOut}{B:Base}{X:Ctx}{r:AV×List Blk}{ps:List PV}{v:Value}(hk:qcH B.imps.length o.h=true)(h:o.take1 r=some ps)(hs:HSim B X)(hr:Rep X r.1 v)(hh:X.h=r.2) :
  ps.map PV.kind=o.kinds∧∃X',X'.w=X.w∧X'.h=(o.make ps).2∧HSim B X'∧Rep X' (o.make ps).1 v∧X'.y=X.y:=by
 unfold FOut.take1 at h
 obtain⟨x,y,h1,h2,rfl⟩:=q42 h
 obtain⟨hc1,hc2⟩:=qpC hk
 obtain⟨c1,c2⟩:=qyu hs (n:=o.h.length) hc1
 obtain⟨a1,a2,a3⟩:=AP.take_ok (X:=X.cut o.h.length) _ _ x y h1
 obtain⟨b1,b2,b3,b4,b5⟩:=BP.takeL_ok (X:=X.cut o.h.length) _ _ y [] h2
 have hch:(X.cut o.h.length).h=(r.2.take o.h.length).map (Blk.ren (qww o.h.length)):=by rw[←hh];rfl
 rw[←hch] at b3 b5
 rw[List.append_nil] at b3 b5
 obtain⟨d1,d2⟩:=qe5 c1 (h':=(BP.makeL o.h y).1) b3 (fun b k' hb=>by obtain⟨k0,e1,e2,_⟩:=b5 b k' hb;exact⟨k0,e1,e2⟩)
  (fun b hb k' hk'=>by
   obtain⟨q,q1,q2⟩:=hc2 b hb
   obtain⟨k0,_,_,e3⟩:=b5 b k' hk'
   exact e3 q q1 q2)
 refine⟨by simp[FOut.kinds,a2,b2],{ X.cut o.h.length with h:=(BP.makeL o.h y).1 },rfl,?_,d1,?_,rfl⟩
 ·simp only[FOut.make,a1]
 ·simp only[FOut.make]
  exact(a3 _ (hr.ren c2.toMove0)).ext d2
theorem FOut.weaken{o:FOut}{B:Base}{X:Ctx}{r:AV×List Blk}{ps:List PV}{v:Value}(hk:qcH B.imps.length o.h=true)(h:o.take r=some ps)(hs:HSim B X)(hr:Rep X r.1 v)(hh:X.h=r.2) :
  ps.map PV.kind=o.kinds∧∃X',X'.w=X.w∧X'.h=(o.make ps).2∧HSim B X'∧Rep X' (o.make ps).1 v∧X'.y=X.y:=by
 obtain⟨X1,h1,h2,h3,h4,h5⟩:=qBm hs o.pro hr hh
 obtain⟨g1,X2,g2,g3,g4,g5,g6⟩:=FOut.weaken1 hk h h3 h4 h2
 exact⟨g1,X2,g2.trans h1,g3,g4,g5,g6.trans h5⟩
theorem qCp{E:Env}{P:Program}(hm:P.follows .mixedOrders=true)(hE:E.tok P)(hS:E.specs P)(hL:E.loopsOK P)(hb:E.bodies P){f:FuncId}{fn:Func}(hf:P.funcs[f]?=some fn)
  (hn:(fn.name == "runtime.NumGoroutine")=false) (hbd:fn.body.isNone=false) {n:Nat} {fz:Bool} {i:FIn} {outs:List FOut} {T:List PV→TR}
  (hi:i.h.length=E.nimp∧i.h.all BP.isCells=true) (ho:(outs.all fun o=>qcH E.nimp o.h)=true)
  (hT:∀ps r,ps.map PV.kind=i.kinds→(T ps).run=some r→((qye E n f fn (i.make ps).1 (i.make ps).2).bind fun q=>qFo outs 0 (qdi fz q)).run=some r) :
  qS P E.glob f (q9 i outs T):=by
 refine⟨q2O hf hn hbd,fun B X args vargs r hs hen hgl ha h=>?_⟩
 obtain⟨ps,j,qs,h1,h2,h3⟩:=qvP h
 unfold FIn.take at h1
 obtain⟨x,y,g1,g2,rfl⟩:=q42 h1
 obtain⟨a1,a2,a3⟩:=AP.takeL_ok (X:=X) _ _ x y g1
 obtain⟨b1,b2,b3,b4,b5⟩:=BP.takeL_ok (X:=X) _ _ y [] g2
 rw[List.append_nil] at b3 b5
 have himp:B.imps.length=X.h.length:=by rw[hen.imps];simp
 obtain⟨d1,d2⟩:=qe5 hs (h':=(BP.makeL i.h y).1) b3 (fun b k' hb=>by obtain⟨k0,e1,e2,_⟩:=b5 b k' hb;exact⟨k0,e1,e2⟩)
  (fun b hb k' hk'=>by
   obtain⟨k0,_,_,e3⟩:=b5 b k' hk'
   have hlt:b<i.h.length:=by omega
   exact e3 i.h[b] (List.getElem?_eq_getElem hlt) (List.all_eq_true.1 hi.2 _ (List.getElem_mem hlt)))
 have hkd:(x++y).map PV.kind=i.kinds:=by simp[FIn.kinds,a2,b2]
 have hgl1:qe4 E.glob ({ X with h:=(BP.makeL i.h y).1 }:Ctx):=qpl (X:=X) (fun _ h=>h) rfl rfl hgl
 obtain⟨q,k1,k2⟩:=bind_some (hT _ _ hkd h2)
 have hmk:i.make (x++y)=((AP.makeL i.args (x++y)).1,(BP.makeL i.h y).1):=by simp only[FIn.make,a1]
 rw[hmk] at k1
 have hcalls:=qvR hm hE hS hL hb hf (n:=n) d1 (by omega) hgl1 ((a3 _ ha).ext d2) k1
 refine hcalls.mono fun e w' ⟨v,X',e1,e2,e3,e4,e5,e6⟩=>?_
 obtain⟨X2,p1,p2,p3,p4,p5⟩:=qrI e5 fz e3 e4
 obtain⟨_,o,q1,q2⟩:=qyF _ _ _ _ _ k2
 have hco:qcH B.imps.length o.h=true:=by
  rw[himp,←b4,hi.1]
  exact List.all_eq_true.1 ho o (List.mem_of_getElem? q1)
 obtain⟨m1,X3,m2,m3,m4,m5,m6⟩:=FOut.weaken hco q2 p3 p4 p2
 have hre:=qti h2 outs 0 o r (Nat.zero_le _) q1 m1 h3
 subst hre
 exact⟨v,X3,e1,by rw[m2,p1,e2],m5,m3,m4,(m6.trans p5).trans e6⟩
def qGV(l:List (FIn×q1h)):q1h:=fun args h=>match l.find? fun c=>(c.1.take args h).isSome with
 | some c=>c.2 args h
 | none=>.fail
theorem qDi{P:Program}{gl:List (Nat×AV)}{f:FuncId}{l:List (FIn×q1h)}(he:ql8 P f)(hl:∀c,c∈l→qS P gl f c.2):qS P gl f (qGV l):=by
 refine⟨he,fun B X args vargs r hs hen hg ha h=>?_⟩
 unfold qGV at h
 cases hc:l.find? fun c=>(c.1.take args X.h).isSome with
 | none=>rw[hc] at h;cases h
 | some c=>
  rw[hc] at h
  exact(hl c (List.mem_of_find?_eq_some hc)).2 B X args vargs r hs hen hg ha h
theorem qEG{P:Program}{gl:List (Nat×AV)}{f:FuncId}:∀c,c∈([]:List (FIn×q1h))→qS P gl f c.2:=fun _ h=>by cases h
theorem qyV{P:Program}{gl:List (Nat×AV)}{f:FuncId}{i:FIn}{G:q1h}{l:List (FIn×q1h)}(h:qS P gl f G)(t:∀c,c∈l→qS P gl f c.2):∀c,c∈(i,G)::l→qS P gl f c.2:=fun c hc=>by
 rcases List.mem_cons.1 hc with rfl|hc
 ·exact h
 ·exact t c hc
end Go.Eng

namespace Go.Eng
def q65(fn:Func):Code:=fn.body.getD .skip
def zb(fn:Func)(k:Nat):Code:=((zk (q65 fn))[k]?).getD .skip
def qlZ:Code→Code
 | .loop c=>c
 | c=>c
def qGW(E:Env)(f:FuncId)(fn:Func)(k:Nat):qzF:=match zb fn k with
 | .rangeFunc _ ps a b=>qvd (yG E (q93 E 9) (q7U E) (qji E (q93 E 9)) f a (k+1)) (yG E (q93 E 9) (q7U E) (qji E (q93 E 9)) f b (k+1+zU a)) ps.toList
 | _=>fun _ _=>.fail
def hdl(E:Env):Option (FuncId×Func×Nat)→q6n
 | none=>q93 E 9
 | some (fc,fnc,kc)=>qDx (qGW E fc fnc kc) (q93 E 9)
def rgh(E:Env):Option (FuncId×Func×Nat)→qe8
 | none=>qji E (q93 E 9)
 | some _=>quE
def qmo(E:Env)(y:Option (FuncId×Func×Nat))(f:FuncId)(fn:Func)(k:Nat)(st:St):Tree (Ex×St):=yG E (hdl E y) (q7U E) (rgh E y) f (qlZ (zb fn k)) (k+1) st
def wD(E:Env)(f:FuncId)(fn:Func)(k:Nat)(tin:Tmpl)(outs:List Out)(ps:List PV):TR:=(qmo E none f fn k (tin.make ps)).bind (qDN tin outs)
def qv3(E:Env)(y:Option (FuncId×Func×Nat))(f:FuncId)(fn:Func)(k:Nat)(tin:Tmpl)(outs:List Out)(ps:List PV):TR:=(qmo E y f fn k (tin.make ps)).bind (qDN tin outs)
def qp(E:Env)(f:FuncId)(fn:Func)(fz:Bool)(i:FIn)(outs:List FOut)(ps:List PV):TR:=(qye E 9 f fn (i.make ps).1 (i.make ps).2).bind fun q=>qFo outs 0 (qdi fz q)
def qht:Nat:=2^70
def qg(S:List PV→TR)(ps:List PV):TR:=qkN S qht ps
structure EnvOK (E:Env) (P:Program):Prop where
 tok:E.tok P
 specs:E.specs P
 loops:E.loopsOK P
 bodies:E.bodies P
theorem qch{P:Program}{E:Env}(h:E.tt.map (fun x=>qwd P x.1)=E.tt.map (·.2)):E.tok P:=by
 intro x hx
 have:∀(l:List (TypeId×TI)),l.map (fun x=>qwd P x.1)=l.map (·.2)→∀x,x∈l→qwd P x.1=x.2:=by
  intro l
  induction l with
  | nil=>intro _ x hx;cases hx
  | cons y l ih=>
   intro h x hx
   simp only[List.map_cons,List.cons.injEq] at h
   rcases List.mem_cons.1 hx with rfl|hx
   ·exact h.1
   ·exact ih h.2 x hx
 exact this _ h x hx
theorem aln{α:Type}{p:α→Prop}:∀x,x∈([]:List α)→p x:=fun _ h=>by cases h
theorem alc{α:Type}{p:α→Prop}{a:α}{l:List α}(h:p a)(t:∀x,x∈l→p x):∀x,x∈a::l→p x:=fun x hx=>by
 rcases List.mem_cons.1 hx with rfl|hx
 ·exact h
 ·exact t x hx
theorem qAQ {P:Program} {f:FuncId} {fn:Func} (h:P.funcs[f]?=some fn) (hn:(fn.name == "runtime.NumGoroutine")=false):P.funcs[(f,fn).1]?=some (f,fn).2∧((f,fn).2.name == "runtime.NumGoroutine")=false:=⟨h,hn⟩
theorem qEK{P:Program}{gl:List (Nat×AV)}{ni:Nat}{f k:Nat}{fn:Func}{L:St→Tree (Ex×St)}(hf:P.funcs[f]?=some fn)(hb:fn.body.isSome=true)
  (hn:((zk (q65 fn))[k]?).isSome=true) {it:List (FuncId×FuncId×Nat)} (hg:qm P gl ni (qx P it f) (zb fn k) L) :
  ∃fn' c c',P.funcs[((f,k),L).1.1]?=some fn'∧fn'.body=some c∧(zk c)[((f,k),L).1.2]?=some c'∧qm P gl ni (qx P it ((f,k),L).1.1) c' ((f,k),L).2:=by
 refine⟨fn,q65 fn,zb fn k,hf,?_,?_,hg⟩
 ·unfold q65
  cases h:fn.body with
  | none=>rw[h] at hb;cases hb
  | some c=>rfl
 ·show (zk (q65 fn))[k]?=some (zb fn k)
  unfold zb
  cases h:(zk (q65 fn))[k]? with
  | none=>rw[h] at hn;cases hn
  | some c=>rfl
def qvm:Code→Bool
 | .loop _=>true
 | _=>false
theorem qxh{A C:List Code}(hA:∀(k:Nat) (d:Code),A[k]?=some d→∀(j:Nat) (c':Code),(zk d)[j]?=some c'→A[k+j]?=some c')(hC:∀(k:Nat) (d:Code),C[k]?=some d→∀(j:Nat) (c':Code),(zk d)[j]?=some c'→C[k+j]?=some c') :
  ∀(k:Nat) (d:Code),(A++C)[k]?=some d→∀(j:Nat) (c':Code),(zk d)[j]?=some c'→(A++C)[k+j]?=some c':=by
 intro k d hd j c' hc
 rcases Nat.lt_or_ge k A.length with h|h
 ·rw[List.getElem?_append_left h] at hd
  have:=hA k d hd j c' hc
  rw[List.getElem?_append_left (qt this)];exact this
 ·rw[List.getElem?_append_right h] at hd
  have:=hC _ d hd j c' hc
  rw[List.getElem?_append_right (by omega),show k+j-A.length=k-A.length+j by omega];exact this
theorem qu5{c:Code}{l:List Code}(hc:zk c=c::l)(hl:∀(k:Nat) (d:Code),l[k]?=some d→∀(j:Nat) (c':Code),(zk d)[j]?=some c'→l[k+j]?=some c') :
  ∀(k:Nat) (d:Code),(c::l)[k]?=some d→∀(j:Nat) (c':Code),(zk d)[j]?=some c'→(c::l)[k+j]?=some c':=by
 intro k d hd j c' hj
 cases k with
 | zero=>
  simp only[List.getElem?_cons_zero,Option.some.injEq] at hd
  subst hd
  rw[hc] at hj
  simpa using hj
 | succ k=>
  simp only[List.getElem?_cons_succ] at hd
  have:=hl k d hd j c' hj
  rw[show k+1+j=(k+j)+1 by omega,List.getElem?_cons_succ];exact this
theorem qvV:∀(c:Code) (k:Nat) (d:Code),(zk c)[k]?=some d→∀(j:Nat) (c':Code),(zk d)[j]?=some c'→(zk c)[k+j]?=some c':=by
 intro c
 induction c with
 | seq a b iha ihb=>exact qu5 rfl (qxh iha ihb)
 | cond x a b iha ihb=>exact qxh iha ihb
 | block id c ih=>exact ih
 | scope c ih=>exact ih
 | loop c ih=>exact qu5 rfl ih
 | rangeFunc x ps a b iha ihb=>exact qu5 rfl (qxh iha ihb)
 | _=>intro k d hd;simp[zk] at hd
theorem qBp{fn:Func}{k:Nat}(h:((zk (q65 fn))[k]?).isSome=true):(zk (q65 fn))[k]?=some (zb fn k):=by
 unfold zb
 cases h':(zk (q65 fn))[k]? with
 | none=>rw[h'] at h;cases h
 | some c=>rfl
def qGp(E:Env)(P:Program)(f:FuncId):Option (FuncId×Func×Nat)→Prop
 | none=>q7Y E.iter f=true
 | some (fc,fnc,kc)=>P.funcs[fc]?=some fnc∧(qsq E.iter f fc kc&&(q7Y E.iter fc&&(fnc.body.isSome&&((zk (q65 fnc))[kc]?).isSome)))=true
theorem qtj{fn:Func}(h:fn.body.isSome=true):fn.body=some (q65 fn):=by
 unfold q65
 cases hb:fn.body with
 | none=>rw[hb] at h;cases h
 | some c=>rfl
theorem qF0{E:Env}{P:Program}(hm:P.follows .mixedOrders=true)(h:EnvOK E P){f:FuncId}{y:Option (FuncId×Func×Nat)}(hy:qGp E P f y):(∀B,qx P E.iter f B→CallOK E P (hdl E y) B)∧qjA E P (rgh E y):=by
 have hcall:=qgp hm h.tok h.specs h.loops h.bodies 9
 cases y with
 | none=>exact⟨fun B _=>hcall B,qeb hm h.tok h.specs h.loops h.bodies hcall⟩
 | some y=>
  obtain⟨fc,fnc,kc⟩:=y
  obtain⟨hf,hc⟩:=hy
  simp only[Bool.and_eq_true] at hc
  obtain⟨c1,c2,c3,c4⟩:=hc
  refine⟨fun B hB=>⟨(hcall B).fn,?_⟩,qnf E P⟩
  have hfi:qhQ E.iter f=some (fc,kc):=by
   unfold qsq at c1
   split at c1
   ·rename_i z hz
    simp only[Bool.and_eq_true] at c1
    rw[hz]
    obtain⟨z1,z2⟩:=z
    have e1:z1=fc:=Nat.eq_of_beq_eq_true c1.1
    have e2:z2=kc:=Nat.eq_of_beq_eq_true c1.2
    rw[e1,e2]
   ·cases c1
  obtain⟨_,hI⟩:=hB
  rw[hfi] at hI
  have hnode:=qBp c4
  have hsub:=qvV (q65 fnc) kc _ hnode
  intro args st r X a vargs hs ha hr
  simp only[hdl,qDx,qGW] at hr
  cases hn:zb fnc kc with
  | rangeFunc x ps c d=>
   rw[hn] at hr hnode hsub
   refine qz9 hf (qtj c3) hnode c2 (fun B X st act r hbo hs hr n=>?_) (fun B X st act r hbo hs hr n=>?_) hI args st r X a vargs hs ha hr
   ·refine qcf hm h.tok h.specs h.loops hf (qtj c3) (fun B _=>hcall B) (qcp hm h.tok h.specs h.loops h.bodies) (q7n E) (qeb hm h.tok h.specs h.loops h.bodies hcall) c (kc+1) (fun j c' hj=>?_) hbo hs hr
    have:=hsub (1+j) c' (by simp only[zk];rw[Nat.add_comm,List.getElem?_cons_succ,List.getElem?_append_left (qt hj)];exact hj)
    rw[show kc+1+j=kc+(1+j) by omega];exact this
   ·refine qcf hm h.tok h.specs h.loops hf (qtj c3) (fun B _=>hcall B) (qcp hm h.tok h.specs h.loops h.bodies) (q7n E) (qeb hm h.tok h.specs h.loops h.bodies hcall) d (kc+1+zU c) (fun j c' hj=>?_) hbo hs hr
    have:=hsub (1+zU c+j) c' (by
     simp only[zk]
     rw[show 1+zU c+j=(zU c+j)+1 by omega,List.getElem?_cons_succ,List.getElem?_append_right (by rw[kh];omega),kh]
     rw[show zU c+j-zU c=j by omega];exact hj)
    rw[show kc+1+zU c+j=kc+(1+zU c+j) by omega];exact this
  | _=>rw[hn] at hr;cases hr
theorem q8b{E:Env}{P:Program}(hm:P.follows .mixedOrders=true)(h:EnvOK E P){f k:Nat}{fn:Func}(hf:P.funcs[f]?=some fn)
  (hlp:qvm (zb fn k)=true) {tin:Tmpl} {outs:List Out} {S:List PV→TR} {y:Option (FuncId×Func×Nat)} (hy:qGp E P f y)
  (hk:(tin.ok E.nimp&&outs.all fun o=>o.tm.ok E.nimp)=true)
  (hnk:(fn.body.isSome&&((zk (q65 fn))[k]?).isSome)=true)
  (hS:∀ps,S ps=qv3 E y f fn k tin outs ps):qm P E.glob E.nimp (qx P E.iter f) (zb fn k) (qj tin outs (qg S)):=by
 simp only[Bool.and_eq_true] at hk hnk
 have hnode:=qBp hnk.2
 have hsub:∀j c',(zk (qlZ (zb fn k)))[j]?=some c'→(zk (q65 fn))[k+1+j]?=some c':=by
  intro j c' hj
  have:=qvV (q65 fn) k _ hnode (1+j) c' (by
   cases hn:zb fn k<;>simp[hn,qvm] at hlp
   rw[hn] at hj
   simp only[zk,qlZ] at hj ⊢
   rw[Nat.add_comm,List.getElem?_cons_succ];exact hj)
  rw[show k+1+j=k+(1+j) by omega];exact this
 have hc:zb fn k=.loop (qlZ (zb fn k)):=by
  cases hn:zb fn k<;>simp[hn,qvm] at hlp
  rfl
 rw[hc]
 refine qBs (ev:=qmo E y f fn k) (S:=S) ?_ hk.1 hk.2 (fun ps r _ hr=>by rw[hS] at hr;exact hr) (fun ps=>⟨qht,rfl⟩)
 intro n0 B X st a r hbo hs hr
 obtain⟨w1,w2⟩:=qF0 hm h hy
 exact qcf hm h.tok h.specs h.loops hf (qtj hnk.1) w1 (qcp hm h.tok h.specs h.loops h.bodies) (q7n E) w2 (qlZ (zb fn k)) (k+1) hsub hbo hs hr
theorem qwQ{E:Env}{P:Program}(hm:P.follows .mixedOrders=true)(h:EnvOK E P){f k:Nat}{fn:Func}(hf:P.funcs[f]?=some fn)
  (hlp:qvm (zb fn k)=true) {tin:Tmpl} {outs:List Out} {S:List PV→TR} (hni:q7Y E.iter f=true)
  (hk:(tin.ok E.nimp&&outs.all fun o=>o.tm.ok E.nimp)=true)
  (hnk:(fn.body.isSome&&((zk (q65 fn))[k]?).isSome)=true)
  (hS:∀ps,S ps=wD E f fn k tin outs ps):qm P E.glob E.nimp (qx P E.iter f) (zb fn k) (qj tin outs (qg S)):=
 q8b hm h hf hlp (y:=none) hni hk hnk hS
theorem qqg{E:Env}{P:Program}(hm:P.follows .mixedOrders=true)(h:EnvOK E P){f:FuncId}{fn:Func}(hf:P.funcs[f]?=some fn)
  (hn:((fn.name == "runtime.NumGoroutine")||fn.body.isNone)=false) {fz:Bool} {i:FIn} {outs:List FOut} {T:List PV→TR}
  (hk:(Nat.beq i.h.length E.nimp&&i.h.all BP.isCells&&outs.all fun o=>qcH E.nimp o.h)=true)
  (hT:∀ps,T ps=qp E f fn fz i outs ps):qS P E.glob f (q9 i outs T):=by
 simp only[Bool.or_eq_false_iff] at hn
 simp only[Bool.and_eq_true] at hk
 exact qCp hm h.tok h.specs h.loops h.bodies hf hn.1 hn.2 (n:=9) (fz:=fz) ⟨Nat.eq_of_beq_eq_true hk.1.1,hk.1.2⟩ hk.2 (fun ps r _ hr=>by rw[hT] at hr;exact hr)
theorem b1 {P:Program} {f:FuncId} {fn:Func} (h:P.funcs[f]?=some fn) (hn:(fn.name == "runtime.NumGoroutine")=false:=by kernel_rfl):∀x,x∈[(f,fn)]→P.funcs[x.1]?=some x.2∧(x.2.name == "runtime.NumGoroutine")=false:=alc (qAQ h hn) aln
theorem bk {P:Program} {f:FuncId} {fn:Func} (h:P.funcs[f]?=some fn) (hn:(fn.name == "runtime.NumGoroutine")=false:=by kernel_rfl):P.funcs[(f,fn).1]?=some (f,fn).2∧((f,fn).2.name == "runtime.NumGoroutine")=false:=qAQ h hn
theorem lk{P:Program}{gl:List (Nat×AV)}{ni:Nat}{f k:Nat}{fn:Func}{L:St→Tree (Ex×St)}(hf:P.funcs[f]?=some fn)
  {it:List (FuncId×FuncId×Nat)} (hg:qm P gl ni (qx P it f) (zb fn k) L) (hb:fn.body.isSome=true:=by kernel_rfl) (hn:((zk (q65 fn))[k]?).isSome=true:=by kernel_rfl) :
  ∃fn' c c',P.funcs[((f,k),L).1.1]?=some fn'∧fn'.body=some c∧(zk c)[((f,k),L).1.2]?=some c'∧qm P gl ni (qx P it ((f,k),L).1.1) c' ((f,k),L).2:=qEK hf hb hn hg
theorem sk(E:Env){P:Program}(hm:P.follows .mixedOrders=true)(ht:E.tt.map (fun x=>qwd P x.1)=E.tt.map (·.2))(hs:E.specs P)(hl:E.loopsOK P)(hb:E.bodies P){f:FuncId}{fn:Func}(hf:P.funcs[f]?=some fn)
  {i:FIn} {outs:List FOut} {T:List PV→TR} (hT:∀ps,T ps=qp E f fn true i outs ps:=by exact fun _=>rfl) (hn:((fn.name == "runtime.NumGoroutine")||fn.body.isNone)=false:=by kernel_rfl)
  (hk:(Nat.beq i.h.length E.nimp&&i.h.all BP.isCells&&outs.all fun o=>qcH E.nimp o.h)=true:=by kernel_rfl):qS P E.glob f (q9 i outs T):=
 qqg hm ⟨qch ht,hs,hl,hb⟩ hf hn hk hT
theorem gk(E:Env){P:Program}(hm:P.follows .mixedOrders=true)(ht:E.tt.map (fun x=>qwd P x.1)=E.tt.map (·.2))(hs:E.specs P)(hl:E.loopsOK P)(hb:E.bodies P){f k:Nat}{fn:Func}(hf:P.funcs[f]?=some fn)
  {tin:Tmpl} {outs:List Out} {S:List PV→TR} (hS:∀ps,S ps=wD E f fn k tin outs ps:=by exact fun _=>rfl) (hlp:qvm (zb fn k)=true:=by kernel_rfl) (hni:q7Y E.iter f=true:=by kernel_rfl)
  (hk:(tin.ok E.nimp&&outs.all fun o=>o.tm.ok E.nimp)=true:=by kernel_rfl) (hnk:(fn.body.isSome&&((zk (q65 fn))[k]?).isSome)=true:=by kernel_rfl) :
  qm P E.glob E.nimp (qx P E.iter f) (zb fn k) (qj tin outs (qg S)):=
 qwQ hm ⟨qch ht,hs,hl,hb⟩ hf hlp hni hk hnk hS
end Go.Eng

namespace Go.Eng
open Go.Shelf Go.RowKit Go.Proofs Go.Sort
theorem qnk(w:World)(q:Nat)(os:Array Obj):Below w.heap.size w (grow (w.drewN q) os):=
 ⟨rfl,rfl,rfl,by simp[grow],fun i hi=>by
  show ((w.drewN q).heap++os)[i]?=_
  rw[Array.getElem?_append_left (by show i<w.heap.size;omega)]
  rfl⟩
theorem qvJ(w:World)(e:TypeId)(s:ByteArray):Below w.heap.size w (Lib.bytesWorld w e s):=
 ⟨rfl,rfl,rfl,by rw[Lib.bytesWorld_size];omega,fun k hk=>Lib.bytesWorld_at_old w e s k (by omega)⟩
theorem HSim.grow{B:Base}{X:Ctx}(hs:HSim B X){w':World}(hb:Below X.w.heap.size X.w w'):HSim B { X with w:=w' }∧Ext X { X with w:=w' }:=by
 have hold:∀n (o:Obj),X.w.heap[n]?=some o→w'.heap[n]?=some o:=fun n o h=>(hb.block n (Array.getElem?_eq_some_iff.1 h).1).trans h
 have hx:Ext X { X with w:=w' }:=Move.of (fun _ h=>h) (fun a ha=>World.cell?_of_block (hb.block _ (hs.ltM _ ha))) (fun b b' hb' h=>by
  cases h
  exact⟨hb',rfl,fun _ _ h=>h,fun _ _ _ n _ c T fr h=>⟨c,T,fr,hold n _ h,rfl⟩⟩)
 refine⟨⟨fun b k hk=>?_,hs.inj,hs.notM,fun n hn=>Nat.lt_of_lt_of_le (hs.ltM n hn) hb.size,hs.M0,hs.newM,hb.os.trans hs.os,hb.tape.trans hs.tape,hb.output.trans hs.output,Nat.le_trans hs.size hb.size,
  fun n hn hni=>?_,hs.imps,hs.impc,hs.fresh,fun p hp=>?_⟩,hx⟩
 ·by_cases hd:k=.dead
  ·subst hd;trivial
  ·exact yH.ext hx rfl (fun n hn=>hb.block n (hs.lt hk hd hn)) (hs.blk b k hk)
 ·show w'.heap[n]?=_
  rw[hb.block n (Nat.lt_of_lt_of_le hn hs.size)]
  exact hs.frame n hn hni
 ·obtain⟨q1,q2,q3⟩:=hs.kept p hp
  exact⟨hold _ _ q1,q2,q3⟩
theorem qhU{P:Program}{gl:List (Nat×AV)}{f:FuncId}{i:FIn}{o:FOut}{T:List PV→TR}(he:ql8 P f)(hi:i.h.all BP.isCells=true)
  (h:∀(B:Base) (X:Ctx) (ps:List PV) (j:Nat) (qs:List PV) (vargs:List Value),HSim B X→qe4 gl X→X.h=(i.make ps).2→RepL X (i.make ps).1 vargs→ps.map PV.kind=i.kinds→(T ps).run=some (j,qs) →
   j=0∧qs.map PV.kind=o.kinds∧(o.make qs).2=(i.make ps).2∧Calls P f vargs.toArray X.w fun e w'=>∃v,e=.returned v∧Below X.w.heap.size X.w w'∧Rep X (o.make qs).1 v) :
  qS P gl f (q9 i [o] T):=by
 refine⟨he,fun B X args vargs r hs hen hgl ha hr=>?_⟩
 obtain⟨ps,j,qs,h1,h2,h3⟩:=qvP hr
 unfold FIn.take at h1
 obtain⟨x,y,g1,g2,rfl⟩:=q42 h1
 obtain⟨a1,a2,a3⟩:=AP.takeL_ok (X:=X) _ _ x y g1
 obtain⟨b1,b2,b3,b4,b5⟩:=BP.takeL_ok (X:=X) _ _ y [] g2
 rw[List.append_nil] at b3 b5
 have himp:B.imps.length=X.h.length:=by rw[hen.imps];simp
 obtain⟨d1,d2⟩:=qe5 hs (h':=(BP.makeL i.h y).1) b3 (fun b k' hb=>by obtain⟨k0,e1,e2,_⟩:=b5 b k' hb;exact⟨k0,e1,e2⟩)
  (fun b hb k' hk'=>by
   obtain⟨k0,_,_,e3⟩:=b5 b k' hk'
   have hlt:b<i.h.length:=by omega
   exact e3 i.h[b] (List.getElem?_eq_getElem hlt) (List.all_eq_true.1 hi _ (List.getElem_mem hlt)))
 have hkd:(x++y).map PV.kind=i.kinds:=by simp[FIn.kinds,a2,b2]
 have hgl1:qe4 gl ({ X with h:=(BP.makeL i.h y).1 }:Ctx):=fun z hz=>⟨(hgl z hz).1,(hgl z hz).2.move d2.M d2.w ((hgl z hz).2.1.ext d2)⟩
 have hmk:i.make (x++y)=((AP.makeL i.args (x++y)).1,(BP.makeL i.h y).1):=by simp only[FIn.make,a1]
 obtain⟨k1,k2,k3,k4⟩:=h B _ (x++y) j qs vargs d1 hgl1 (by rw[hmk]) (by rw[hmk];exact(a3 _ ha).ext d2) hkd h2
 subst k1
 refine k4.mono fun e w' ⟨v,e1,e2,e3⟩=>?_
 obtain⟨m1,m2⟩:=d1.grow e2
 have hre:=qti h2 [o] 0 o r (Nat.zero_le _) rfl k2 h3
 subst hre
 exact⟨v,_,e1,rfl,e3.ext m2,by rw[k3,hmk],m1,rfl⟩
theorem qyK{X:Ctx}{s:List UInt8}{vs:List Value}(h:RepL X [.str s] vs):vs=[.string ⟨s.toArray⟩]:=by
 cases h with
 | cons h t=>cases h;cases t;rfl
theorem qyO{X:Ctx}{k:IntKind}{n:Int}{vs:List Value}(h:RepL X [.int k n] vs):vs=[.int k n]:=by
 cases h with
 | cons h t=>cases h;cases t;rfl
theorem qqT{X:Ctx}{s t:List UInt8}{vs:List Value}(h:RepL X [.str s,.str t] vs):vs=[.string ⟨s.toArray⟩,.string ⟨t.toArray⟩]:=by
 cases h with
 | cons h t=>cases h;rw[qyK t]
theorem qF7{ps:List PV}(h:ps.map PV.kind=[.s]):∃s,ps=[.s s]:=by
 match ps,h with
 | [.s s],_=>exact⟨s,rfl⟩
theorem qEo{ps:List PV}(h:ps.map PV.kind=[.i]):∃s,ps=[.i s]:=by
 match ps,h with
 | [.i s],_=>exact⟨s,rfl⟩
theorem qud{ps:List PV}(h:ps.map PV.kind=[.s,.s]):∃s t,ps=[.s s,.s t]:=by
 match ps,h with
 | [.s s,.s t],_=>exact⟨s,t,rfl⟩
def quK:List PV→TR
 | [.s s,.s [c]]=>.leaf (0,[.i (Lib.indexByte s c)])
 | _=>.fail
theorem qxp{P:Program}{ρ:Ren}(L:Lays.n219 P ρ)(he:ql8 P (ρ.f 219)){gl:List (Nat×AV)} :
  qS P gl (ρ.f 219) (q9 { args:=[.str,.str],h:=[] } [{ res:=.int .i64,h:=[] }] quK):=
 qhU he rfl fun B X ps j qs vargs hs hg hh ha hk hT=>by
  obtain⟨s,t,rfl⟩:=qud hk
  unfold quK at hT
  split at hT
  ·rename_i s' c hps
   simp only[List.cons.injEq,PV.s.injEq,and_true] at hps
   obtain⟨rfl,rfl⟩:=hps
   cases hT
   have:=qqT ha
   subst this
   refine⟨rfl,rfl,rfl,(Any.stringslite_Index_one L ⟨s.toArray⟩ c X.w).mono fun e w' ⟨h1,h2⟩=>?_⟩
   subst h2
   exact⟨_,h1,Below.refl _ _,.int _ _⟩
  ·cases hT
def qoI:List PV→TR
 | [.s s,.s t]=>.leaf (0,[.i (Lib.compareBytes s t)])
 | _=>.fail
theorem quD{P:Program}{ρ:Ren}(L:Lays.n106 P ρ)(he:ql8 P (ρ.f 106)){gl:List (Nat×AV)} :
  qS P gl (ρ.f 106) (q9 { args:=[.str,.str],h:=[] } [{ res:=.int .i64,h:=[] }] qoI):=
 qhU he rfl fun B X ps j qs vargs hs hg hh ha hk hT=>by
  obtain⟨s,t,rfl⟩:=qud hk
  cases hT
  have:=qqT ha
  subst this
  refine⟨rfl,rfl,rfl,(Any.strings_Compare L ⟨s.toArray⟩ ⟨t.toArray⟩ X.w).mono fun e w' ⟨h1,h2⟩=>?_⟩
  subst h2
  exact⟨_,h1,Below.refl _ _,.int _ _⟩
def qCn:List PV→TR
 | [.s s,.s t]=>if s.length≤9223372036854775807∧t.length<4294967281∧t.all (fun b=>decide (b.toNat<128))=true then .leaf (0,[.s (Lib.trimS s t)]) else .fail
 | _=>.fail
theorem qAd{P:Program}{ρ:Ren}(L:Lays.n160 P ρ)(he:ql8 P (ρ.f 160))(h116:(P.info? (ρ.t 116)).map (fun i=>(i.zero,i.size))=some (some (.agg (Array.replicate 256 (.bool false))),256)){gl:List (Nat×AV)} :
  qS P gl (ρ.f 160) (q9 { args:=[.str,.str],h:=[] } [{ res:=.str,h:=[] }] qCn):=
 qhU he rfl fun B X ps j qs vargs hs hg hh ha hk hT=>by
  obtain⟨s,t,rfl⟩:=qud hk
  simp only[qCn] at hT
  split at hT
  ·rename_i hc
   cases hT
   have:=qqT ha
   subst this
   refine⟨rfl,rfl,rfl,(Any.strings_Trim_laid L h116 ⟨s.toArray⟩ ⟨t.toArray⟩ X.w (by simpa[ByteArray.size] using hc.1) (by simpa[ByteArray.size] using hc.2.1) (fun j b hj=>?_)).mono fun e w' ⟨h1,h2⟩=>⟨_,h1,h2,.str _⟩⟩
   have h3:=hc.2.2
   rw[List.all_eq_true] at h3
   simpa using h3 b (List.mem_of_getElem? hj)
  ·cases hT
def qEf:R:=[Lib.pow10Tab.map U.i]
def qCy:List PV→TR
 | [.i n]=>if -9223372036854775808≤n∧n≤9223372036854775807 then .leaf (0,[.s (Lib.itoa n)]) else .fail
 | _=>.fail
theorem qpN{P:Program}{X:Ctx}{g:Nat}{k:IntKind}{zs:List Int}{name:String}(hn:P.globalNamed name=some g)(hz:zs≠[])
  (h:qCX X (g,.eptr (zs.map fun _=>.int k) [zs.map U.i] 0 0)):Lib.TabIs P X.w name k zs:=by
 obtain⟨h1,h2,h3⟩:=h
 simp only at h1 h2 h3
 have hcell:∀j (hj:j<zs.length),X.w.cell? ⟨g,j,none⟩=some (.int k zs[j]):=by
  intro j hj
  generalize hv:(Value.pointer (some ⟨g,0,none⟩))=vv at h1
  cases h1 with
  | eptr _ _ _ _ a hsp h0 hl hr=>
   simp only[Value.pointer.injEq,Option.some.injEq,Addr.mk.injEq] at hv
   obtain⟨v1,v2,_⟩:=hv
   obtain⟨hM,v,e1,e2⟩:=hr 0 j (by simpa using hj) (by simp)
   have ho:a.off=0:=by omega
   have e1':X.w.cell? ⟨g,j,none⟩=some v:=by
    rw[Nat.zero_mul,Nat.add_zero,ho,Nat.zero_add,←v1] at e1
    exact e1
   rw[e1']
   have e2':RepU X.w X.M (.int k) (U.i zs[j]) v:=by
    simpa[vu,List.getD_eq_getElem?_getD,hj] using e2
   cases e2'
   rfl
 unfold Lib.TabIs World.var?
 rw[hn]
 simp only[Option.bind_some]
 have h0:=hcell 0 (List.length_pos_iff.2 hz)
 unfold World.cell? at h0
 simp only at h0
 split at h0
 ·rename_i cs T fr hheap
  rw[hheap]
  simp only
  congr 1
  have hsz:cs.size≤zs.length:=by
   have h4:X.w.cell? ⟨g,zs.length,none⟩=none:=by
    simpa[AV.span] using h3
   unfold World.cell? at h4
   simp only[hheap] at h4
   simpa using h4
  apply Array.ext
  ·simp
   rcases Nat.lt_or_ge cs.size zs.length with hlt|hge
   ·have:=hcell cs.size hlt
    unfold World.cell? at this
    simp[hheap] at this
   ·omega
  ·intro j hj hj2
   have hjz:j<zs.length:=by omega
   have:=hcell j hjz
   unfold World.cell? at this
   simp only[hheap] at this
   simp[hj] at this
   simp[this]
 ·cases h0
theorem qzs {P:Program} {ρ:Ren} (L:LaysM.n171 P ρ) (he:ql8 P (ρ.f 171)) {gl:List (Nat×AV)} {g:Nat} (hn:P.globalNamed "internal/strconv.uint64pow10" = some g)
  (hg:(g,AV.eptr (Lib.pow10Tab.map fun _=>.int .u64) qEf 0 0)∈gl) :
  qS P gl (ρ.f 171) (q9 { args:=[.int .i64],h:=[] } [{ res:=.str,h:=[] }] qCy):=
 qhU he rfl fun B X ps j qs vargs hs hgl hh ha hk hT=>by
  obtain⟨n,rfl⟩:=qEo hk
  simp only[qCy] at hT
  split at hT
  ·rename_i hc
   cases hT
   have:=qyO ha
   subst this
   refine⟨rfl,rfl,rfl,(Any.strconv_Itoa L n hc.1 hc.2 X.w (qpN hn (by decide) (hgl _ hg).2)).mono fun e w' ⟨h1,k,os,h2⟩=>⟨_,h1,?_,.str _⟩⟩
   subst h2
   exact qnk _ _ _
  ·cases hT
def qBj:List PV→TR
 | [.s s]=>if s.length≤18 then (match Lib.atoi s with|some n=>.leaf (0,[.i n])|none=>.fail) else .fail
 | _=>.fail
theorem qAs{P:Program}{ρ:Ren}(L:Lays.n172 P ρ)(he:ql8 P (ρ.f 172)){gl:List (Nat×AV)} :
  qS P gl (ρ.f 172) (q9 { args:=[.str],h:=[] } [{ res:=.tuple [.int .i64,.any],h:=[] }] qBj):=
 qhU he rfl fun B X ps j qs vargs hs hg hh ha hk hT=>by
  obtain⟨s,rfl⟩:=qF7 hk
  simp only[qBj] at hT
  split at hT
  ·rename_i hc
   split at hT
   ·rename_i n hn
    cases hT
    have:=qyK ha
    subst this
    refine⟨rfl,rfl,rfl,(Any.strconv_Atoi L ⟨s.toArray⟩ n (by simpa[ByteArray.size] using hc) (by simpa using hn) X.w).mono fun e w' ⟨h1,t,h2⟩=>⟨_,h1,?_,.tuple _ _ (.cons (.int _ _) (.cons (.undef _) .nil))⟩⟩
    subst h2
    exact qvJ _ _ _
   ·cases hT
  ·cases hT
def qBV(s:List UInt8):List UInt8:=qdh (qcK [48,48,48,48,48,48,48,48,48] (qu s) 9) s
def ql4(w:R):Nat→List UInt8
 | 0=>[]
 | i+1=>qBV (Lib.itoa (cI w i 0))++ql4 w i
def qCP(b:Bool)(n:Int)(w:R):List UInt8:=if n=0 then [48] else (if b then [45] else [])++Lib.itoa (cI w (n-1) 0)++ql4 w (n-1).toNat
def qta(n:Int)(w:R):Bool:=decide (0≤n)&&decide (n≤232)&&(List.range n.toNat).all fun i=>decide (0≤cI w i 0∧cI w i 0<1000000000)
def qCv:List PV→TR
 | [.b b,.i n,.r w]=>if qta n w then .leaf (0,[.s (qCP b n w),.b b,.i n,.r w]) else .fail
 | _=>.fail
end Go.Eng

namespace Go.Proofs
open Go.Shelf
def Tryz.lays219_ren:Go.Shelf.Ren:=⟨fun|219=>228|217=>245|225=>246|224=>247|267=>248|266=>260|314=>261|n=>n,fun|9=>9|3=>3|4=>4|5=>5|46=>281|146=>298|51=>279|n=>n,fun|1=>2|n=>n⟩
theorem Tryz.lays219:Go.Proofs.Lays.n219 Tryz.prog Tryz.lays219_ren:={
 mixed:=by kernel_rfl
 f217:=Tryz.func245.trans (congrArg some (by kernel_rfl))
 f219:=Tryz.func228.trans (congrArg some (by kernel_rfl))
 f224:=Tryz.func247.trans (congrArg some (by kernel_rfl))
 f225:=Tryz.func246.trans (congrArg some (by kernel_rfl))
 f266:=Tryz.func260.trans (congrArg some (by kernel_rfl))
 f267:=Tryz.func248.trans (congrArg some (by kernel_rfl))
 f314:=Tryz.func261.trans (congrArg some (by kernel_rfl))
 t3:=Tryz.underlying3
 a3:=Tryz.isAgg3
 z3:=Tryz.sizeOf3
 v3:=Tryz.zeroValue3
 t4:=Tryz.underlying4
 a4:=Tryz.isAgg4
 z4:=Tryz.sizeOf4
 v4:=Tryz.zeroValue4
 t5:=Tryz.underlying5
 a5:=Tryz.isAgg5
 z5:=Tryz.sizeOf5
 v5:=Tryz.zeroValue5
 t9:=Tryz.underlying9
 a9:=Tryz.isAgg9
 z9:=Tryz.sizeOf9
 v9:=Tryz.zeroValue9
 t46:=Tryz.underlying281
 a46:=Tryz.isAgg281
 z46:=Tryz.sizeOf281
 v46:=Tryz.zeroValue281
 t51:=Tryz.underlying279
 a51:=Tryz.isAgg279
 z51:=Tryz.sizeOf279
 v51:=Tryz.zeroValue279
 t146:=Tryz.underlying298
 a146:=Tryz.isAgg298
 z146:=Tryz.sizeOf298
 v146:=Tryz.zeroValue298
 g1:=by kernel_rfl }
def Tryz.lays106_ren:Go.Shelf.Ren:=⟨fun|106=>207|213=>232|265=>254|n=>n,fun|9=>9|3=>3|n=>n,fun|n=>n⟩
theorem Tryz.lays106:Go.Proofs.Lays.n106 Tryz.prog Tryz.lays106_ren:={
 mixed:=by kernel_rfl
 f106:=Tryz.func207.trans (congrArg some (by kernel_rfl))
 f213:=Tryz.func232.trans (congrArg some (by kernel_rfl))
 f265:=Tryz.func254.trans (congrArg some (by kernel_rfl))
 t3:=Tryz.underlying3
 a3:=Tryz.isAgg3
 z3:=Tryz.sizeOf3
 v3:=Tryz.zeroValue3
 t9:=Tryz.underlying9
 a9:=Tryz.isAgg9
 z9:=Tryz.sizeOf9
 v9:=Tryz.zeroValue9 }
def Tryz.lays160_ren:Go.Shelf.Ren:=⟨fun|160=>158|232=>191|231=>190|227=>192|234=>194|233=>193|236=>196|235=>195|228=>218|271=>221|151=>220|197=>219|120=>239|152=>238|260=>237|137=>256|119=>257|224=>247|225=>246|217=>245|266=>260|n=>n,fun|9=>9|4=>4|3=>3|5=>5|117=>234|116=>233|0=>0|124=>237|21=>21|105=>261|46=>281|119=>292|139=>295|138=>294|n=>n,fun|3=>3|4=>4|n=>n⟩
theorem Tryz.lays160:Go.Proofs.Lays.n160 Tryz.prog Tryz.lays160_ren:={
 mixed:=by kernel_rfl
 f119:=Tryz.func257.trans (congrArg some (by kernel_rfl))
 f120:=Tryz.func239.trans (congrArg some (by kernel_rfl))
 f137:=Tryz.func256.trans (congrArg some (by kernel_rfl))
 f151:=Tryz.func220.trans (congrArg some (by kernel_rfl))
 f152:=Tryz.func238.trans (congrArg some (by kernel_rfl))
 f160:=Tryz.func158.trans (congrArg some (by kernel_rfl))
 f197:=Tryz.func219.trans (congrArg some (by kernel_rfl))
 f217:=Tryz.func245.trans (congrArg some (by kernel_rfl))
 f224:=Tryz.func247.trans (congrArg some (by kernel_rfl))
 f225:=Tryz.func246.trans (congrArg some (by kernel_rfl))
 f227:=Tryz.func192.trans (congrArg some (by kernel_rfl))
 f228:=Tryz.func218.trans (congrArg some (by kernel_rfl))
 f231:=Tryz.func190.trans (congrArg some (by kernel_rfl))
 f232:=Tryz.func191.trans (congrArg some (by kernel_rfl))
 f233:=Tryz.func193.trans (congrArg some (by kernel_rfl))
 f234:=Tryz.func194.trans (congrArg some (by kernel_rfl))
 f235:=Tryz.func195.trans (congrArg some (by kernel_rfl))
 f236:=Tryz.func196.trans (congrArg some (by kernel_rfl))
 f260:=Tryz.func237.trans (congrArg some (by kernel_rfl))
 f266:=Tryz.func260.trans (congrArg some (by kernel_rfl))
 f271:=Tryz.func221.trans (congrArg some (by kernel_rfl))
 t0:=Tryz.underlying0
 a0:=Tryz.isAgg0
 z0:=Tryz.sizeOf0
 v0:=Tryz.zeroValue0
 t3:=Tryz.underlying3
 a3:=Tryz.isAgg3
 z3:=Tryz.sizeOf3
 v3:=Tryz.zeroValue3
 t4:=Tryz.underlying4
 a4:=Tryz.isAgg4
 z4:=Tryz.sizeOf4
 v4:=Tryz.zeroValue4
 t5:=Tryz.underlying5
 a5:=Tryz.isAgg5
 z5:=Tryz.sizeOf5
 v5:=Tryz.zeroValue5
 t9:=Tryz.underlying9
 a9:=Tryz.isAgg9
 z9:=Tryz.sizeOf9
 v9:=Tryz.zeroValue9
 t21:=Tryz.underlying21
 a21:=Tryz.isAgg21
 z21:=Tryz.sizeOf21
 v21:=Tryz.zeroValue21
 t46:=Tryz.underlying281
 a46:=Tryz.isAgg281
 z46:=Tryz.sizeOf281
 v46:=Tryz.zeroValue281
 t105:=Tryz.underlying261
 a105:=Tryz.isAgg261
 z105:=Tryz.sizeOf261
 v105:=Tryz.zeroValue261
 t116:=Tryz.underlying233
 a116:=Tryz.isAgg233
 z116:=Tryz.sizeOf233
 t117:=Tryz.underlying234
 a117:=Tryz.isAgg234
 z117:=Tryz.sizeOf234
 v117:=Tryz.zeroValue234
 t119:=Tryz.underlying292
 a119:=Tryz.isAgg292
 z119:=Tryz.sizeOf292
 t124:=Tryz.underlying237
 a124:=Tryz.isAgg237
 z124:=Tryz.sizeOf237
 v124:=Tryz.zeroValue237
 t138:=Tryz.underlying294
 a138:=Tryz.isAgg294
 z138:=Tryz.sizeOf294
 v138:=Tryz.zeroValue294
 t139:=Tryz.underlying295
 a139:=Tryz.isAgg295
 z139:=Tryz.sizeOf295
 v139:=Tryz.zeroValue295
 g3:=by kernel_rfl
 g4:=by kernel_rfl }
def Tryz.lays172_ren:Go.Shelf.Ren:=⟨fun|172=>202|244=>229|245=>230|247=>249|279=>250|280=>251|281=>252|282=>253|287=>262|316=>263|171=>132|205=>264|321=>265|322=>266|243=>163|246=>200|283=>224|284=>225|285=>226|286=>227|129=>241|317=>240|318=>242|319=>243|320=>244|337=>258|338=>259|n=>n,fun|9=>9|3=>3|75=>242|76=>243|4=>4|5=>5|167=>284|37=>179|0=>0|85=>285|2=>2|168=>287|53=>266|175=>300|46=>281|210=>303|127=>273|145=>311|143=>309|21=>21|171=>265|173=>269|212=>278|51=>279|20=>20|213=>280|232=>305|233=>306|80=>255|n=>n,fun|15=>5|16=>6|17=>1|18=>7|19=>8|n=>n⟩
theorem Tryz.lays172:Go.Proofs.Lays.n172 Tryz.prog Tryz.lays172_ren:={
 mixed:=by kernel_rfl
 f129:=Tryz.func241.trans (congrArg some (by kernel_rfl))
 f171:=Tryz.func132.trans (congrArg some (by kernel_rfl))
 f172:=Tryz.func202.trans (congrArg some (by kernel_rfl))
 f205:=Tryz.func264.trans (congrArg some (by kernel_rfl))
 f243:=Tryz.func163.trans (congrArg some (by kernel_rfl))
 f244:=Tryz.func229.trans (congrArg some (by kernel_rfl))
 f245:=Tryz.func230.trans (congrArg some (by kernel_rfl))
 f246:=Tryz.func200.trans (congrArg some (by kernel_rfl))
 f247:=Tryz.func249.trans (congrArg some (by kernel_rfl))
 f279:=Tryz.func250.trans (congrArg some (by kernel_rfl))
 f280:=Tryz.func251.trans (congrArg some (by kernel_rfl))
 f281:=Tryz.func252.trans (congrArg some (by kernel_rfl))
 f282:=Tryz.func253.trans (congrArg some (by kernel_rfl))
 f283:=Tryz.func224.trans (congrArg some (by kernel_rfl))
 f284:=Tryz.func225.trans (congrArg some (by kernel_rfl))
 f285:=Tryz.func226.trans (congrArg some (by kernel_rfl))
 f286:=Tryz.func227.trans (congrArg some (by kernel_rfl))
 f287:=Tryz.func262.trans (congrArg some (by kernel_rfl))
 f316:=Tryz.func263.trans (congrArg some (by kernel_rfl))
 f317:=Tryz.func240.trans (congrArg some (by kernel_rfl))
 f318:=Tryz.func242.trans (congrArg some (by kernel_rfl))
 f319:=Tryz.func243.trans (congrArg some (by kernel_rfl))
 f320:=Tryz.func244.trans (congrArg some (by kernel_rfl))
 f321:=Tryz.func265.trans (congrArg some (by kernel_rfl))
 f322:=Tryz.func266.trans (congrArg some (by kernel_rfl))
 f337:=Tryz.func258.trans (congrArg some (by kernel_rfl))
 f338:=Tryz.func259.trans (congrArg some (by kernel_rfl))
 t0:=Tryz.underlying0
 a0:=Tryz.isAgg0
 z0:=Tryz.sizeOf0
 v0:=Tryz.zeroValue0
 t2:=Tryz.underlying2
 a2:=Tryz.isAgg2
 z2:=Tryz.sizeOf2
 v2:=Tryz.zeroValue2
 t3:=Tryz.underlying3
 a3:=Tryz.isAgg3
 z3:=Tryz.sizeOf3
 v3:=Tryz.zeroValue3
 t4:=Tryz.underlying4
 a4:=Tryz.isAgg4
 z4:=Tryz.sizeOf4
 v4:=Tryz.zeroValue4
 t5:=Tryz.underlying5
 a5:=Tryz.isAgg5
 z5:=Tryz.sizeOf5
 v5:=Tryz.zeroValue5
 t9:=Tryz.underlying9
 a9:=Tryz.isAgg9
 z9:=Tryz.sizeOf9
 v9:=Tryz.zeroValue9
 t20:=Tryz.underlying20
 a20:=Tryz.isAgg20
 z20:=Tryz.sizeOf20
 v20:=Tryz.zeroValue20
 t21:=Tryz.underlying21
 a21:=Tryz.isAgg21
 z21:=Tryz.sizeOf21
 v21:=Tryz.zeroValue21
 t37:=Tryz.underlying179
 a37:=Tryz.isAgg179
 z37:=Tryz.sizeOf179
 v37:=Tryz.zeroValue179
 t46:=Tryz.underlying281
 a46:=Tryz.isAgg281
 z46:=Tryz.sizeOf281
 v46:=Tryz.zeroValue281
 t51:=Tryz.underlying279
 a51:=Tryz.isAgg279
 z51:=Tryz.sizeOf279
 v51:=Tryz.zeroValue279
 t53:=Tryz.underlying266
 a53:=Tryz.isAgg266
 z53:=Tryz.sizeOf266
 v53:=Tryz.zeroValue266
 t75:=Tryz.underlying242
 a75:=Tryz.isAgg242
 z75:=Tryz.sizeOf242
 v75:=Tryz.zeroValue242
 t76:=Tryz.underlying243
 a76:=Tryz.isAgg243
 z76:=Tryz.sizeOf243
 v76:=Tryz.zeroValue243
 t85:=Tryz.underlying285
 a85:=Tryz.isAgg285
 z85:=Tryz.sizeOf285
 v85:=Tryz.zeroValue285
 t127:=Tryz.underlying273
 a127:=Tryz.isAgg273
 z127:=Tryz.sizeOf273
 v127:=Tryz.zeroValue273
 t143:=Tryz.underlying309
 a143:=Tryz.isAgg309
 z143:=Tryz.sizeOf309
 v143:=Tryz.zeroValue309
 t145:=Tryz.underlying311
 a145:=Tryz.isAgg311
 z145:=Tryz.sizeOf311
 v145:=Tryz.zeroValue311
 t167:=Tryz.underlying284
 a167:=Tryz.isAgg284
 z167:=Tryz.sizeOf284
 v167:=Tryz.zeroValue284
 t168:=Tryz.underlying287
 a168:=Tryz.isAgg287
 z168:=Tryz.sizeOf287
 v168:=Tryz.zeroValue287
 t171:=Tryz.underlying265
 a171:=Tryz.isAgg265
 z171:=Tryz.sizeOf265
 v171:=Tryz.zeroValue265
 t173:=Tryz.underlying269
 a173:=Tryz.isAgg269
 z173:=Tryz.sizeOf269
 v173:=Tryz.zeroValue269
 t175:=Tryz.underlying300
 a175:=Tryz.isAgg300
 z175:=Tryz.sizeOf300
 v175:=Tryz.zeroValue300
 t210:=Tryz.underlying303
 a210:=Tryz.isAgg303
 z210:=Tryz.sizeOf303
 v210:=Tryz.zeroValue303
 t212:=Tryz.underlying278
 a212:=Tryz.isAgg278
 z212:=Tryz.sizeOf278
 v212:=Tryz.zeroValue278
 t213:=Tryz.underlying280
 a213:=Tryz.isAgg280
 z213:=Tryz.sizeOf280
 t232:=Tryz.underlying305
 a232:=Tryz.isAgg305
 z232:=Tryz.sizeOf305
 v232:=Tryz.zeroValue305
 t233:=Tryz.underlying306
 a233:=Tryz.isAgg306
 z233:=Tryz.sizeOf306
 v233:=Tryz.zeroValue306
 g15:=by kernel_rfl
 g16:=by kernel_rfl
 g17:=by kernel_rfl
 g18:=by kernel_rfl
 g19:=by kernel_rfl }
def Tryz.lays169_ren:Go.Shelf.Ren:=⟨fun|169=>212|n=>n,fun|70=>251|9=>9|0=>0|72=>253|37=>179|127=>273|3=>3|5=>5|n=>n,fun|n=>n⟩
theorem Tryz.lays169:Go.Proofs.Lays.n169 Tryz.prog Tryz.lays169_ren:={
 mixed:=by kernel_rfl
 f169:=Tryz.func212.trans (congrArg some (by kernel_rfl))
 t0:=Tryz.underlying0
 a0:=Tryz.isAgg0
 z0:=Tryz.sizeOf0
 v0:=Tryz.zeroValue0
 t3:=Tryz.underlying3
 a3:=Tryz.isAgg3
 z3:=Tryz.sizeOf3
 v3:=Tryz.zeroValue3
 t9:=Tryz.underlying9
 a9:=Tryz.isAgg9
 z9:=Tryz.sizeOf9
 v9:=Tryz.zeroValue9
 t37:=Tryz.underlying179
 a37:=Tryz.isAgg179
 z37:=Tryz.sizeOf179
 v37:=Tryz.zeroValue179
 t70:=Tryz.underlying251
 a70:=Tryz.isAgg251
 z70:=Tryz.sizeOf251
 v70:=Tryz.zeroValue251
 t72:=Tryz.underlying253
 a72:=Tryz.isAgg253
 z72:=Tryz.sizeOf253
 v72:=Tryz.zeroValue253
 t127:=Tryz.underlying273
 a127:=Tryz.isAgg273
 z127:=Tryz.sizeOf273
 v127:=Tryz.zeroValue273 }
def Tryz.laysM171_ren:Go.Shelf.Ren:=⟨fun|171=>132|243=>163|246=>200|283=>224|284=>225|285=>226|286=>227|129=>241|317=>240|318=>242|319=>243|320=>244|337=>258|338=>259|n=>n,fun|3=>3|9=>9|2=>2|4=>4|171=>265|0=>0|53=>266|37=>179|5=>5|173=>269|212=>278|51=>279|20=>20|213=>280|46=>281|232=>305|233=>306|n=>n,fun|17=>1|18=>7|19=>8|n=>n⟩
theorem Tryz.laysM171:Go.Proofs.LaysM.n171 Tryz.prog Tryz.laysM171_ren:={
 mixed:=by kernel_rfl
 f129:=Tryz.func241.trans (congrArg some (by kernel_rfl))
 f171:=Tryz.func132.trans (congrArg some (by kernel_rfl))
 f243:=Tryz.func163.trans (congrArg some (by kernel_rfl))
 f246:=Tryz.func200.trans (congrArg some (by kernel_rfl))
 f283:=Tryz.func224.trans (congrArg some (by kernel_rfl))
 f284:=Tryz.func225.trans (congrArg some (by kernel_rfl))
 f285:=Tryz.func226.trans (congrArg some (by kernel_rfl))
 f286:=Tryz.func227.trans (congrArg some (by kernel_rfl))
 f317:=Tryz.func240.trans (congrArg some (by kernel_rfl))
 f318:=Tryz.func242.trans (congrArg some (by kernel_rfl))
 f319:=Tryz.func243.trans (congrArg some (by kernel_rfl))
 f320:=Tryz.func244.trans (congrArg some (by kernel_rfl))
 f337:=Tryz.func258.trans (congrArg some (by kernel_rfl))
 f338:=Tryz.func259.trans (congrArg some (by kernel_rfl))
 t0:=Tryz.underlying0
 a0:=Tryz.isAgg0
 z0:=Tryz.sizeOf0
 v0:=Tryz.zeroValue0
 t2:=Tryz.underlying2
 a2:=Tryz.isAgg2
 z2:=Tryz.sizeOf2
 v2:=Tryz.zeroValue2
 t3:=Tryz.underlying3
 a3:=Tryz.isAgg3
 z3:=Tryz.sizeOf3
 v3:=Tryz.zeroValue3
 t4:=Tryz.underlying4
 a4:=Tryz.isAgg4
 z4:=Tryz.sizeOf4
 v4:=Tryz.zeroValue4
 t5:=Tryz.underlying5
 a5:=Tryz.isAgg5
 z5:=Tryz.sizeOf5
 v5:=Tryz.zeroValue5
 t9:=Tryz.underlying9
 a9:=Tryz.isAgg9
 z9:=Tryz.sizeOf9
 v9:=Tryz.zeroValue9
 t20:=Tryz.underlying20
 a20:=Tryz.isAgg20
 z20:=Tryz.sizeOf20
 v20:=Tryz.zeroValue20
 t37:=Tryz.underlying179
 a37:=Tryz.isAgg179
 z37:=Tryz.sizeOf179
 v37:=Tryz.zeroValue179
 t46:=Tryz.underlying281
 a46:=Tryz.isAgg281
 z46:=Tryz.sizeOf281
 v46:=Tryz.zeroValue281
 t51:=Tryz.underlying279
 a51:=Tryz.isAgg279
 z51:=Tryz.sizeOf279
 v51:=Tryz.zeroValue279
 t53:=Tryz.underlying266
 a53:=Tryz.isAgg266
 z53:=Tryz.sizeOf266
 v53:=Tryz.zeroValue266
 t171:=Tryz.underlying265
 a171:=Tryz.isAgg265
 z171:=Tryz.sizeOf265
 v171:=Tryz.zeroValue265
 t173:=Tryz.underlying269
 a173:=Tryz.isAgg269
 z173:=Tryz.sizeOf269
 v173:=Tryz.zeroValue269
 t212:=Tryz.underlying278
 a212:=Tryz.isAgg278
 z212:=Tryz.sizeOf278
 v212:=Tryz.zeroValue278
 t213:=Tryz.underlying280
 a213:=Tryz.isAgg280
 z213:=Tryz.sizeOf280
 t232:=Tryz.underlying305
 a232:=Tryz.isAgg305
 z232:=Tryz.sizeOf305
 v232:=Tryz.zeroValue305
 t233:=Tryz.underlying306
 a233:=Tryz.isAgg306
 z233:=Tryz.sizeOf306
 v233:=Tryz.zeroValue306
 g17:=by kernel_rfl
 g18:=by kernel_rfl
 g19:=by kernel_rfl
 i0:=by kernel_rfl
 i2:=by kernel_rfl
 i3:=by kernel_rfl
 i4:=by kernel_rfl
 i5:=by kernel_rfl
 i9:=by kernel_rfl
 i20:=by kernel_rfl
 i37:=by kernel_rfl
 i46:=by kernel_rfl
 i51:=by kernel_rfl
 i53:=by kernel_rfl
 i171:=by kernel_rfl
 i173:=by kernel_rfl
 i212:=by kernel_rfl
 i232:=by kernel_rfl
 i233:=by kernel_rfl
 m17:=by kernel_rfl
 m18:=by kernel_rfl
 m19:=by kernel_rfl }
end Go.Proofs

namespace Go.Eng
open Go.Shelf Go.RowKit Go.Proofs
set_option maxHeartbeats 2000000 in
set_option maxRecDepth 100000 in
theorem qDM(b:Nat)(w:World)(h0:w.cell? ⟨b,0,none⟩=some (.pointer (some ⟨b,0,none⟩))) :
  Calls Tryz.prog 234 #[.pointer (some ⟨b,0,none⟩)] w fun e w'=>e=.returned (.tuple #[])∧w'=w:=by
 obtain⟨j,hj,_⟩:=Option.map_eq_some_iff.1 (show (Tryz.prog.info? 253).map (·.size)=some 2 by kernel_rfl)
 go_enter Tryz.func234,Tryz.ntmps234
 go_wp2
 rw[Lib.run_neq_ptr_same w ⟨b,0,none⟩ Tryz.underlying251 hj]
 go_wp2
 go_end0
 exact⟨rfl,rfl⟩
set_option maxHeartbeats 2000000 in
set_option maxRecDepth 100000 in
theorem qCl(b:Nat)(w:World)(h0:w.cell? ⟨b,0,none⟩=some (.pointer none))(hsh:w.shape? b=some (253,2))(hfz:w.frozen? ⟨b,0,none⟩=false) :
  Calls Tryz.prog 234 #[.pointer (some ⟨b,0,none⟩)] w fun e w'=>e=.returned (.tuple #[])∧w'=w.setCell ⟨b,0,none⟩ (.pointer (some ⟨b,0,none⟩)):=by
 obtain⟨j,hj,hjs⟩:=Option.map_eq_some_iff.1 (show (Tryz.prog.info? 253).map (·.size)=some 2 by kernel_rfl)
 go_enter Tryz.func234,Tryz.ntmps234
 go_wp2
 rw[Lib.run_to_unsafe w ⟨b,0,none⟩ Tryz.underlying251 Tryz.underlying290 hj (by rw[hjs];decide) hsh (Nat.zero_lt_succ 1)]
 simp only[Result.andThen]
 rw[Oper.upon_value]
 go_wp2
 rw[run_callFunc_extern Tryz.func255 (by kernel_rfl) (by kernel_rfl) (by kernel_rfl) (e:=Extern.AbiNoEscape.same) (by kernel_rfl)]
 rw[Lib.run_noEscape]
 simp only[Result.andThen]
 rw[Oper.upon_value]
 go_wp2
 rw[Lib.run_from_unsafe w ⟨b,0,none⟩ Tryz.underlying290 Tryz.underlying251 hj hsh (by kernel_rfl)]
 simp only[Result.andThen]
 rw[Oper.upon_value]
 go_wp2
 go_end0
 exact⟨rfl,rfl⟩
abbrev BtB(B b:Nat)(bs:List Value)(w:World):Prop:=Lib.IsBuilder 253 5 B b bs w
set_option maxHeartbeats 2000000 in
set_option maxRecDepth 100000 in
theorem quY(B b:Nat)(bs:List Value)(w:World)(h:BtB B b bs w) :
  Calls Tryz.prog 234 #[.pointer (some ⟨b,0,none⟩)] w fun e w'=>e=.returned (.tuple #[])∧Lib.BuilderAt 253 5 B b (.pointer (some ⟨b,0,none⟩)) bs w'∧Below B w w':=by
 rcases h with h|h
 ·refine(qCl b w h.cell0 h.shape h.frozen0).mono ?_
  rintro e w' ⟨rfl,rfl⟩
  exact⟨rfl,h.used _,(Below.refl B w).setCell (p:=⟨b,0,none⟩) h.1 _⟩
 ·refine(qDM b w h.cell0).mono ?_
  rintro e w' ⟨rfl,rfl⟩
  exact⟨rfl,h,Below.refl B _⟩
set_option maxHeartbeats 2000000 in
set_option maxRecDepth 100000 in
theorem qDT(B b:Nat)(bs:List Value)(c:Int)(w:World)(h:BtB B b bs w)(hlen:bs.length+1≤140737488355328)(hBw:B≤w.heap.size) :
  Calls Tryz.prog 210 #[.pointer (some ⟨b,0,none⟩),.int .u8 c] w fun e w'=>e=.returned .nilIface∧BtB B b (bs++[.int .u8 c]) w'∧Below B w w':=by
 obtain⟨i0,hi,hz0,hz1,hz2⟩:=info_parts (show (Tryz.prog.info? 5).map (fun i=>(i.zero,i.size,i.bytes))=some (some (.int .u8 0),1,1) by kernel_rfl)
 go_enter Tryz.func210,Tryz.ntmps210
 go_wp2_with (go_at_call 234;refine(quY B b bs _ h).mono ?_)
 rintro e w1 ⟨rfl,h1,hb1⟩
 obtain⟨hB,v,hbk,hown,hne⟩:=h1
 have c0:w1.cell? ⟨b,0,none⟩=some (.pointer (some ⟨b,0,none⟩)):=by rw[Lib.cell_of_heap hbk];rfl
 have c1:w1.cell? ⟨b,1,none⟩=some v:=by rw[Lib.cell_of_heap hbk];rfl
 have hsz1:=hb1.size
 go_wp2_with (at_builtin;refine wpList_append_own _ rfl _ _ 179 rfl B 5 i0 (.int .u8 0) 1 1 Tryz.underlying179 hi hz0 hz1 hz2 rfl (by decide) _ _ _ rfl (hown.alloc _) ⟨w1.heap.size,0,none⟩ 1 1 [.int .u8 c] rfl rfl ?c1 ?c2 ?c3 ?c4 ?c5 ?_)
 case c1=>
  intro j u hj
  match j,hj with
  | 0,hj=>simp at hj;subst hj;simp[Addr.add]
 case c2=>intro u hu;simp at hu;subst hu;rfl
 case c3=>unfold maxLen;omega
 case c4=>omega
 case c5=>simp;omega
 intro v' w2 hown' hgrow _
 have hlt:b<w1.heap.size:=by
  rcases Nat.lt_or_ge b w1.heap.size with h'|h'
  ·exact h'
  ·simp[Array.getElem?_eq_none h'] at hbk
 have hb2:w2.heap[b]?=some (.cells #[.pointer (some ⟨b,0,none⟩),v] 253 (0,0)):=by
  rw[hgrow.block b (by simp;omega) (fun e=>hne e.symm),Lib.alloc_old w1 _ b hlt]
  exact hbk
 have d0:w2.cell? ⟨b,0,none⟩=some (.pointer (some ⟨b,0,none⟩)):=by rw[Lib.cell_of_heap hb2];rfl
 have d1:w2.cell? ⟨b,1,none⟩=some v:=by rw[Lib.cell_of_heap hb2];rfl
 have f1:w2.frozen? ⟨b,1,none⟩=false:=Lib.frozen_of_heap hb2 1
 obtain⟨ao,n',cap,rfl⟩:∃ao n' cap,v'=.slice ao n' cap:=by
  rcases hown'.2 with⟨hv,_⟩|⟨g,cap,cur,hv,_⟩
  ·exact⟨_,_,_,hv⟩
  ·exact⟨_,_,_,hv⟩
 go_wp2
 go_ret
 refine⟨rfl,.inr ?_,?_⟩
 ·exact Lib.BuilderAt.put (T:=253) (e:=5) hB hb2 (bs':=bs++[.int .u8 c]) (by simpa using hown') (by decide)
 ·exact((hb1.alloc (by omega) _).grown hgrow (by simp;omega) (fun k hk=>(hown.lt k hk).1)).setCell (p:=⟨b,1,none⟩) hB _
set_option maxHeartbeats 2000000 in
set_option maxRecDepth 100000 in
theorem qAF(B b:Nat)(bs:List Value)(s:ByteArray)(w:World)(h:BtB B b bs w)(hlen:bs.length+s.size≤140737488355328)(hBw:B≤w.heap.size) :
  Calls Tryz.prog 211 #[.pointer (some ⟨b,0,none⟩),.string s] w fun e w'=>e=.returned (.tuple #[.int .i64 s.size,.nilIface])∧BtB B b (bs++Lib.strCells s) w'∧Below B w w':=by
 obtain⟨i0,hi,hz0,hz1,hz2⟩:=info_parts (show (Tryz.prog.info? 5).map (fun i=>(i.zero,i.size,i.bytes))=some (some (.int .u8 0),1,1) by kernel_rfl)
 go_enter Tryz.func211,Tryz.ntmps211
 go_wp2_with (go_at_call 234;refine(quY B b bs _ h).mono ?_)
 rintro e w1 ⟨rfl,h1,hb1⟩
 obtain⟨hB,v,hbk,hown,hne⟩:=h1
 have c0:w1.cell? ⟨b,0,none⟩=some (.pointer (some ⟨b,0,none⟩)):=by rw[Lib.cell_of_heap hbk];rfl
 have c1:w1.cell? ⟨b,1,none⟩=some v:=by rw[Lib.cell_of_heap hbk];rfl
 have hsz1:=hb1.size
 go_wp2_with (at_builtin;refine Lib.wpList_append_own_string _ rfl _ _ 179 9 rfl B 5 i0 Tryz.underlying179 Tryz.underlying9 hi hz0 hz1 hz2 _ _ _ rfl hown s rfl ?c3 ?c4 ?c5 ?_)
 case c3=>unfold maxLen;omega
 case c4=>omega
 case c5=>omega
 intro v' w2 hown' hgrow _
 have hlt:b<w1.heap.size:=by
  rcases Nat.lt_or_ge b w1.heap.size with h'|h'
  ·exact h'
  ·simp[Array.getElem?_eq_none h'] at hbk
 have hb2:w2.heap[b]?=some (.cells #[.pointer (some ⟨b,0,none⟩),v] 253 (0,0)):=by
  rw[hgrow.block b hlt (fun e=>hne e.symm)]
  exact hbk
 have d0:w2.cell? ⟨b,0,none⟩=some (.pointer (some ⟨b,0,none⟩)):=by rw[Lib.cell_of_heap hb2];rfl
 have d1:w2.cell? ⟨b,1,none⟩=some v:=by rw[Lib.cell_of_heap hb2];rfl
 have f1:w2.frozen? ⟨b,1,none⟩=false:=Lib.frozen_of_heap hb2 1
 obtain⟨ao,n',cap,rfl⟩:∃ao n' cap,v'=.slice ao n' cap:=by
  rcases hown'.2 with⟨hv,_⟩|⟨g,cap,cur,hv,_⟩
  ·exact⟨_,_,_,hv⟩
  ·exact⟨_,_,_,hv⟩
 go_wp2
 go_ret2
 refine⟨rfl,.inr ?_,?_⟩
 ·exact Lib.BuilderAt.put (T:=253) (e:=5) hB hb2 (bs':=bs++Lib.strCells s) (by simpa[Lib.strCells_length] using hown') (by decide)
 ·exact(hb1.grown hgrow (by omega) (fun k hk=>(hown.lt k hk).1)).setCell (p:=⟨b,1,none⟩) hB _
theorem qCH:Builder.Extra Tryz.prog Tryz.lays169_ren where
 sizeBuilder:=by kernel_rfl
 liesBuilder:=by kernel_rfl
 t5:=Tryz.underlying5
 a5:=Tryz.isAgg5
 z5:=Tryz.sizeOf5
 v5:=Tryz.zeroValue5
 infoByte:=by kernel_rfl
 cellsByte:=by kernel_rfl
 sizeByte:=by kernel_rfl
 neB5:=by decide
set_option maxHeartbeats 2000000 in
set_option maxRecDepth 100000 in
theorem qA0(B b:Nat)(l:List UInt8)(w:World)(h:BtB B b (Lib.byteCells l) w)(h0:l≠[]) :
  Calls Tryz.prog 212 #[.pointer (some ⟨b,0,none⟩)] w fun e w'=>e=.returned (.string ⟨l.toArray⟩)∧Below B w w':=
 Any.Builder_String Tryz.lays169 qCH B b l w h h0
def qlH(f:Nat→Int):Nat→List UInt8
 | 0=>[]
 | i+1=>qBV (Lib.itoa (f i))++qlH f i
def qyN(b:Bool)(n:Nat)(f:Nat→Int):List UInt8:=if n=0 then [48] else (if b then [45] else [])++Lib.itoa (f (n-1))++qlH f (n-1)
theorem qyA (n:Int) (h:-9223372036854775808≤n∧n≤9223372036854775807) (w:World) (ht:Lib.TabIs Tryz.prog w "internal/strconv.uint64pow10" .u64 Lib.pow10Tab) :
  Calls Tryz.prog 132 #[.int .i64 n] w fun e w'=>e=.returned (.string ⟨(Lib.itoa n).toArray⟩)∧Below w.heap.size w w':=
 (Any.strconv_Itoa Tryz.laysM171 n h.1 h.2 w ht).mono fun e w' ⟨h1,k,os,h2⟩=>⟨h1,by subst h2;exact qnk _ _ _⟩
theorem qqn{P:Program}{w w':World}{name:String}{k:IntKind}{zs:List Int}(h:Lib.TabIs P w name k zs)(hb:Below w.heap.size w w'):Lib.TabIs P w' name k zs:=by
 unfold Lib.TabIs World.var? at *
 cases hg:P.globalNamed name with
 | none=>rw[hg] at h;cases h
 | some g=>
  rw[hg] at h
  simp only[Option.bind_some] at h ⊢
  by_cases hlt:g<w.heap.size
  ·rw[hb.block g hlt];exact h
  ·rw[Array.getElem?_eq_none (by omega)] at h;cases h
theorem qhX{w w':World}(hb:Below w.heap.size w w'){n:Nat}(hn:n<w.heap.size)(o:Nat):w'.cell? ⟨n,o,none⟩=w.cell? ⟨n,o,none⟩:=World.cell?_of_block (hb.block n hn)
theorem qwb{B b:Nat}{bs:List Value}{w w':World}(h:BtB B b bs w)(hb:Below w.heap.size w w'):BtB B b bs w':=by
 have key:∀p,Lib.BuilderAt 253 5 B b p bs w→Lib.BuilderAt 253 5 B b p bs w':=by
  intro p h
  have hlt:=h.lt
  obtain⟨hB,v,hbk,⟨hl,hown⟩,hne⟩:=h
  refine⟨hB,v,(hb.block b hlt).trans hbk,⟨hl,?_⟩,hne⟩
  rcases hown with h|⟨g,cap,cur,h1,h2,h3,h4⟩
  ·exact .inl h
  ·exact .inr ⟨g,cap,cur,h1,h2,(hb.block g (Array.getElem?_eq_some_iff.1 h3).1).trans h3,h4⟩
 exact h.elim (fun x=>.inl (key _ x)) (fun x=>.inr (key _ x))
theorem qDQ{B b:Nat}{bs:List Value}{w:World}(h:BtB B b bs w):BtB B b bs w.drew:=h.elim (fun x=>.inl x.drew) (fun x=>.inr x.drew)
theorem qAR:∀(k n:Nat),n<10^(k+1)→(Lib.decDigits n).length≤k+1
 | 0,n,h=>by rw[Lib.decDigits,dif_pos (by omega)];simp
 | k+1,n,h=>by
  rw[Lib.decDigits]
  split
  ·simp
  ·have:=qAR k (n/10) (by rw[Nat.pow_succ] at h;omega)
   simp;omega
theorem qD2{pre l:List UInt8}{k:Nat}(hp:pre.length≤k)(hl:l.length≤9)(hk:k≤100000:=by omega):(Lib.byteCells pre).length+(⟨l.toArray⟩:ByteArray).size≤140737488355328:=by
 rw[Lib.byteCells_length]
 have:(⟨l.toArray⟩:ByteArray).size=l.length:=by simp[ByteArray.size]
 omega
theorem qyL{x:Int}(h:0≤x∧x<1000000000):(Lib.itoa x).length≤9:=by
 unfold Lib.itoa
 rw[if_neg (by omega)]
 exact qAR 8 _ (by omega)
theorem qyw{l:List UInt8}(h:l.length≤9):(qBV l).length=9:=by
 unfold qBV qdh qcK qu
 simp;omega
theorem qCN{l:List UInt8}(h:l.length≤9):(⟨#[48,48,48,48,48,48,48,48,48]⟩:ByteArray).extract l.length 9++⟨l.toArray⟩=⟨(qBV l).toArray⟩:=by
 have key:∀k:Nat,k≤9→(⟨#[48,48,48,48,48,48,48,48,48]⟩:ByteArray).extract k 9=⟨(qcK [48,48,48,48,48,48,48,48,48] (k:Int) 9).toArray⟩:=by
  intro k hk
  have:k=0∨k=1∨k=2∨k=3∨k=4∨k=5∨k=6∨k=7∨k=8∨k=9:=by omega
  rcases this with rfl|rfl|rfl|rfl|rfl|rfl|rfl|rfl|rfl|rfl<;>rfl
 rw[key _ h]
 unfold qBV qdh qu
 apply ByteArray.ext
 simp
theorem qC0(l:List UInt8):Lib.strCells ⟨l.toArray⟩=Lib.byteCells l:=rfl
theorem qD5(x:Int):0<(Lib.itoa x).length:=by
 unfold Lib.itoa
 split
 ·simp
 ·rw[Lib.decDigits];split<;>simp
set_option maxHeartbeats 4000000 in
set_option maxRecDepth 1000000 in
theorem qDp(n0:Nat)(b:Bool)(n:Nat)(f:Nat→Int)(w:World)(hlt:n0<w.heap.size)(h0:w.cell? ⟨n0,0,none⟩=some (.bool b))(h1:w.cell? ⟨n0,1,none⟩=some (.int .i64 (n:Int)))(hw:∀i,i<232→w.cell? ⟨n0,2+i,none⟩=some (.int .i64 (f i)))
  (hn:n≤232) (hf:∀i,i<n→0≤f i∧f i<1000000000) (ht:Lib.TabIs Tryz.prog w "internal/strconv.uint64pow10" .u64 Lib.pow10Tab) :
  Calls Tryz.prog 179 #[.pointer (some ⟨n0,0,none⟩)] w fun e w'=>e=.returned (.string ⟨(qyN b n f).toArray⟩)∧Below w.heap.size w w':=by
 rcases Nat.eq_zero_or_pos n with rfl|hpos
 ·go_enter Tryz.func179,Tryz.ntmps179
  go_wp2
  go_ret
  exact⟨rfl,Below.refl _ _⟩
 obtain⟨m,rfl⟩:∃m,n=m+1:=⟨n-1,by omega⟩
 have hne:(((m+1:Nat):Int)==0)=false:=by simp;omega
 have w1:IntKind.i64.wrap (((m+1:Nat):Int)-1)=(m:Int):=by unfold IntKind.wrap;simp[IntKind.signed,IntKind.bits];omega
 have w1':IntKind.i64.wrap (m:Int)=(m:Int):=by unfold IntKind.wrap;simp[IntKind.signed,IntKind.bits];omega
 have hi:0≤(m:Int)∧(m:Int)<232:=by omega
 have hwm:=hw m (by omega)
 have w2:IntKind.i64.wrap (((m+1:Nat):Int)-2)=(m:Int)-1:=by unfold IntKind.wrap;simp[IntKind.signed,IntKind.bits];omega
 have hitm:=qyL (hf m (by omega))
 cases b
 case' false=>
  go_enter Tryz.func179,Tryz.ntmps179
  go_wp2
  have hB0:=Lib.fresh_isBuilder 253 5 w
  have hb0:=(Below.refl w.heap.size w).alloc (Nat.le_refl _) (.cells #[.pointer none,.slice none 0 0] 253)
  generalize w.alloc (.cells #[.pointer none,.slice none 0 0] 253)=W0 at *
  obtain⟨pre,hpre⟩:∃pre:List UInt8,pre=if false=true then [45] else []:=⟨_,rfl⟩
  replace hB0:BtB w.heap.size w.heap.size (Lib.byteCells pre) W0:=by subst hpre;exact hB0
 case' true=>
  go_enter Tryz.func179,Tryz.ntmps179
  go_wp2_with (go_at_call 210;refine(qDT w.heap.size w.heap.size [] 45 _ (Lib.fresh_isBuilder 253 5 w) (by simp) (by simp)).mono ?_)
  rintro e W0 ⟨rfl,hB0,hb0⟩
  replace hb0:=((Below.refl w.heap.size w).alloc (Nat.le_refl _) (.cells #[.pointer none,.slice none 0 0] 253)).trans hb0
  obtain⟨pre,hpre⟩:∃pre:List UInt8,pre=if true=true then [45] else []:=⟨_,rfl⟩
  replace hB0:BtB w.heap.size w.heap.size (Lib.byteCells pre) W0:=by subst hpre;exact hB0
  go_wp2
 all_goals
  have hp1:pre.length≤1:=by subst hpre;split<;>simp
  have hs0:=hb0.size
  have d1:=(qhX hb0 hlt 1).trans h1
  have dm:=(qhX hb0 hlt (2+m)).trans hwm
  go_region_with (first
   | (go_at_call 132;refine(qyA (f m) (by have:=hf m (by omega);omega) _ (qqn ht hb0.drew)).mono ?_;rintro e W1 ⟨rfl,b1⟩)
   | (go_at_call 211;refine(qAF w.heap.size w.heap.size _ _ _ (qwb (qDQ hB0) b1) (qD2 hp1 hitm) (Nat.le_trans hs0 b1.size)).mono ?_;rintro e W2 ⟨rfl,hB2,b2⟩))
  have b02:Below w.heap.size w W2:=(hb0.drew.trans (b1.mono hs0)).trans b2
  have e1:=(qhX b02 hlt 1).trans h1
  replace hB2:BtB w.heap.size w.heap.size (Lib.byteCells (pre++Lib.itoa (f m))) W2:=by rw[Lib.byteCells_append];exact hB2
  go_wp2
  go_loopw [4] (fun vi wr=>∃(k:Nat) (acc:List UInt8),vi=.int .i64 ((k:Int)-1)∧k≤m∧BtB w.heap.size w.heap.size (Lib.byteCells acc) wr∧Below w.heap.size w wr∧acc++qlH f k=pre++Lib.itoa (f m)++qlH f m∧acc.length≤10+9*(m-k)) (fun vi _=>(intOf vi+1).toNat)
  case atStart=>exact⟨m,_,by congr 1<;>omega,Nat.le_refl _,hB2,b02,rfl,by simp;omega⟩
  case round=>
   obtain⟨k,acc,rfl,hkm,hI,hbw,hacc,hal⟩:=hrel
   have hbs:=hbw.size
   rcases Nat.eq_zero_or_pos k with rfl|hk0
   ·go_wp2_with (go_at_call 212;refine(qA0 w.heap.size w.heap.size acc _ hI ?hne).mono ?_)
    case hne=>
     intro h0
     subst h0
     have:=congrArg List.length hacc
     have h9:=qD5 (f m)
     simp[qlH] at this
     omega
    rintro e W3 ⟨rfl,b3⟩
    go_wp2
    go_ret
    refine⟨?_,hbw.trans b3⟩
    simp only[qlH,List.append_nil] at hacc
    rw[hacc,hpre]
    simp[qyN]
   ·obtain⟨q,rfl⟩:∃q,k=q+1:=⟨k-1,by omega⟩
    have x1:(((q+1:Nat):Int)-1)=(q:Int):=by omega
    have x2:(0:Int)≤(q:Int)∧(q:Int)<232:=by omega
    have x3:(q:Int).toNat=q:=Int.toNat_natCast q
    have dq:=(qhX hbw hlt (2+q)).trans (hw q (by omega))
    have hq9:=qyL (hf q (by omega))
    rw[x1]
    go_wp2_with (go_at_call 132;refine(qyA (f q) (by have:=hf q (by omega);omega) _ (qqn ht hbw)).mono ?_)
    rintro e W3 ⟨rfl,b3⟩
    clear w1 w1' w2 hi hwm hne h1 hf hw ht
    have hl9:((⟨(Lib.itoa (f q)).toArray⟩:ByteArray).size:Int)≤9:=by simp[ByteArray.size];omega
    go_wp2_with (go_at_call 211;refine(qAF w.heap.size w.heap.size (Lib.byteCells acc) _ _ (qwb hI b3) ?hl (Nat.le_trans hbs b3.size)).mono ?_)
    case hl=>rw[qCN hq9,Lib.byteCells_length];have:=qyw hq9;simp[ByteArray.size];omega
    rintro e W4 ⟨rfl,hB4,b4⟩
    rw[qCN hq9,qC0,←Lib.byteCells_append] at hB4
    go_wp2
    go_roundw
    case rel=>
     refine⟨q,_,by congr 1<;>omega,by omega,hB4,(hbw.trans (b3.mono hbs)).trans b4,?_,?_⟩
     ·rw[←hacc];simp[qlH]
     ·have:=qyw hq9
      simp;omega
    case measure=>simp[intOf]
theorem qyi(w:R):∀i,ql4 w i=qlH (fun i=>cI w i 0) i
 | 0=>rfl
 | i+1=>by unfold ql4 qlH;rw[qyi w i]
theorem qDa(b:Bool)(n:Nat)(w:R):qCP b (n:Int) w=qyN b n (fun i=>cI w i 0):=by
 unfold qCP qyN
 by_cases h:n=0
 ·subst h;rfl
 ·rw[if_neg (by omega),if_neg h,qyi]
  have e:((n:Int)-1)=((n-1:Nat):Int):=by omega
  rw[e,Int.toNat_natCast]
theorem qCC{ps:List PV}(h:ps.map PV.kind=[.b,.i,.r]):∃b n w,ps=[.b b,.i n,.r w]:=by
 match ps,h with
 | [.b b,.i n,.r w],_=>exact⟨b,n,w,rfl⟩
theorem qAi{gl:List (Nat×AV)}(hg:(1,AV.eptr (Lib.pow10Tab.map fun _=>.int .u64) qEf 0 0)∈gl) :
  qS Tryz.prog gl 179 (q9 { args:=[.ptr 0 0],h:=[.big [.bool,.int .i64] .i64 232] } [{ res:=.str,h:=[.big [.bool,.int .i64] .i64 232] }] qCv):=
 qhU (q2O Tryz.func179 (by kernel_rfl) (by kernel_rfl)) rfl fun B X ps j qs vargs hs hgl hh ha hk hT=>by
  obtain⟨b,n,r,rfl⟩:=qCC hk
  simp only[qCv] at hT
  split at hT
  ·rename_i hc
   cases hT
   unfold qta at hc
   simp only[Bool.and_eq_true,decide_eq_true_eq,List.all_eq_true,List.mem_range] at hc
   obtain⟨⟨c1,c2⟩,c3⟩:=hc
   obtain⟨m,rfl⟩:∃m:Nat,n=(m:Int):=⟨n.toNat,by omega⟩
   have hb0:X.h[0]?=some (.big [.bool b,.int .i64 (m:Int)] .i64 232 r):=by rw[hh];rfl
   obtain⟨n0,c,T,vs,hσ,hheap,hrep,hcl,hrl⟩:=hs.blk 0 _ hb0
   have hvs:vs=[.bool b,.int .i64 (m:Int)]:=by
    cases hrep with
    | cons h t=>cases h;rw[qyO t]
   subst hvs
   have hva:vargs=[.pointer (some ⟨n0,0,none⟩)]:=by
    cases ha with
    | cons h t=>
     cases t
     cases h with
     | ptr _ _ n1 hb hσ2=>
      have:n1=n0:=Option.some.inj (hσ2.symm.trans hσ)
      rw[this]
   subst hva
   have hlt:n0<X.w.heap.size:=(Array.getElem?_eq_some_iff.1 hheap).1
   have hcell:∀o,X.w.cell? ⟨n0,o,none⟩=c[o]?:=fun o=>by unfold World.cell?;simp only[hheap];rfl
   have g0:X.w.cell? ⟨n0,0,none⟩=some (.bool b):=by rw[hcell,←Array.getElem?_toList,hcl];rfl
   have g1:X.w.cell? ⟨n0,1,none⟩=some (.int .i64 (m:Int)):=by rw[hcell,←Array.getElem?_toList,hcl];rfl
   have gw:∀i,i<232→X.w.cell? ⟨n0,2+i,none⟩=some (.int .i64 (cI r (i:Int) 0)):=fun i hi=>by
    rw[hcell]
    exact quv (vs:=[.bool b,.int .i64 (m:Int)]) hcl (by omega)
   refine⟨rfl,rfl,rfl,?_⟩
   have hT:=qpN (k:=.u64) (zs:=Lib.pow10Tab) (show Tryz.prog.globalNamed "internal/strconv.uint64pow10" = some 1 by kernel_rfl) (by decide) (hgl _ hg).2
   refine(qDp n0 b m (fun i=>cI r (i:Int) 0) X.w hlt g0 g1 gw (by omega) (fun i hi=>c3 i (by omega)) hT).mono fun e w' ⟨k1,k2⟩=>⟨_,k1,k2,?_⟩
   rw[←qDa]
   exact .str _
  ·cases hT
end Go.Eng

namespace Go.Eng
open Go.Proofs
noncomputable def qeA:List (TypeId×TI):=[(1,(.mk .func 1 [.nilFunc] 8 false false)),(2,(.mk (.int .i64) 1 [(.int .i64 0)] 8 false false)),(3,(.mk (.int .i64) 1 [(.int .i64 0)] 8 false false)),(4,(.mk .bool 1 [(.bool false)] 1 false false)),(5,(.mk (.int .u8) 1 [(.int .u8 0)] 1 false false)),(6,(.mk (.int .u8) 1 [(.int .u8 0)] 1 false false)),(8,(.mk (.struct [(0,(2,1)),(1,(3,1)),(2,(4,1)),(3,(6,1))]) 4 [(.int .i64 0),(.int .i64 0),(.bool false),(.int .u8 0)] 24 true true)),(9,(.mk .str 1 [(.string (.mk (.mk [])))] 16 false false)),(10,(.mk .str 1 [(.string (.mk (.mk [])))] 16 false false)),(11,(.mk .str 1 [(.string (.mk (.mk [])))] 16 false false)),(12,(.mk (.int .u64) 1 [(.int .u64 0)] 8 false false)),(13,(.mk (.struct [(0,(9,1)),(1,(12,1))]) 2 [(.string (.mk (.mk []))),(.int .u64 0)] 24 false true)),(14,(.mk (.struct [(0,(9,1)),(1,(12,1))]) 2 [(.string (.mk (.mk []))),(.int .u64 0)] 24 false true)),(16,(.mk (.ptr 316) 1 [(.pointer .none)] 8 false false)),(17,(.mk (.ptr 324) 1 [(.pointer .none)] 8 false false)),(18,(.mk (.struct [(0,(17,1))]) 1 [(.pointer .none)] 8 false true)),(21,(.mk (.int .i32) 1 [(.int .i32 0)] 4 false false)),(22,(.mk (.slice 68 7) 1 [(.slice .none 0 0)] 24 false false)),(24,(.mk (.struct [(0,(22,1)),(1,(22,1))]) 2 [(.slice .none 0 0),(.slice .none 0 0)] 48 true true)),(26,(.mk (.slice 3 1) 1 [(.slice .none 0 0)] 24 false false)),(27,(.mk (.int .i64) 1 [(.int .i64 0)] 8 false false)),(32,(.mk (.struct [(0,(22,1)),(1,(22,1))]) 2 [(.slice .none 0 0),(.slice .none 0 0)] 48 true true)),(40,(.mk .func 1 [.nilFunc] 8 false false)),(41,(.mk (.slice 60 3) 1 [(.slice .none 0 0)] 24 false false)),(43,(.mk (.struct [(0,(41,1)),(1,(41,1))]) 2 [(.slice .none 0 0),(.slice .none 0 0)] 48 true true)),(45,(.mk .func 1 [.nilFunc] 8 false false)),(47,(.mk (.struct [(0,(41,1)),(1,(41,1))]) 2 [(.slice .none 0 0),(.slice .none 0 0)] 48 true true)),(48,(.mk (.struct [(0,(3,1)),(1,(3,1)),(2,(3,1))]) 3 [(.int .i64 0),(.int .i64 0),(.int .i64 0)] 24 true true)),(49,(.mk (.struct [(0,(3,1)),(1,(3,1)),(2,(3,1))]) 3 [(.int .i64 0),(.int .i64 0),(.int .i64 0)] 24 true true)),(51,(.mk .func 1 [.nilFunc] 8 false false)),(52,(.mk (.struct [(0,(3,1)),(1,(3,1)),(2,(3,1))]) 3 [(.int .i64 0),(.int .i64 0),(.int .i64 0)] 24 true true)),(54,(.mk .func 1 [.nilFunc] 8 false false)),(55,(.mk (.struct [(0,(3,1)),(1,(3,1))]) 2 [(.int .i64 0),(.int .i64 0)] 16 true true)),(56,(.mk (.struct [(0,(3,1)),(1,(3,1))]) 2 [(.int .i64 0),(.int .i64 0)] 16 true true)),(57,(.mk .func 1 [.nilFunc] 8 false false)),(60,(.mk (.struct [(0,(56,2)),(2,(3,1))]) 3 [(.int .i64 0),(.int .i64 0),(.int .i64 0)] 24 true true)),(63,(.mk (.slice 118 3) 1 [(.slice .none 0 0)] 24 false false)),(64,(.mk .func 1 [.nilFunc] 8 false false)),(66,(.mk (.struct [(0,(3,1)),(1,(3,1))]) 2 [(.int .i64 0),(.int .i64 0)] 16 true true)),(68,(.mk (.struct [(0,(56,2)),(2,(66,2)),(4,(3,1)),(5,(3,1)),(6,(4,1))]) 7 [(.int .i64 0),(.int .i64 0),(.int .i64 0),(.int .i64 0),(.int .i64 0),(.int .i64 0),(.bool false)] 56 true true)),(69,(.mk (.slice 66 2) 1 [(.slice .none 0 0)] 24 false false)),(79,(.mk (.int .u16) 1 [(.int .u16 0)] 2 false false)),(89,(.mk .func 1 [.nilFunc] 8 false false)),(90,(.mk .func 1 [.nilFunc] 8 false false)),(92,(.mk .func 1 [.nilFunc] 8 false false)),(104,(.mk .func 1 [.nilFunc] 8 false false)),(106,(.mk (.ptr 108) 1 [(.pointer .none)] 8 false false)),(108,(.mk (.struct [(0,(27,1))]) 1 [(.int .i64 0)] 8 true true)),(112,(.mk .str 1 [(.string (.mk (.mk [])))] 16 false false)),(115,(.mk (.struct [(0,(112,1)),(1,(112,1))]) 2 [(.string (.mk (.mk []))),(.string (.mk (.mk [])))] 32 true true)),(118,(.mk (.struct [(0,(115,2)),(2,(112,1))]) 3 [(.string (.mk (.mk []))),(.string (.mk (.mk []))),(.string (.mk (.mk [])))] 48 true true)),(125,(.mk (.struct [(0,(68,7)),(7,(3,1))]) 8 [(.int .i64 0),(.int .i64 0),(.int .i64 0),(.int .i64 0),(.int .i64 0),(.int .i64 0),(.bool false),(.int .i64 0)] 64 true true)),(137,(.mk .func 1 [.nilFunc] 8 false false)),(139,(.mk .func 1 [.nilFunc] 8 false false)),(142,(.mk (.struct [(0,(115,2)),(2,(115,2)),(4,(112,1))]) 5 [(.string (.mk (.mk []))),(.string (.mk (.mk []))),(.string (.mk (.mk []))),(.string (.mk (.mk []))),(.string (.mk (.mk [])))] 80 true true)),(146,(.mk .func 1 [.nilFunc] 8 false false)),(148,(.mk .str 1 [(.string (.mk (.mk [])))] 16 false false)),(154,(.mk (.array 3 3 1) 3 [(.int .i64 0),(.int .i64 0),(.int .i64 0)] 24 false false)),(155,(.mk (.array 2 154 3) 6 [(.int .i64 0),(.int .i64 0),(.int .i64 0),(.int .i64 0),(.int .i64 0),(.int .i64 0)] 48 false false)),(157,(.mk .func 1 [.nilFunc] 8 false false)),(158,(.mk .func 1 [.nilFunc] 8 false false)),(162,(.mk (.ptr 188) 1 [(.pointer .none)] 8 false false)),(166,(.mk (.struct [(0,(115,2)),(2,(115,2)),(4,(112,1))]) 5 [(.string (.mk (.mk []))),(.string (.mk (.mk []))),(.string (.mk (.mk []))),(.string (.mk (.mk []))),(.string (.mk (.mk [])))] 80 true true)),(170,(.mk (.slice 112 1) 1 [(.slice .none 0 0)] 24 false false)),(179,(.mk (.slice 5 1) 1 [(.slice .none 0 0)] 24 false false)),(184,(.mk .func 1 [.nilFunc] 8 false false)),(185,(.mk (.slice 148 1) 1 [(.slice .none 0 0)] 24 false false)),(188,(.mk (.struct [(0,(27,1))]) 1 [(.int .i64 0)] 8 true true)),(190,(.mk .func 1 [.nilFunc] 8 false false)),(194,(.mk .func 1 [.nilFunc] 8 false false)),(195,(.mk .func 1 [.nilFunc] 8 false false)),(213,(.mk (.ptr 225) 1 [(.pointer .none)] 8 false false)),(223,(.mk (.array 232 3 1) 232 [(.int .i64 0),(.int .i64 0),(.int .i64 0),(.int .i64 0),(.int .i64 0),(.int .i64 0),(.int .i64 0),(.int .i64 0),(.int .i64 0),(.int .i64 0),(.int .i64 0),(.int .i64 0),(.int .i64 0),(.int .i64 0),(.int .i64 0),(.int .i64 0),(.int .i64 0),(.int .i64 0),(.int .i64 0),(.int .i64 0),(.int .i64 0),(.int .i64 0),(.int .i64 0),(.int .i64 0),(.int .i64 0),(.int .i64 0),(.int .i64 0),(.int .i64 0),(.int .i64 0),(.int .i64 0),(.int .i64 0),(.int .i64 0),(.int .i64 0),(.int .i64 0),(.int .i64 0),(.int .i64 0),(.int .i64 0),(.int .i64 0),(.int .i64 0),(.int .i64 0),(.int .i64 0),(.int .i64 0),(.int .i64 0),(.int .i64 0),(.int .i64 0),(.int .i64 0),(.int .i64 0),(.int .i64 0),(.int .i64 0),(.int .i64 0),(.int .i64 0),(.int .i64 0),(.int .i64 0),(.int .i64 0),(.int .i64 0),(.int .i64 0),(.int .i64 0),(.int .i64 0),(.int .i64 0),(.int .i64 0),(.int .i64 0),(.int .i64 0),(.int .i64 0),(.int .i64 0),(.int .i64 0),(.int .i64 0),(.int .i64 0),(.int .i64 0),(.int .i64 0),(.int .i64 0),(.int .i64 0),(.int .i64 0),(.int .i64 0),(.int .i64 0),(.int .i64 0),(.int .i64 0),(.int .i64 0),(.int .i64 0),(.int .i64 0),(.int .i64 0),(.int .i64 0),(.int .i64 0),(.int .i64 0),(.int .i64 0),(.int .i64 0),(.int .i64 0),(.int .i64 0),(.int .i64 0),(.int .i64 0),(.int .i64 0),(.int .i64 0),(.int .i64 0),(.int .i64 0),(.int .i64 0),(.int .i64 0),(.int .i64 0),(.int .i64 0),(.int .i64 0),(.int .i64 0),(.int .i64 0),(.int .i64 0),(.int .i64 0),(.int .i64 0),(.int .i64 0),(.int .i64 0),(.int .i64 0),(.int .i64 0),(.int .i64 0),(.int .i64 0),(.int .i64 0),(.int .i64 0),(.int .i64 0),(.int .i64 0),(.int .i64 0),(.int .i64 0),(.int .i64 0),(.int .i64 0),(.int .i64 0),(.int .i64 0),(.int .i64 0),(.int .i64 0),(.int .i64 0),(.int .i64 0),(.int .i64 0),(.int .i64 0),(.int .i64 0),(.int .i64 0),(.int .i64 0),(.int .i64 0),(.int .i64 0),(.int .i64 0),(.int .i64 0),(.int .i64 0),(.int .i64 0),(.int .i64 0),(.int .i64 0),(.int .i64 0),(.int .i64 0),(.int .i64 0),(.int .i64 0),(.int .i64 0),(.int .i64 0),(.int .i64 0),(.int .i64 0),(.int .i64 0),(.int .i64 0),(.int .i64 0),(.int .i64 0),(.int .i64 0),(.int .i64 0),(.int .i64 0),(.int .i64 0),(.int .i64 0),(.int .i64 0),(.int .i64 0),(.int .i64 0),(.int .i64 0),(.int .i64 0),(.int .i64 0),(.int .i64 0),(.int .i64 0),(.int .i64 0),(.int .i64 0),(.int .i64 0),(.int .i64 0),(.int .i64 0),(.int .i64 0),(.int .i64 0),(.int .i64 0),(.int .i64 0),(.int .i64 0),(.int .i64 0),(.int .i64 0),(.int .i64 0),(.int .i64 0),(.int .i64 0),(.int .i64 0),(.int .i64 0),(.int .i64 0),(.int .i64 0),(.int .i64 0),(.int .i64 0),(.int .i64 0),(.int .i64 0),(.int .i64 0),(.int .i64 0),(.int .i64 0),(.int .i64 0),(.int .i64 0),(.int .i64 0),(.int .i64 0),(.int .i64 0),(.int .i64 0),(.int .i64 0),(.int .i64 0),(.int .i64 0),(.int .i64 0),(.int .i64 0),(.int .i64 0),(.int .i64 0),(.int .i64 0),(.int .i64 0),(.int .i64 0),(.int .i64 0),(.int .i64 0),(.int .i64 0),(.int .i64 0),(.int .i64 0),(.int .i64 0),(.int .i64 0),(.int .i64 0),(.int .i64 0),(.int .i64 0),(.int .i64 0),(.int .i64 0),(.int .i64 0),(.int .i64 0),(.int .i64 0),(.int .i64 0),(.int .i64 0),(.int .i64 0),(.int .i64 0),(.int .i64 0),(.int .i64 0),(.int .i64 0),(.int .i64 0),(.int .i64 0),(.int .i64 0),(.int .i64 0),(.int .i64 0),(.int .i64 0),(.int .i64 0)] 1856 false false)),(225,(.mk (.struct [(0,(4,1)),(1,(3,1)),(2,(223,232))]) 234 [(.bool false),(.int .i64 0),(.int .i64 0),(.int .i64 0),(.int .i64 0),(.int .i64 0),(.int .i64 0),(.int .i64 0),(.int .i64 0),(.int .i64 0),(.int .i64 0),(.int .i64 0),(.int .i64 0),(.int .i64 0),(.int .i64 0),(.int .i64 0),(.int .i64 0),(.int .i64 0),(.int .i64 0),(.int .i64 0),(.int .i64 0),(.int .i64 0),(.int .i64 0),(.int .i64 0),(.int .i64 0),(.int .i64 0),(.int .i64 0),(.int .i64 0),(.int .i64 0),(.int .i64 0),(.int .i64 0),(.int .i64 0),(.int .i64 0),(.int .i64 0),(.int .i64 0),(.int .i64 0),(.int .i64 0),(.int .i64 0),(.int .i64 0),(.int .i64 0),(.int .i64 0),(.int .i64 0),(.int .i64 0),(.int .i64 0),(.int .i64 0),(.int .i64 0),(.int .i64 0),(.int .i64 0),(.int .i64 0),(.int .i64 0),(.int .i64 0),(.int .i64 0),(.int .i64 0),(.int .i64 0),(.int .i64 0),(.int .i64 0),(.int .i64 0),(.int .i64 0),(.int .i64 0),(.int .i64 0),(.int .i64 0),(.int .i64 0),(.int .i64 0),(.int .i64 0),(.int .i64 0),(.int .i64 0),(.int .i64 0),(.int .i64 0),(.int .i64 0),(.int .i64 0),(.int .i64 0),(.int .i64 0),(.int .i64 0),(.int .i64 0),(.int .i64 0),(.int .i64 0),(.int .i64 0),(.int .i64 0),(.int .i64 0),(.int .i64 0),(.int .i64 0),(.int .i64 0),(.int .i64 0),(.int .i64 0),(.int .i64 0),(.int .i64 0),(.int .i64 0),(.int .i64 0),(.int .i64 0),(.int .i64 0),(.int .i64 0),(.int .i64 0),(.int .i64 0),(.int .i64 0),(.int .i64 0),(.int .i64 0),(.int .i64 0),(.int .i64 0),(.int .i64 0),(.int .i64 0),(.int .i64 0),(.int .i64 0),(.int .i64 0),(.int .i64 0),(.int .i64 0),(.int .i64 0),(.int .i64 0),(.int .i64 0),(.int .i64 0),(.int .i64 0),(.int .i64 0),(.int .i64 0),(.int .i64 0),(.int .i64 0),(.int .i64 0),(.int .i64 0),(.int .i64 0),(.int .i64 0),(.int .i64 0),(.int .i64 0),(.int .i64 0),(.int .i64 0),(.int .i64 0),(.int .i64 0),(.int .i64 0),(.int .i64 0),(.int .i64 0),(.int .i64 0),(.int .i64 0),(.int .i64 0),(.int .i64 0),(.int .i64 0),(.int .i64 0),(.int .i64 0),(.int .i64 0),(.int .i64 0),(.int .i64 0),(.int .i64 0),(.int .i64 0),(.int .i64 0),(.int .i64 0),(.int .i64 0),(.int .i64 0),(.int .i64 0),(.int .i64 0),(.int .i64 0),(.int .i64 0),(.int .i64 0),(.int .i64 0),(.int .i64 0),(.int .i64 0),(.int .i64 0),(.int .i64 0),(.int .i64 0),(.int .i64 0),(.int .i64 0),(.int .i64 0),(.int .i64 0),(.int .i64 0),(.int .i64 0),(.int .i64 0),(.int .i64 0),(.int .i64 0),(.int .i64 0),(.int .i64 0),(.int .i64 0),(.int .i64 0),(.int .i64 0),(.int .i64 0),(.int .i64 0),(.int .i64 0),(.int .i64 0),(.int .i64 0),(.int .i64 0),(.int .i64 0),(.int .i64 0),(.int .i64 0),(.int .i64 0),(.int .i64 0),(.int .i64 0),(.int .i64 0),(.int .i64 0),(.int .i64 0),(.int .i64 0),(.int .i64 0),(.int .i64 0),(.int .i64 0),(.int .i64 0),(.int .i64 0),(.int .i64 0),(.int .i64 0),(.int .i64 0),(.int .i64 0),(.int .i64 0),(.int .i64 0),(.int .i64 0),(.int .i64 0),(.int .i64 0),(.int .i64 0),(.int .i64 0),(.int .i64 0),(.int .i64 0),(.int .i64 0),(.int .i64 0),(.int .i64 0),(.int .i64 0),(.int .i64 0),(.int .i64 0),(.int .i64 0),(.int .i64 0),(.int .i64 0),(.int .i64 0),(.int .i64 0),(.int .i64 0),(.int .i64 0),(.int .i64 0),(.int .i64 0),(.int .i64 0),(.int .i64 0),(.int .i64 0),(.int .i64 0),(.int .i64 0),(.int .i64 0),(.int .i64 0),(.int .i64 0),(.int .i64 0),(.int .i64 0),(.int .i64 0),(.int .i64 0),(.int .i64 0),(.int .i64 0),(.int .i64 0),(.int .i64 0),(.int .i64 0)] 1872 true true)),(266,(.mk (.int .u64) 1 [(.int .u64 0)] 8 false false)),(272,(.mk .func 1 [.nilFunc] 8 false false)),(273,(.mk (.ptr 5) 1 [(.pointer .none)] 8 false false)),(278,(.mk (.array 20 266 1) 20 [(.int .u64 0),(.int .u64 0),(.int .u64 0),(.int .u64 0),(.int .u64 0),(.int .u64 0),(.int .u64 0),(.int .u64 0),(.int .u64 0),(.int .u64 0),(.int .u64 0),(.int .u64 0),(.int .u64 0),(.int .u64 0),(.int .u64 0),(.int .u64 0),(.int .u64 0),(.int .u64 0),(.int .u64 0),(.int .u64 0)] 160 false false)),(279,(.mk (.int .u32) 1 [(.int .u32 0)] 4 false false)),(314,(.mk (.array 0 16 1) 0 [] 0 false false)),(316,(.mk (.struct [(0,(314,0))]) 0 [] 0 false true)),(318,(.mk (.int .u8) 1 [(.int .u8 0)] 1 false false)),(319,(.mk (.int .u8) 1 [(.int .u8 0)] 1 false false)),(320,(.mk .func 1 [.nilFunc] 8 false false)),(321,(.mk (.int .i32) 1 [(.int .i32 0)] 4 false false)),(322,(.mk (.int .i32) 1 [(.int .i32 0)] 4 false false)),(324,(.mk (.struct [(0,(12,1)),(1,(12,1)),(2,(279,1)),(3,(318,1)),(4,(5,1)),(5,(5,1)),(6,(319,1)),(7,(320,1)),(8,(273,1)),(9,(321,1)),(10,(322,1))]) 11 [(.int .u64 0),(.int .u64 0),(.int .u32 0),(.int .u8 0),(.int .u8 0),(.int .u8 0),(.int .u8 0),.nilFunc,(.pointer .none),(.int .i32 0),(.int .i32 0)] 48 false true))]
noncomputable def qa:List (Nat×AV):=[(1,(.eptr [.int .u64,.int .u64,.int .u64,.int .u64,.int .u64,.int .u64,.int .u64,.int .u64,.int .u64,.int .u64,.int .u64,.int .u64,.int .u64,.int .u64,.int .u64,.int .u64,.int .u64,.int .u64,.int .u64,.int .u64] [[.i 1,.i 10,.i 100,.i 1000,.i 10000,.i 100000,.i 1000000,.i 10000000,.i 100000000,.i 1000000000,.i 10000000000,.i 100000000000,.i 1000000000000,.i 10000000000000,.i 100000000000000,.i 1000000000000000,.i 10000000000000000,.i 100000000000000000,.i 1000000000000000000,.i 10000000000000000000]] 0 0)),(0,(.eptr [.int .i64,.int .i64,.int .i64,.int .i64,.int .i64,.int .i64] [[.i (-1),.i (-1),.i 1,.i 1,.i 1,.i (-1)]] 0 0))]
theorem q8:qeA.map (fun x=>qwd Tryz.prog x.1)=qeA.map (·.2):=by kernel_rfl
theorem qc:Tryz.prog.follows .mixedOrders=true:=by kernel_rfl
noncomputable def qe(s:List (FuncId×(List AV→List Blk→Tree (AV×List Blk))))(b:List (FuncId×Func))(l:List ((FuncId×Nat)×(St→Tree (Ex×St))))(n:Nat):Env:=⟨qeA,qa,s,b,l,n,[],[]⟩
def qhT:FIn:=⟨[(.int .i64)],[]⟩
def qhY:List FOut:=[⟨.bool,[],none⟩]
noncomputable def qsG:=qe [] [(101,Tryz.f101)] [] 0
noncomputable def uo:=qp qsG 101 Tryz.f101 true qhT qhY
theorem qlB:qS Tryz.prog qa 101 (q9 qhT qhY uo):=sk qsG qc q8 aln aln (b1 Tryz.func101) Tryz.func101
def qcm:FIn:=⟨[(.int .i64)],[]⟩
def qc3:List FOut:=[⟨.bool,[],none⟩]
noncomputable def qnS:=qe [] [(102,Tryz.f102)] [] 0
noncomputable def jF:=qp qnS 102 Tryz.f102 true qcm qc3
theorem qgk:qS Tryz.prog qa 102 (q9 qcm qc3 jF):=sk qnS qc q8 aln aln (b1 Tryz.func102) Tryz.func102
def q3h:FIn:=⟨[(.agg [(.int .i64),(.int .i64),(.int .i64),(.int .i64),(.int .i64),(.int .i64),.bool])],[]⟩
def q3v:List FOut:=[⟨(.int .i64),[],none⟩]
noncomputable def qlP:=qe [(101,q9 qhT qhY uo),(102,q9 qcm qc3 jF)] [(72,Tryz.f72)] [] 0
noncomputable def jm:=qp qlP 72 Tryz.f72 true q3h q3v
theorem q4s:qS Tryz.prog qa 72 (q9 q3h q3v jm):=sk qlP qc q8 (alc qlB (alc qgk aln)) aln (b1 Tryz.func72) Tryz.func72
def q5S:FIn:=⟨[(.agg [(.int .i64),(.int .i64),(.int .i64),(.int .i64),(.int .i64),(.int .i64),.bool]),(.agg [(.int .i64),(.int .i64),(.int .i64),(.int .i64),(.int .i64),(.int .i64),.bool])],[]⟩
def q5E:List FOut:=[⟨(.int .i64),[],none⟩]
def q7b:Tmpl:={ t:=(.any::.any::(.ptr 0 0)::(.ptr 1 0)::qA 6 ((.vec 2)::(.int .i64)::(.int .i64)::qA 31 [])),h:=[.cells [(.int .i64),(.int .i64),(.int .i64),(.int .i64),(.int .i64),(.int .i64),.bool],.cells [(.int .i64),(.int .i64),(.int .i64),(.int .i64),(.int .i64),(.int .i64),.bool],.vec 68 [(.int .i64),(.int .i64),(.int .i64),(.int .i64),(.int .i64),(.int .i64),.bool]] }
def q77:List Out:=[⟨(.exit 0),{ t:=(.any::.any::(.ptr 0 0)::(.ptr 1 0)::qA 40 []),h:=[.cells [(.int .i64),(.int .i64),(.int .i64),(.int .i64),(.int .i64),(.int .i64),.bool],.cells [(.int .i64),(.int .i64),(.int .i64),(.int .i64),(.int .i64),(.int .i64),.bool]] }⟩,⟨.ret,{ t:=(qA 4 ((.int .i64)::qA 39 [])),h:=[] }⟩]
noncomputable def q3y:=qe [(72,q9 q3h q3v jm)] [(45,Tryz.f45)] [] 0
noncomputable def ug:=wD q3y 45 Tryz.f45 3 q7b q77
theorem qif:qm Tryz.prog qa q3y.nimp (qx Tryz.prog q3y.iter 45) (zb Tryz.f45 3) (qj q7b q77 (qg ug)):=
 gk q3y qc q8 (alc q4s aln) aln (b1 Tryz.func45) Tryz.func45
noncomputable def qhy:=qe [(72,q9 q3h q3v jm)] [(45,Tryz.f45)] [((45,3),qj q7b q77 (qg ug))] 0
noncomputable def q0C:=qp qhy 45 Tryz.f45 true q5S q5E
theorem qce:qS Tryz.prog qa 45 (q9 q5S q5E q0C):=sk qhy qc q8 (alc q4s aln) (alc (lk Tryz.func45 qif) aln) (b1 Tryz.func45) Tryz.func45
def uO:FIn:=⟨[(.agg [(.imm [(.int .i64),(.int .i64),(.int .i64),(.int .i64),(.int .i64),(.int .i64),.bool]),(.imm [(.int .i64),(.int .i64),(.int .i64),(.int .i64),(.int .i64),(.int .i64),.bool])])],[]⟩
def uP:List FOut:=[⟨(.int .i64),[],none⟩]
def q57:Tmpl:={ t:=(.any::(.ptr 0 0)::qA 23 ((.int .i64)::(.int .i64)::qA 17 [])),h:=[.cells [(.imm [(.int .i64),(.int .i64),(.int .i64),(.int .i64),(.int .i64),(.int .i64),.bool]),(.imm [(.int .i64),(.int .i64),(.int .i64),(.int .i64),(.int .i64),(.int .i64),.bool])]] }
def q4Y:List Out:=[⟨(.exit 1),{ t:=(qA 44 []),h:=[] }⟩,⟨.ret,{ t:=(.any::.any::(.int .i64)::qA 41 []),h:=[] }⟩]
noncomputable def q18:=qe [(45,q9 q5S q5E q0C)] [(16,Tryz.f16)] [] 0
noncomputable def ur:=wD q18 16 Tryz.f16 10 q57 q4Y
theorem qga:qm Tryz.prog qa q18.nimp (qx Tryz.prog q18.iter 16) (zb Tryz.f16 10) (qj q57 q4Y (qg ur)):=
 gk q18 qc q8 (alc qce aln) aln (b1 Tryz.func16) Tryz.func16
noncomputable def qfN:=qe [(45,q9 q5S q5E q0C)] [(16,Tryz.f16)] [((16,10),qj q57 q4Y (qg ur))] 0
noncomputable def wX:=qp qfN 16 Tryz.f16 true uO uP
theorem q1b:qS Tryz.prog qa 16 (q9 uO uP wX):=sk qfN qc q8 (alc qce aln) (alc (lk Tryz.func16 qga) aln) (b1 Tryz.func16) Tryz.func16
def qmD:FIn:=⟨[(.agg [(.int .i64),(.int .i64),(.int .i64),(.int .i64),(.int .i64),(.int .i64),.bool])],[]⟩
def qn0:List FOut:=[⟨(.agg [(.int .i64),(.int .i64),(.int .i64),(.int .i64),(.int .i64),(.int .i64),.bool,(.int .i64)]),[],none⟩]
noncomputable def qsP:=qe [] [(73,Tryz.f73)] [] 0
noncomputable def qdo:=qp qsP 73 Tryz.f73 true qmD qn0
theorem qus:qS Tryz.prog qa 73 (q9 qmD qn0 qdo):=sk qsP qc q8 aln aln (b1 Tryz.func73) Tryz.func73
def q2u:FIn:=⟨[(.agg [(.int .i64),(.int .i64),(.int .i64),(.int .i64),(.int .i64),(.int .i64),.bool,(.int .i64)]),(.int .i64)],[]⟩
def q2w:List FOut:=[⟨(.int .i64),[],none⟩]
noncomputable def q88:=qe [] [(74,Tryz.f74)] [] 0
noncomputable def jM:=qp q88 74 Tryz.f74 true q2u q2w
theorem qdI:qS Tryz.prog qa 74 (q9 q2u q2w jM):=sk q88 qc q8 aln aln (b1 Tryz.func74) Tryz.func74
def q68:FIn:=⟨[(.agg [(.int .i64),(.int .i64),(.int .i64),(.int .i64),(.int .i64),(.int .i64),.bool])],[]⟩
def q5u:List FOut:=[⟨(.tuple [(.int .i64),(.int .i64)]),[],none⟩]
noncomputable def qgM:=qe [(72,q9 q3h q3v jm),(73,q9 qmD qn0 qdo),(74,q9 q2u q2w jM)] [(40,Tryz.f40)] [] 0
noncomputable def jO:=qp qgM 40 Tryz.f40 true q68 q5u
theorem qcq:qS Tryz.prog qa 40 (q9 q68 q5u jO):=sk qgM qc q8 (alc q4s (alc qus (alc qdI aln))) aln (b1 Tryz.func40) Tryz.func40
def q2g:FIn:=⟨[(.agg [(.imm [(.int .i64),(.int .i64),(.int .i64),(.int .i64),(.int .i64),(.int .i64),.bool]),(.imm [(.int .i64),(.int .i64),(.int .i64),(.int .i64),(.int .i64),(.int .i64),.bool])])],[]⟩
def q28:List FOut:=[⟨(.tuple [(.imm [(.int .i64)]),(.int .i64)]),[],none⟩]
def q3M:Tmpl:={ t:=(.any::(.ptr 0 0)::.any::.any::.any::(.vec 1)::qA 12 ((.imm [(.int .i64),(.int .i64),(.int .i64),(.int .i64),(.int .i64),(.int .i64),.bool])::(.int .i64)::(.int .i64)::qA 37 [])),h:=[.cells [(.imm [(.int .i64),(.int .i64),(.int .i64),(.int .i64),(.int .i64),(.int .i64),.bool]),(.imm [(.int .i64),(.int .i64),(.int .i64),(.int .i64),(.int .i64),(.int .i64),.bool])],.vec 3 [(.int .i64)]],pro:=[(5,3,[(.int .i64)])] }
def q3J:List Out:=[⟨(.exit 0),{ t:=(qA 5 ((.vec 1)::qA 52 [])),h:=[.dead,.vec 3 [(.int .i64)]] }⟩,⟨.ret,{ t:=(.any::.any::.nils::(.int .i64)::qA 54 []),h:=[] }⟩]
noncomputable def q05:=qe [(16,q9 uO uP wX),(40,q9 q68 q5u jO)] [(12,Tryz.f12)] [] 0
noncomputable def vX:=wD q05 12 Tryz.f12 8 q3M q3J
theorem qeF:qm Tryz.prog qa q05.nimp (qx Tryz.prog q05.iter 12) (zb Tryz.f12 8) (qj q3M q3J (qg vX)):=
 gk q05 qc q8 (alc q1b (alc qcq aln)) aln (b1 Tryz.func12) Tryz.func12
noncomputable def qci:=qe [(16,q9 uO uP wX),(40,q9 q68 q5u jO)] [(12,Tryz.f12)] [((12,8),qj q3M q3J (qg vX))] 0
noncomputable def vP:=qp qci 12 Tryz.f12 true q2g q28
theorem q7R:qS Tryz.prog qa 12 (q9 q2g q28 vP):=sk qci qc q8 (alc q1b (alc qcq aln)) (alc (lk Tryz.func12 qeF) aln) (b1 Tryz.func12) Tryz.func12
def wY:FIn:=⟨[(.int .i64),(.int .i64)],[]⟩
def v6:List FOut:=[⟨.bool,[],none⟩]
noncomputable def qag:=qe [] [(43,Tryz.f43)] [] 0
noncomputable def we:=qp qag 43 Tryz.f43 true wY v6
theorem jd:qS Tryz.prog qa 43 (q9 wY v6 we):=sk qag qc q8 aln aln (b1 Tryz.func43) Tryz.func43
def qJ:FIn:=⟨[(.imm [(.int .i64)]),(.fn 43 [] [])],[]⟩
def qK:List FOut:=[⟨(.imm [(.int .i64)]),[],none⟩]
def zE:Tmpl:={ t:=(.any::(.fn 43 [] [])::.any::.any::.any::(.vec 0)::.any::.any::(.imm [(.int .i64)])::(.int .i64)::(.int .i64)::qA 14 []),h:=[.vec 3 [(.int .i64)]],pro:=[(5,3,[(.int .i64)])] }
def zF:List Out:=[⟨(.exit 0),{ t:=(qA 5 ((.vec 0)::qA 19 [])),h:=[.vec 3 [(.int .i64)]] }⟩]
noncomputable def qU:=qe [(43,q9 wY v6 we)] [(42,Tryz.f42)] [] 0
noncomputable def qy:=wD qU 42 Tryz.f42 4 zE zF
theorem q02:qm Tryz.prog qa qU.nimp (qx Tryz.prog qU.iter 42) (zb Tryz.f42 4) (qj zE zF (qg qy)):=
 gk qU qc q8 (alc jd aln) aln (b1 Tryz.func42) Tryz.func42
noncomputable def j9:=qe [(43,q9 wY v6 we)] [(42,Tryz.f42)] [((42,4),qj zE zF (qg qy))] 0
noncomputable def qk:=qp j9 42 Tryz.f42 true qJ qK
theorem zw:qS Tryz.prog qa 42 (q9 qJ qK qk):=sk j9 qc q8 (alc jd aln) (alc (lk Tryz.func42 q02) aln) (b1 Tryz.func42) Tryz.func42
def qbe:FIn:=⟨[(.agg [(.imm [(.int .i64),(.int .i64),(.int .i64),(.int .i64),(.int .i64),(.int .i64),.bool]),(.imm [(.int .i64),(.int .i64),(.int .i64),(.int .i64),(.int .i64),(.int .i64),.bool])])],[]⟩
def qaS:List FOut:=[⟨(.tuple [.bool,(.int .i64)]),[],none⟩]
noncomputable def qgz:=qe [(12,q9 q2g q28 vP),(43,q9 wY v6 we),(42,q9 qJ qK qk)] [(14,Tryz.f14)] [] 0
noncomputable def q2C:=qp qgz 14 Tryz.f14 true qbe qaS
theorem qlQ:qS Tryz.prog qa 14 (q9 qbe qaS q2C):=sk qgz qc q8 (alc q7R (alc jd (alc zw aln))) aln (b1 Tryz.func14) Tryz.func14
def uF:FIn:=⟨[(.imm [(.int .i64)]),(.imm [(.int .i64)])],[]⟩
def uH:List FOut:=[⟨.bool,[],none⟩]
def q0M:Tmpl:={ t:=((.imm [(.int .i64)])::(.imm [(.int .i64)])::qA 10 ((.int .i64)::(.int .i64)::qA 12 [])),h:=[] }
def q0r:List Out:=[⟨(.exit 0),{ t:=(qA 26 []),h:=[] }⟩,⟨.ret,{ t:=(qA 4 (.bool::qA 21 [])),h:=[] }⟩]
noncomputable def yj:=qe [] [(18,Tryz.f18)] [] 0
noncomputable def vd:=wD yj 18 Tryz.f18 6 q0M q0r
theorem qb4:qm Tryz.prog qa yj.nimp (qx Tryz.prog yj.iter 18) (zb Tryz.f18 6) (qj q0M q0r (qg vd)):=
 gk yj qc q8 aln aln (b1 Tryz.func18) Tryz.func18
noncomputable def q6G:=qe [] [(18,Tryz.f18)] [((18,6),qj q0M q0r (qg vd))] 0
noncomputable def qZ:=qp q6G 18 Tryz.f18 true uF uH
theorem q4i:qS Tryz.prog qa 18 (q9 uF uH qZ):=sk q6G qc q8 aln (alc (lk Tryz.func18 qb4) aln) (b1 Tryz.func18) Tryz.func18
def qkc:FIn:=⟨[(.agg [(.int .i64),(.int .i64),(.int .i64),(.int .i64),(.int .i64),(.int .i64),.bool]),(.agg [(.int .i64),(.int .i64),(.int .i64)])],[]⟩
def qjL:List FOut:=[⟨(.tuple [(.int .i64),(.int .i64)]),[],none⟩]
noncomputable def qoY:=qe [] [(98,Tryz.f98)] [] 0
noncomputable def qfn:=qp qoY 98 Tryz.f98 true qkc qjL
theorem qrD:qS Tryz.prog qa 98 (q9 qkc qjL qfn):=sk qoY qc q8 aln aln (b1 Tryz.func98) Tryz.func98
def qgs:FIn:=⟨[(.agg [(.int .i64),(.int .i64),(.int .i64)])],[]⟩
def qgx:List FOut:=[⟨(.int .i64),[],none⟩]
noncomputable def qnJ:=qe [(101,q9 qhT qhY uo),(102,q9 qcm qc3 jF)] [(97,Tryz.f97)] [] 0
noncomputable def q7N:=qp qnJ 97 Tryz.f97 true qgs qgx
theorem qpU:qS Tryz.prog qa 97 (q9 qgs qgx q7N):=sk qnJ qc q8 (alc qlB (alc qgk aln)) aln (b1 Tryz.func97) Tryz.func97
def qho:FIn:=⟨[(.agg [(.int .i64),(.int .i64),(.int .i64),(.int .i64),(.int .i64),(.int .i64),.bool]),(.agg [(.int .i64),(.int .i64),(.int .i64)])],[]⟩
def qgY:List FOut:=[⟨(.int .i64),[],none⟩]
noncomputable def qnO:=qe [(72,q9 q3h q3v jm),(97,q9 qgs qgx q7N)] [(104,Tryz.f104)] [] 0
noncomputable def q85:=qp qnO 104 Tryz.f104 true qho qgY
theorem qqS:qS Tryz.prog qa 104 (q9 qho qgY q85):=sk qnO qc q8 (alc q4s (alc qpU aln)) aln (b1 Tryz.func104) Tryz.func104
def q4K:FIn:=⟨[(.agg [(.int .i64),(.int .i64),(.int .i64),(.int .i64),(.int .i64),(.int .i64),.bool]),(.agg [(.int .i64),(.int .i64),(.int .i64)])],[]⟩
def q4D:List FOut:=[⟨(.tuple [(.int .i64),(.int .i64)]),[],none⟩]
noncomputable def qfs:=qe [(98,q9 qkc qjL qfn),(104,q9 qho qgY q85)] [(77,Tryz.f77)] [] 0
noncomputable def j4:=qp qfs 77 Tryz.f77 true q4K q4D
theorem qaZ:qS Tryz.prog qa 77 (q9 q4K q4D j4):=sk qfs qc q8 (alc qrD (alc qqS aln)) aln (b1 Tryz.func77) Tryz.func77
def q3j:FIn:=⟨[(.agg [(.int .i64),(.int .i64),(.int .i64),(.int .i64),(.int .i64),(.int .i64),.bool]),(.agg [(.int .i64),(.int .i64),(.int .i64)])],[]⟩
def q3n:List FOut:=[⟨.bool,[],none⟩]
noncomputable def qdx:=qe [] [(78,Tryz.f78)] [] 0
noncomputable def jf:=qp qdx 78 Tryz.f78 true q3j q3n
theorem q8W:qS Tryz.prog qa 78 (q9 q3j q3n jf):=sk qdx qc q8 aln aln (b1 Tryz.func78) Tryz.func78
def q0P:FIn:=⟨[(.agg [(.imm [(.int .i64),(.int .i64),(.int .i64),(.int .i64),(.int .i64),(.int .i64),.bool]),(.imm [(.int .i64),(.int .i64),(.int .i64),(.int .i64),(.int .i64),(.int .i64),.bool])]),(.agg [(.imm [(.int .i64),(.int .i64),(.int .i64)]),(.imm [(.int .i64),(.int .i64),(.int .i64)])])],[]⟩
def q0s:List FOut:=[⟨(.int .i64),[],none⟩]
def q3V:Tmpl:={ t:=(.any::.any::(.ptr 0 0)::(.ptr 1 0)::qA 30 ((.int .i64)::(.int .i64)::qA 63 [])),h:=[.cells [(.imm [(.int .i64),(.int .i64),(.int .i64),(.int .i64),(.int .i64),(.int .i64),.bool]),(.imm [(.int .i64),(.int .i64),(.int .i64),(.int .i64),(.int .i64),(.int .i64),.bool])],.cells [(.imm [(.int .i64),(.int .i64),(.int .i64)]),(.imm [(.int .i64),(.int .i64),(.int .i64)])]] }
def q3P:List Out:=[⟨(.exit 0),{ t:=(qA 99 []),h:=[] }⟩,⟨.ret,{ t:=(qA 4 ((.int .i64)::qA 94 [])),h:=[] }⟩]
noncomputable def q04:=qe [(16,q9 uO uP wX),(77,q9 q4K q4D j4),(78,q9 q3j q3n jf)] [(48,Tryz.f48)] [] 0
noncomputable def yB:=wD q04 48 Tryz.f48 10 q3V q3P
theorem qer:qm Tryz.prog qa q04.nimp (qx Tryz.prog q04.iter 48) (zb Tryz.f48 10) (qj q3V q3P (qg yB)):=
 gk q04 qc q8 (alc q1b (alc qaZ (alc q8W aln))) aln (b1 Tryz.func48) Tryz.func48
noncomputable def qdy:=qe [(16,q9 uO uP wX),(77,q9 q4K q4D j4),(78,q9 q3j q3n jf)] [(48,Tryz.f48)] [((48,10),qj q3V q3P (qg yB))] 0
noncomputable def wi:=qp qdy 48 Tryz.f48 true q0P q0s
theorem q3H:qS Tryz.prog qa 48 (q9 q0P q0s wi):=sk qdy qc q8 (alc q1b (alc qaZ (alc q8W aln))) (alc (lk Tryz.func48 qer) aln) (b1 Tryz.func48) Tryz.func48
def yo:FIn:=⟨[(.agg [(.imm [(.int .i64),(.int .i64),(.int .i64),(.int .i64),(.int .i64),(.int .i64),.bool]),(.imm [(.int .i64),(.int .i64),(.int .i64),(.int .i64),(.int .i64),(.int .i64),.bool])]),(.agg [(.imm [(.int .i64),(.int .i64),(.int .i64)]),(.imm [(.int .i64),(.int .i64),(.int .i64)])])],[]⟩
def ym:List FOut:=[⟨(.imm [(.int .i64)]),[],none⟩]
def q5W:Tmpl:={ t:=(.any::.any::.any::(.ptr 1 0)::.any::(.vec 2)::qA 4 ((.imm [(.int .i64),(.int .i64),(.int .i64),(.int .i64),(.int .i64),(.int .i64),.bool])::(.int .i64)::(.int .i64)::qA 27 [])),h:=[.dead,.cells [(.imm [(.int .i64),(.int .i64),(.int .i64)]),(.imm [(.int .i64),(.int .i64),(.int .i64)])],.vec 3 [(.int .i64)]],pro:=[(5,3,[(.int .i64)])] }
def q6f:List Out:=[⟨(.exit 0),{ t:=(qA 5 ((.vec 2)::qA 34 [])),h:=[.dead,.dead,.vec 3 [(.int .i64)]] }⟩]
noncomputable def q2k:=qe [] [(49,Tryz.f49)] [] 0
noncomputable def yb:=wD q2k 49 Tryz.f49 4 q5W q6f
theorem qgn:qm Tryz.prog qa q2k.nimp (qx Tryz.prog q2k.iter 49) (zb Tryz.f49 4) (qj q5W q6f (qg yb)):=
 gk q2k qc q8 aln aln (b1 Tryz.func49) Tryz.func49
noncomputable def qfZ:=qe [] [(49,Tryz.f49)] [((49,4),qj q5W q6f (qg yb))] 0
noncomputable def zq:=qp qfZ 49 Tryz.f49 true yo ym
theorem uC:qS Tryz.prog qa 49 (q9 yo ym zq):=sk qfZ qc q8 aln (alc (lk Tryz.func49 qgn) aln) (b1 Tryz.func49) Tryz.func49
def yF:FIn:=⟨[(.int .i64),(.int .i64),(.ptr 0 0)],[.cells [(.imm [(.int .i64),(.int .i64),(.int .i64)]),(.imm [(.int .i64),(.int .i64),(.int .i64)])]]⟩
def yC:List FOut:=[⟨.bool,[.cells [(.imm [(.int .i64),(.int .i64),(.int .i64)]),(.imm [(.int .i64),(.int .i64),(.int .i64)])]],none⟩]
noncomputable def q92:=qe [] [(50,Tryz.f50)] [] 1
noncomputable def wx:=qp q92 50 Tryz.f50 true yF yC
theorem q1c:qS Tryz.prog qa 50 (q9 yF yC wx):=sk q92 qc q8 aln aln (b1 Tryz.func50) Tryz.func50
def zH:FIn:=⟨[(.imm [(.int .i64)]),(.fn 50 [] [(.ptr 0 0)])],[.cells [(.imm [(.int .i64),(.int .i64),(.int .i64)]),(.imm [(.int .i64),(.int .i64),(.int .i64)])]]⟩
def zJ:List FOut:=[⟨(.imm [(.int .i64)]),[.cells [(.imm [(.int .i64),(.int .i64),(.int .i64)]),(.imm [(.int .i64),(.int .i64),(.int .i64)])]],none⟩]
def zx:Tmpl:={ t:=(.any::(.fn 50 [] [(.ptr 0 0)])::.any::.any::.any::(.vec 1)::.any::.any::(.imm [(.int .i64)])::(.int .i64)::(.int .i64)::qA 14 []),h:=[.cells [(.imm [(.int .i64),(.int .i64),(.int .i64)]),(.imm [(.int .i64),(.int .i64),(.int .i64)])],.vec 3 [(.int .i64)]],pro:=[(5,3,[(.int .i64)])] }
def zy:List Out:=[⟨(.exit 0),{ t:=(qA 5 ((.vec 1)::qA 19 [])),h:=[.cells [(.imm [(.int .i64),(.int .i64),(.int .i64)]),(.imm [(.int .i64),(.int .i64),(.int .i64)])],.vec 3 [(.int .i64)]] }⟩]
noncomputable def qQ:=qe [(50,q9 yF yC wx)] [(42,Tryz.f42)] [] 1
noncomputable def qw:=wD qQ 42 Tryz.f42 4 zx zy
theorem kE:qm Tryz.prog qa qQ.nimp (qx Tryz.prog qQ.iter 42) (zb Tryz.f42 4) (qj zx zy (qg qw)):=
 gk qQ qc q8 (alc q1c aln) aln (b1 Tryz.func42) Tryz.func42
noncomputable def j1:=qe [(50,q9 yF yC wx)] [(42,Tryz.f42)] [((42,4),qj zx zy (qg qw))] 1
noncomputable def qH:=qp j1 42 Tryz.f42 true zH zJ
theorem q0p:qS Tryz.prog qa 42 (q9 zH zJ qH):=sk j1 qc q8 (alc q1c aln) (alc (lk Tryz.func42 kE) aln) (b1 Tryz.func42) Tryz.func42
def q62:FIn:=⟨[(.agg [(.imm [(.int .i64),(.int .i64),(.int .i64),(.int .i64),(.int .i64),(.int .i64),.bool]),(.imm [(.int .i64),(.int .i64),(.int .i64),(.int .i64),(.int .i64),(.int .i64),.bool])]),(.agg [(.imm [(.int .i64),(.int .i64),(.int .i64)]),(.imm [(.int .i64),(.int .i64),(.int .i64)])])],[]⟩
def q67:List FOut:=[⟨(.tuple [(.imm [(.int .i64)]),(.int .i64)]),[],none⟩]
noncomputable def qbQ:=qe [(48,q9 q0P q0s wi),(49,q9 yo ym zq),(50,q9 yF yC wx),(42,q9 zH zJ qH)] [(20,Tryz.f20)] [] 0
noncomputable def ye:=qp qbQ 20 Tryz.f20 true q62 q67
theorem qgu:qS Tryz.prog qa 20 (q9 q62 q67 ye):=sk qbQ qc q8 (alc q3H (alc uC (alc q1c (alc q0p aln)))) aln (b1 Tryz.func20) Tryz.func20
def zX:FIn:=⟨[.str,.str],[]⟩
def zY:List FOut:=[⟨.bool,[],none⟩]
noncomputable def q01:=qe [] [(197,Tryz.f197)] [] 0
noncomputable def qI:=qp q01 197 Tryz.f197 true zX zY
theorem uA:qS Tryz.prog qa 197 (q9 zX zY qI):=sk q01 qc q8 aln aln (b1 Tryz.func197) Tryz.func197
def vR:FIn:=⟨[.str,.str],[]⟩
def vG:List FOut:=[⟨.str,[],none⟩]
noncomputable def kl:=qe [(197,q9 zX zY qI)] [(189,Tryz.f189)] [] 0
noncomputable def zi:=qp kl 189 Tryz.f189 true vR vG
theorem q4g:qS Tryz.prog qa 189 (q9 vR vG zi):=sk kl qc q8 (alc uA aln) aln (b1 Tryz.func189) Tryz.func189
def vV:FIn:=⟨[.str,.str],[]⟩
def vT:List FOut:=[⟨.str,[],none⟩]
noncomputable def q8V:=qe [(189,q9 vR vG zi)] [(157,Tryz.f157)] [] 0
noncomputable def qR:=qp q8V 157 Tryz.f157 true vV vT
theorem yO:qS Tryz.prog qa 157 (q9 vV vT qR):=sk q8V qc q8 (alc q4g aln) aln (b1 Tryz.func157) Tryz.func157
def qiz:FIn:=⟨[.str,.str],[]⟩
def qj0:List FOut:=[⟨.str,[],none⟩]
noncomputable def q7x:List PV→TR:=qCn
theorem qmt:qS Tryz.prog qa 158 (q9 qiz qj0 q7x):=qAd Tryz.lays160 (q2O Tryz.func158 (by kernel_rfl) (by kernel_rfl)) (by kernel_rfl)
def jp:FIn:=⟨[.str],[]⟩
def jw:List FOut:=[⟨(.int .i64),[],none⟩]
noncomputable def qm8:=qe [(157,q9 vV vT qR),(158,q9 qiz qj0 q7x)] [(130,Tryz.f130)] [] 0
noncomputable def qO:=qp qm8 130 Tryz.f130 true jp jw
theorem j5:qS Tryz.prog qa 130 (q9 jp jw qO):=sk qm8 qc q8 (alc yO (alc qmt aln)) aln (b1 Tryz.func130) Tryz.func130
def q2h:FIn:=⟨[.str,.str],[]⟩
def q2m:List FOut:=[⟨(.int .i64),[],none⟩]
noncomputable def vB:List PV→TR:=quK
theorem q7j:qS Tryz.prog qa 228 (q9 q2h q2m vB):=qxp Tryz.lays219 (q2O Tryz.func228 (by kernel_rfl) (by kernel_rfl))
def uN:FIn:=⟨[.str,.str],[]⟩
def uM:List FOut:=[⟨(.tuple [.str,.str,.bool]),[],none⟩]
noncomputable def q3G:=qe [(228,q9 q2h q2m vB)] [(201,Tryz.f201)] [] 0
noncomputable def ww:=qp q3G 201 Tryz.f201 true uN uM
theorem q8w:qS Tryz.prog qa 201 (q9 uN uM ww):=sk q3G qc q8 (alc q7j aln) aln (b1 Tryz.func201) Tryz.func201
def qff:FIn:=⟨[.str,.str],[]⟩
def qf4:List FOut:=[⟨(.tuple [.str,.str,.bool]),[],none⟩]
noncomputable def ql9:=qe [(201,q9 uN uM ww)] [(164,Tryz.f164)] [] 0
noncomputable def q6q:=qp ql9 164 Tryz.f164 true qff qf4
theorem qop:qS Tryz.prog qa 164 (q9 qff qf4 q6q):=sk ql9 qc q8 (alc q8w aln) aln (b1 Tryz.func164) Tryz.func164
def q2r:FIn:=⟨[.str],[]⟩
def q2o:List FOut:=[⟨(.tuple [.str,.str,.bool]),[],none⟩]
noncomputable def qqx:=qe [(164,q9 qff qf4 q6q)] [(134,Tryz.f134)] [] 0
noncomputable def qP:=qp qqx 134 Tryz.f134 true q2r q2o
theorem q1Y:qS Tryz.prog qa 134 (q9 q2r q2o qP):=sk qqx qc q8 (alc qop aln) aln (b1 Tryz.func134) Tryz.func134
def kQ:FIn:=⟨[(.imm [.str])],[]⟩
def kM:List FOut:=[⟨(.int .i64),[],none⟩]
def qey:Tmpl:={ t:=(qA 6 ((.imm [.str])::(.int .i64)::(.int .i64)::qA 9 [])),h:=[] }
def qfm:List Out:=[⟨(.exit 0),{ t:=(qA 18 []),h:=[] }⟩,⟨.ret,{ t:=(.any::.any::(.int .i64)::qA 15 []),h:=[] }⟩]
noncomputable def q9p:=qe [(130,q9 jp jw qO)] [(165,Tryz.f165)] [] 0
noncomputable def q6v:=wD q9p 165 Tryz.f165 3 qey qfm
theorem qol:qm Tryz.prog qa q9p.nimp (qx Tryz.prog q9p.iter 165) (zb Tryz.f165 3) (qj qey qfm (qg q6v)):=
 gk q9p qc q8 (alc j5 aln) aln (b1 Tryz.func165) Tryz.func165
noncomputable def qpW:=qe [(130,q9 jp jw qO)] [(165,Tryz.f165)] [((165,3),qj qey qfm (qg q6v))] 0
noncomputable def zS:=qp qpW 165 Tryz.f165 true kQ kM
theorem u7:qS Tryz.prog qa 165 (q9 kQ kM zS):=sk qpW qc q8 (alc j5 aln) (alc (lk Tryz.func165 qol) aln) (b1 Tryz.func165) Tryz.func165
def q80:FIn:=⟨[.str],[]⟩
def q8f:List FOut:=[⟨(.int .i64),[],none⟩]
noncomputable def qnI:=qe [] [(176,Tryz.f176)] [] 0
noncomputable def ub:=qp qnI 176 Tryz.f176 true q80 q8f
theorem qaR:qS Tryz.prog qa 176 (q9 q80 q8f ub):=sk qnI qc q8 aln aln (b1 Tryz.func176) Tryz.func176
def qdp:FIn:=⟨[.str,.str],[]⟩
def qdD:List FOut:=[⟨(.int .i64),[],none⟩]
noncomputable def q39:List PV→TR:=qoI
theorem qik:qS Tryz.prog qa 207 (q9 qdp qdD q39):=quD Tryz.lays106 (q2O Tryz.func207 (by kernel_rfl) (by kernel_rfl))
def qfg:FIn:=⟨[.str,.str],[]⟩
def qeZ:List FOut:=[⟨(.int .i64),[],none⟩]
noncomputable def qm3:=qe [(207,q9 qdp qdD q39)] [(177,Tryz.f177)] [] 0
noncomputable def q5v:=qp qm3 177 Tryz.f177 true qfg qeZ
theorem qok:qS Tryz.prog qa 177 (q9 qfg qeZ q5v):=sk qm3 qc q8 (alc qik aln) aln (b1 Tryz.func177) Tryz.func177
def qbp:FIn:=⟨[.str,.str],[]⟩
def qbl:List FOut:=[⟨(.tuple [(.int .i64),(.int .i64)]),[],none⟩]
noncomputable def qgV:=qe [(157,q9 vV vT qR),(165,q9 kQ kM zS),(176,q9 q80 q8f ub),(177,q9 qfg qeZ q5v)] [(145,Tryz.f145)] [] 0
noncomputable def q2H:=qp qgV 145 Tryz.f145 true qbp qbl
theorem qli:qS Tryz.prog qa 145 (q9 qbp qbl q2H):=sk qgV qc q8 (alc yO (alc u7 (alc qaR (alc qok aln)))) aln (b1 Tryz.func145) Tryz.func145
def qj6:FIn:=⟨[(.int .i64)],[]⟩
def qiO:List FOut:=[⟨.str,[],none⟩]
noncomputable def q4c:List PV→TR:=qCy
theorem qmO:qS Tryz.prog qa 132 (q9 qj6 qiO q4c):=qzs Tryz.laysM171 (q2O Tryz.func132 (by kernel_rfl) (by kernel_rfl)) (by kernel_rfl) (by unfold qa;exact List.mem_cons_self)
def q3z:FIn:=⟨[(.int .i64)],[]⟩
def q34:List FOut:=[⟨.str,[],none⟩]
noncomputable def qsC:=qe [(132,q9 qj6 qiO q4c)] [(108,Tryz.f108)] [] 0
noncomputable def zt:=qp qsC 108 Tryz.f108 true q3z q34
theorem q1o:qS Tryz.prog qa 108 (q9 q3z q34 zt):=sk qsC qc q8 (alc qmO aln) aln (b1 Tryz.func108) Tryz.func108
def q7A:FIn:=⟨[.str],[]⟩
def q7E:List FOut:=[⟨(.tuple [(.int .i64),.any]),[],none⟩]
noncomputable def vD:List PV→TR:=qBj
theorem q7f:qS Tryz.prog qa 202 (q9 q7A q7E vD):=qAs Tryz.lays172 (q2O Tryz.func202 (by kernel_rfl) (by kernel_rfl))
def zp:FIn:=⟨[(.ptr 0 0)],[.big [.bool,(.int .i64)] .i64 232]⟩
def zo:List FOut:=[⟨(.ptr 0 0),[.big [.bool,(.int .i64)] .i64 232],none⟩]
def q25:Tmpl:={ t:=((.ptr 0 0)::qA 28 []),h:=[.big [.bool,(.int .i64)] .i64 232] }
def q21:List Out:=[⟨(.exit 0),{ t:=((.ptr 0 0)::qA 28 []),h:=[.big [.bool,(.int .i64)] .i64 232] }⟩]
noncomputable def uD:=qe [] [(203,Tryz.f203)] [] 1
noncomputable def jb:=wD uD 203 Tryz.f203 2 q25 q21
theorem qcL:qm Tryz.prog qa uD.nimp (qx Tryz.prog uD.iter 203) (zb Tryz.f203 2) (qj q25 q21 (qg jb)):=
 gk uD qc q8 aln aln (b1 Tryz.func203) Tryz.func203
noncomputable def q94:=qe [] [(203,Tryz.f203)] [((203,2),qj q25 q21 (qg jb))] 1
noncomputable def qC:=qp q94 203 Tryz.f203 false zp zo
theorem zC:qS Tryz.prog qa 203 (q9 zp zo qC):=qqg (E:=q94) qc ⟨qch q8,aln,(alc (lk Tryz.func203 qcL) aln),(b1 Tryz.func203)⟩ Tryz.func203 (by kernel_rfl) (by kernel_rfl) (fun _=>rfl)
def ki:FIn:=⟨[.str],[]⟩
def uZ:List FOut:=[⟨(.ptr 0 0),[.big [.bool,(.int .i64)] .i64 232],none⟩]
def qcJ:Tmpl:={ t:=(.any::.any::.any::.str::(.ptr 0 0)::qA 43 []),h:=[.big [.bool,(.int .i64)] .i64 232] }
def qda:List Out:=[⟨(.exit 0),{ t:=(qA 4 ((.ptr 0 0)::qA 43 [])),h:=[.big [.bool,(.int .i64)] .i64 232] }⟩]
noncomputable def q7B:=qe [(157,q9 vV vT qR),(202,q9 q7A q7E vD),(203,q9 zp zo qC)] [(168,Tryz.f168)] [] 0
noncomputable def q4l:=wD q7B 168 Tryz.f168 5 qcJ qda
theorem qnb:qm Tryz.prog qa q7B.nimp (qx Tryz.prog q7B.iter 168) (zb Tryz.f168 5) (qj qcJ qda (qg q4l)):=
 gk q7B qc q8 (alc yO (alc q7f (alc zC aln))) aln (b1 Tryz.func168) Tryz.func168
noncomputable def qno:=qe [(157,q9 vV vT qR),(202,q9 q7A q7E vD),(203,q9 zp zo qC)] [(168,Tryz.f168)] [((168,5),qj qcJ qda (qg q4l))] 0
noncomputable def zz:=qp qno 168 Tryz.f168 false ki uZ
theorem uB:qS Tryz.prog qa 168 (q9 ki uZ zz):=qqg (E:=qno) qc ⟨qch q8,(alc yO (alc q7f (alc zC aln))),(alc (lk Tryz.func168 qnb) aln),(b1 Tryz.func168)⟩ Tryz.func168 (by kernel_rfl) (by kernel_rfl) (fun _=>rfl)
def wz:FIn:=⟨[(.ptr 0 0),(.ptr 1 0),(.int .i64),(.int .i64)],[.big [.bool,(.int .i64)] .i64 232,.big [.bool,(.int .i64)] .i64 232]⟩
def wC:List FOut:=[⟨(.tuple []),[.big [.bool,(.int .i64)] .i64 232,.big [.bool,(.int .i64)] .i64 232],none⟩]
def q3U:Tmpl:={ t:=((.ptr 0 0)::(.ptr 1 0)::(.int .i64)::(.int .i64)::qA 4 ((.int .i64)::(.int .i64)::qA 73 [])),h:=[.big [.bool,(.int .i64)] .i64 232,.big [.bool,(.int .i64)] .i64 232] }
def q3L:List Out:=[⟨(.exit 0),{ t:=((.ptr 0 0)::qA 82 []),h:=[.big [.bool,(.int .i64)] .i64 232,.big [.bool,(.int .i64)] .i64 232] }⟩]
noncomputable def q03:=qe [(203,q9 zp zo qC)] [(204,Tryz.f204)] [] 2
noncomputable def vU:=wD q03 204 Tryz.f204 3 q3U q3L
theorem qeS:qm Tryz.prog qa q03.nimp (qx Tryz.prog q03.iter 204) (zb Tryz.f204 3) (qj q3U q3L (qg vU)):=
 gk q03 qc q8 (alc zC aln) aln (b1 Tryz.func204) Tryz.func204
noncomputable def qbL:=qe [(203,q9 zp zo qC)] [(204,Tryz.f204)] [((204,3),qj q3U q3L (qg vU))] 2
noncomputable def qL:=qp qbL 204 Tryz.f204 true wz wC
theorem vh:qS Tryz.prog qa 204 (q9 wz wC qL):=sk qbL qc q8 (alc zC aln) (alc (lk Tryz.func204 qeS) aln) (b1 Tryz.func204) Tryz.func204
def jh:FIn:=⟨[(.ptr 0 0),(.ptr 1 0)],[.big [.bool,(.int .i64)] .i64 232,.big [.bool,(.int .i64)] .i64 232]⟩
def ji:List FOut:=[⟨(.int .i64),[.big [.bool,(.int .i64)] .i64 232,.big [.bool,(.int .i64)] .i64 232],none⟩]
def q2J:Tmpl:={ t:=((.ptr 0 0)::(.ptr 1 0)::.any::.any::.any::(.int .i64)::qA 53 []),h:=[.big [.bool,(.int .i64)] .i64 232,.big [.bool,(.int .i64)] .i64 232] }
def q2p:List Out:=[⟨(.exit 0),{ t:=(qA 59 []),h:=[.big [.bool,(.int .i64)] .i64 232,.big [.bool,(.int .i64)] .i64 232] }⟩,⟨.ret,{ t:=(qA 4 ((.int .i64)::qA 54 [])),h:=[.big [.bool,(.int .i64)] .i64 232,.big [.bool,(.int .i64)] .i64 232] }⟩]
noncomputable def kf:=qe [] [(208,Tryz.f208)] [] 2
noncomputable def jN:=wD kf 208 Tryz.f208 6 q2J q2p
theorem qdq:qm Tryz.prog qa kf.nimp (qx Tryz.prog kf.iter 208) (zb Tryz.f208 6) (qj q2J q2p (qg jN)):=
 gk kf qc q8 aln aln (b1 Tryz.func208) Tryz.func208
noncomputable def qaU:=qe [] [(208,Tryz.f208)] [((208,6),qj q2J q2p (qg jN))] 2
noncomputable def zG:=qp qaU 208 Tryz.f208 true jh ji
theorem uE:qS Tryz.prog qa 208 (q9 jh ji zG):=sk qaU qc q8 aln (alc (lk Tryz.func208 qdq) aln) (b1 Tryz.func208) Tryz.func208
def q1w:FIn:=⟨[(.ptr 0 0),(.ptr 1 0)],[.big [.bool,(.int .i64)] .i64 232,.big [.bool,(.int .i64)] .i64 232]⟩
def q1L:List FOut:=[⟨(.int .i64),[.big [.bool,(.int .i64)] .i64 232,.big [.bool,(.int .i64)] .i64 232],none⟩]
noncomputable def qfK:=qe [] [(209,Tryz.f209),(233,Tryz.f233)] [] 2
noncomputable def yw:=qp qfK 209 Tryz.f209 true q1w q1L
theorem q52:qS Tryz.prog qa 209 (q9 q1w q1L yw):=sk qfK qc q8 aln aln (alc (bk Tryz.func209) (alc (bk Tryz.func233) aln)) Tryz.func209
def q0m:FIn:=⟨[(.ptr 0 0),(.ptr 1 0)],[.big [.bool,(.int .i64)] .i64 232,.big [.bool,(.int .i64)] .i64 232]⟩
def q09:List FOut:=[⟨(.tuple [(.ptr 2 0),(.ptr 3 0)]),[.big [.bool,(.int .i64)] .i64 232,.big [.bool,(.int .i64)] .i64 232,.big [.bool,(.int .i64)] .i64 232,.big [.bool,(.int .i64)] .i64 232],none⟩]
def q5z:Tmpl:={ t:=((.ptr 0 0)::(.ptr 1 0)::qA 4 ((.ptr 2 0)::(.ptr 3 0)::(.int .i64)::(.int .i64)::qA 80 [])),h:=[.big [.bool,(.int .i64)] .i64 232,.big [.bool,(.int .i64)] .i64 232,.big [.bool,(.int .i64)] .i64 232,.big [.bool,(.int .i64)] .i64 232] }
def q5A:List Out:=[⟨(.exit 2),{ t:=((.ptr 0 0)::(.ptr 1 0)::qA 4 ((.ptr 2 0)::(.ptr 3 0)::(.int .i64)::(.int .i64)::qA 80 [])),h:=[.big [.bool,(.int .i64)] .i64 232,.big [.bool,(.int .i64)] .i64 232,.big [.bool,(.int .i64)] .i64 232,.big [.bool,(.int .i64)] .i64 232] }⟩]
noncomputable def q2e:=qe [(203,q9 zp zo qC),(204,q9 wz wC qL),(208,q9 jh ji zG),(209,q9 q1w q1L yw)] [(178,Tryz.f178)] [] 2
noncomputable def yf:=wD q2e 178 Tryz.f178 14 q5z q5A
theorem qgR:qm Tryz.prog qa q2e.nimp (qx Tryz.prog q2e.iter 178) (zb Tryz.f178 14) (qj q5z q5A (qg yf)):=
 gk q2e qc q8 (alc zC (alc vh (alc uE (alc q52 aln)))) aln (b1 Tryz.func178) Tryz.func178
def q6P:Tmpl:={ t:=((.ptr 0 0)::(.ptr 1 0)::qA 4 ((.ptr 2 0)::(.ptr 3 0)::(.int .i64)::qA 81 [])),h:=[.big [.bool,(.int .i64)] .i64 232,.big [.bool,(.int .i64)] .i64 232,.big [.bool,(.int .i64)] .i64 232,.big [.bool,(.int .i64)] .i64 232] }
def q79:List Out:=[⟨(.exit 0),{ t:=(qA 6 ((.ptr 2 0)::(.ptr 3 0)::qA 82 [])),h:=[.big [.bool,(.int .i64)] .i64 232,.big [.bool,(.int .i64)] .i64 232,.big [.bool,(.int .i64)] .i64 232,.big [.bool,(.int .i64)] .i64 232] }⟩]
noncomputable def q3p:=qe [(203,q9 zp zo qC),(204,q9 wz wC qL),(208,q9 jh ji zG),(209,q9 q1w q1L yw)] [(178,Tryz.f178)] [((178,14),qj q5z q5A (qg yf))] 2
noncomputable def q0N:=wD q3p 178 Tryz.f178 4 q6P q79
theorem qie:qm Tryz.prog qa q3p.nimp (qx Tryz.prog q3p.iter 178) (zb Tryz.f178 4) (qj q6P q79 (qg q0N)):=
 gk q3p qc q8 (alc zC (alc vh (alc uE (alc q52 aln)))) (alc (lk Tryz.func178 qgR) aln) (b1 Tryz.func178) Tryz.func178
noncomputable def qhI:=qe [(203,q9 zp zo qC),(204,q9 wz wC qL),(208,q9 jh ji zG),(209,q9 q1w q1L yw)] [(178,Tryz.f178)] [((178,4),qj q6P q79 (qg q0N))] 2
noncomputable def wO:=qp qhI 178 Tryz.f178 false q0m q09
theorem q26:qS Tryz.prog qa 178 (q9 q0m q09 wO):=qqg (E:=qhI) qc ⟨qch q8,(alc zC (alc vh (alc uE (alc q52 aln)))),(alc (lk Tryz.func178 qie) aln),(b1 Tryz.func178)⟩ Tryz.func178 (by kernel_rfl) (by kernel_rfl) (fun _=>rfl)
def uq:FIn:=⟨[(.ptr 0 0)],[.big [.bool,(.int .i64)] .i64 232]⟩
def uh:List FOut:=[⟨.str,[.big [.bool,(.int .i64)] .i64 232],none⟩]
noncomputable def qM:List PV→TR:=qCv
theorem yK:qS Tryz.prog qa 179 (q9 uq uh qM):=qAi (by unfold qa;exact List.mem_cons_self)
def qaQ:FIn:=⟨[.str,.str],[]⟩
def qaN:List FOut:=[⟨(.tuple [.str,(.int .i64)]),[],none⟩]
def qcF:Tmpl:={ t:=(qA 9 ((.int .i64)::(.int .i64)::qA 61 [])),h:=[] }
def qcR:List Out:=[⟨(.exit 2),{ t:=(qA 9 ((.int .i64)::qA 62 [])),h:=[] }⟩]
noncomputable def q7k:=qe [(108,q9 q3z q34 zt),(165,q9 kQ kM zS),(168,q9 ki uZ zz),(178,q9 q0m q09 wO),(179,q9 uq uh qM)] [(146,Tryz.f146)] [] 0
noncomputable def q1S:=wD q7k 146 Tryz.f146 14 qcF qcR
theorem qn8:qm Tryz.prog qa q7k.nimp (qx Tryz.prog q7k.iter 146) (zb Tryz.f146 14) (qj qcF qcR (qg q1S)):=
 gk q7k qc q8 (alc q1o (alc u7 (alc uB (alc q26 (alc yK aln))))) aln (b1 Tryz.func146) Tryz.func146
def qeq:Tmpl:={ t:=(qA 7 ((.ptr 1 0)::(.ptr 2 0)::qA 63 [])),h:=[.dead,.big [.bool,(.int .i64)] .i64 232,.big [.bool,(.int .i64)] .i64 232],sw:=[(7,1),(8,2)],swn:=0 }
def qet:List Out:=[⟨(.exit 0),{ t:=(qA 7 ((.ptr 1 0)::qA 64 [])),h:=[.dead,.big [.bool,(.int .i64)] .i64 232] }⟩,⟨.ret,{ t:=(qA 4 (.str::(.int .i64)::qA 66 [])),h:=[] }⟩]
noncomputable def q9f:=qe [(108,q9 q3z q34 zt),(165,q9 kQ kM zS),(168,q9 ki uZ zz),(178,q9 q0m q09 wO),(179,q9 uq uh qM)] [(146,Tryz.f146)] [((146,14),qj qcF qcR (qg q1S))] 0
noncomputable def q5s:=wD q9f 146 Tryz.f146 7 qeq qet
theorem qof:qm Tryz.prog qa q9f.nimp (qx Tryz.prog q9f.iter 146) (zb Tryz.f146 7) (qj qeq qet (qg q5s)):=
 gk q9f qc q8 (alc q1o (alc u7 (alc uB (alc q26 (alc yK aln))))) (alc (lk Tryz.func146 qn8) aln) (b1 Tryz.func146) Tryz.func146
noncomputable def qoN:=qe [(108,q9 q3z q34 zt),(165,q9 kQ kM zS),(168,q9 ki uZ zz),(178,q9 q0m q09 wO),(179,q9 uq uh qM)] [(146,Tryz.f146)] [((146,7),qj qeq qet (qg q5s))] 0
noncomputable def q2A:=qp qoN 146 Tryz.f146 true qaQ qaN
theorem qd7:qS Tryz.prog qa 146 (q9 qaQ qaN q2A):=sk qoN qc q8 (alc q1o (alc u7 (alc uB (alc q26 (alc yK aln))))) (alc (lk Tryz.func146 qof) aln) (b1 Tryz.func146) Tryz.func146
def q3g:FIn:=⟨[.str],[]⟩
def q2W:List FOut:=[⟨(.int .i64),[],none⟩]
noncomputable def ql0:=qe [(130,q9 jp jw qO),(134,q9 q2r q2o qP),(145,q9 qbp qbl q2H),(146,q9 qaQ qaN q2A)] [(114,Tryz.f114)] [] 0
noncomputable def vH:=qp ql0 114 Tryz.f114 true q3g q2W
theorem q4C:qS Tryz.prog qa 114 (q9 q3g q2W vH):=sk ql0 qc q8 (alc j5 (alc q1Y (alc qli (alc qd7 aln)))) aln (b1 Tryz.func114) Tryz.func114
def q9Q:FIn:=⟨[(.agg [.str,.str,.str])],[]⟩
def q9H:List FOut:=[⟨(.int .i64),[],none⟩]
def qb0:Tmpl:={ t:=(.any::(.ptr 0 0)::qA 12 ((.vec 1)::(.int .i64)::(.int .i64)::qA 13 [])),h:=[.cells [.str,.str,.str],.vec 112 [.str]] }
def qbm:List Out:=[⟨(.exit 0),{ t:=(.any::(.ptr 0 0)::qA 28 []),h:=[.cells [.str,.str,.str]] }⟩,⟨.ret,{ t:=(.any::.any::(.int .i64)::qA 27 []),h:=[] }⟩]
noncomputable def q5H:=qe [(114,q9 q3g q2W vH)] [(88,Tryz.f88)] [] 0
noncomputable def q2P:=wD q5H 88 Tryz.f88 3 qb0 qbm
theorem qko:qm Tryz.prog qa q5H.nimp (qx Tryz.prog q5H.iter 88) (zb Tryz.f88 3) (qj qb0 qbm (qg q2P)):=
 gk q5H qc q8 (alc q4C aln) aln (b1 Tryz.func88) Tryz.func88
noncomputable def qm1:=qe [(114,q9 q3g q2W vH)] [(88,Tryz.f88)] [((88,3),qj qb0 qbm (qg q2P))] 0
noncomputable def q2T:=qp qm1 88 Tryz.f88 true q9Q q9H
theorem qfF:qS Tryz.prog qa 88 (q9 q9Q q9H q2T):=sk qm1 qc q8 (alc q4C aln) (alc (lk Tryz.func88 qko) aln) (b1 Tryz.func88) Tryz.func88
def jL:FIn:=⟨[(.imm [.str,.str,.str])],[]⟩
def jJ:List FOut:=[⟨(.int .i64),[],none⟩]
def qcz:Tmpl:={ t:=((.imm [.str,.str,.str])::qA 8 ((.imm [.str,.str,.str])::(.int .i64)::(.int .i64)::qA 12 [])),h:=[] }
def qde:List Out:=[⟨(.exit 0),{ t:=((.imm [.str,.str,.str])::qA 23 []),h:=[] }⟩,⟨.ret,{ t:=(.any::.any::(.int .i64)::qA 21 []),h:=[] }⟩]
noncomputable def q7s:=qe [(88,q9 q9Q q9H q2T)] [(60,Tryz.f60)] [] 0
noncomputable def q41:=wD q7s 60 Tryz.f60 6 qcz qde
theorem qmQ:qm Tryz.prog qa q7s.nimp (qx Tryz.prog q7s.iter 60) (zb Tryz.f60 6) (qj qcz qde (qg q41)):=
 gk q7s qc q8 (alc qfF aln) aln (b1 Tryz.func60) Tryz.func60
noncomputable def qnx:=qe [(88,q9 q9Q q9H q2T)] [(60,Tryz.f60)] [((60,6),qj qcz qde (qg q41))] 0
noncomputable def wc:=qp qnx 60 Tryz.f60 true jL jJ
theorem vQ:qS Tryz.prog qa 60 (q9 jL jJ wc):=sk qnx qc q8 (alc qfF aln) (alc (lk Tryz.func60 qmQ) aln) (b1 Tryz.func60) Tryz.func60
def q5P:FIn:=⟨[.str,.str],[]⟩
def q6i:List FOut:=[⟨(.tuple [(.int .i64),(.int .i64),.bool]),[],none⟩]
noncomputable def qlr:=qe [(202,q9 q7A q7E vD)] [(166,Tryz.f166)] [] 0
noncomputable def yW:=qp qlr 166 Tryz.f166 true q5P q6i
theorem q8G:qS Tryz.prog qa 166 (q9 q5P q6i yW):=sk qlr qc q8 (alc q7f aln) aln (b1 Tryz.func166) Tryz.func166
def q7u:FIn:=⟨[(.int .i64)],[]⟩
def q7v:List FOut:=[⟨(.tuple [.str,(.int .i64)]),[],none⟩]
noncomputable def qj1:=qe [(108,q9 q3z q34 zt)] [(167,Tryz.f167)] [] 0
noncomputable def kN:=qp qj1 167 Tryz.f167 true q7u q7v
theorem qdT:qS Tryz.prog qa 167 (q9 q7u q7v kN):=sk qj1 qc q8 (alc q1o aln) aln (b1 Tryz.func167) Tryz.func167
def q5V:FIn:=⟨[(.ptr 0 0),(.ptr 1 0)],[.big [.bool,(.int .i64)] .i64 232,.big [.bool,(.int .i64)] .i64 232]⟩
def q6h:List FOut:=[⟨(.ptr 2 0),[.big [.bool,(.int .i64)] .i64 232,.big [.bool,(.int .i64)] .i64 232,.big [.bool,(.int .i64)] .i64 232],none⟩]
def q3S:Tmpl:={ t:=((.ptr 0 0)::(.ptr 1 0)::.any::.any::.any::(.ptr 2 0)::qA 15 ((.int .i64)::(.int .i64)::qA 14 [])),h:=[.big [.bool,(.int .i64)] .i64 232,.big [.bool,(.int .i64)] .i64 232,.big [.bool,(.int .i64)] .i64 232] }
def q3Q:List Out:=[⟨(.exit 0),{ t:=(qA 5 ((.ptr 2 0)::qA 31 [])),h:=[.big [.bool,(.int .i64)] .i64 232,.big [.bool,(.int .i64)] .i64 232,.big [.bool,(.int .i64)] .i64 232] }⟩]
noncomputable def q07:=qe [(204,q9 wz wC qL)] [(169,Tryz.f169)] [] 2
noncomputable def yL:=wD q07 169 Tryz.f169 4 q3S q3Q
theorem qfo:qm Tryz.prog qa q07.nimp (qx Tryz.prog q07.iter 169) (zb Tryz.f169 4) (qj q3S q3Q (qg yL)):=
 gk q07 qc q8 (alc vh aln) aln (b1 Tryz.func169) Tryz.func169
noncomputable def qbS:=qe [(204,q9 wz wC qL)] [(169,Tryz.f169)] [((169,4),qj q3S q3Q (qg yL))] 2
noncomputable def km:=qp qbS 169 Tryz.f169 false q5V q6h
theorem qhm:qS Tryz.prog qa 169 (q9 q5V q6h km):=qqg (E:=qbS) qc ⟨qch q8,(alc vh aln),(alc (lk Tryz.func169 qfo) aln),(b1 Tryz.func169)⟩ Tryz.func169 (by kernel_rfl) (by kernel_rfl) (fun _=>rfl)
def yD:FIn:=⟨[(.ptr 0 0)],[.big [.bool,(.int .i64)] .i64 232]⟩
def yN:List FOut:=[⟨(.tuple [.str,(.int .i64)]),[.big [.bool,(.int .i64)] .i64 232],none⟩]
noncomputable def q8X:=qe [(130,q9 jp jw qO),(179,q9 uq uh qM)] [(170,Tryz.f170)] [] 1
noncomputable def zP:=qp q8X 170 Tryz.f170 true yD yN
theorem q1j:qS Tryz.prog qa 170 (q9 yD yN zP):=sk q8X qc q8 (alc j5 (alc yK aln)) aln (b1 Tryz.func170) Tryz.func170
def qaf:FIn:=⟨[.str,.str],[]⟩
def qaY:List FOut:=[⟨(.tuple [.str,(.int .i64)]),[],none⟩]
noncomputable def qqI:=qe [(165,q9 kQ kM zS),(166,q9 q5P q6i yW),(167,q9 q7u q7v kN),(168,q9 ki uZ zz),(169,q9 q5V q6h km),(170,q9 yD yN zP)] [(136,Tryz.f136)] [] 0
noncomputable def q51:=qp qqI 136 Tryz.f136 true qaf qaY
theorem qcD:qS Tryz.prog qa 136 (q9 qaf qaY q51):=sk qqI qc q8 (alc u7 (alc q8G (alc qdT (alc uB (alc qhm (alc q1j aln)))))) aln (b1 Tryz.func136) Tryz.func136
def jy:FIn:=⟨[(.ptr 0 0),(.fn 136 [] []),.str,.str],[.cells [(.int .i64)]]⟩
def jD:List FOut:=[⟨.str,[.cells [(.int .i64)]],none⟩]
noncomputable def q40:=qe [(136,q9 qaf qaY q51)] [(135,Tryz.f135)] [] 1
noncomputable def zL:=qp q40 135 Tryz.f135 true jy jD
theorem q2i:qS Tryz.prog qa 135 (q9 jy jD zL):=sk q40 qc q8 (alc qcD aln) aln (b1 Tryz.func135) Tryz.func135
def vZ:FIn:=⟨[(.ptr 0 0),(.imm [.str])],[.cells [(.int .i64)]]⟩
def j7:List FOut:=[⟨.str,[.cells [(.int .i64)]],none⟩]
def q5t:Tmpl:={ t:=(qA 5 (.str::(.fn 135 [(.ptr 0 0)] [])::qA 4 ((.imm [.str])::(.int .i64)::(.int .i64)::qA 9 []))),h:=[.cells [(.int .i64)]] }
def q6x:List Out:=[⟨(.exit 0),{ t:=(qA 5 (.str::qA 17 [])),h:=[.cells [(.int .i64)]] }⟩]
noncomputable def q2b:=qe [(136,q9 qaf qaY q51),(135,q9 jy jD zL)] [(111,Tryz.f111)] [] 1
noncomputable def jU:=wD q2b 111 Tryz.f111 4 q5t q6x
theorem qhg:qm Tryz.prog qa q2b.nimp (qx Tryz.prog q2b.iter 111) (zb Tryz.f111 4) (qj q5t q6x (qg jU)):=
 gk q2b qc q8 (alc qcD (alc q2i aln)) aln (b1 Tryz.func111) Tryz.func111
noncomputable def qg6:=qe [(136,q9 qaf qaY q51),(135,q9 jy jD zL)] [(111,Tryz.f111)] [((111,4),qj q5t q6x (qg jU))] 1
noncomputable def qf:=qp qg6 111 Tryz.f111 true vZ j7
theorem jj:qS Tryz.prog qa 111 (q9 vZ j7 qf):=sk qg6 qc q8 (alc qcD (alc q2i aln)) (alc (lk Tryz.func111 qhg) aln) (b1 Tryz.func111) Tryz.func111
def q0L:FIn:=⟨[(.ptr 0 0),(.ptr 1 0)],[.big [.bool,(.int .i64)] .i64 232,.big [.bool,(.int .i64)] .i64 232]⟩
def q0R:List FOut:=[⟨(.tuple []),[.big [.bool,(.int .i64)] .i64 232,.big [.bool,(.int .i64)] .i64 232],none⟩]
noncomputable def qds:=qe [(204,q9 wz wC qL),(208,q9 jh ji zG)] [(223,Tryz.f223)] [] 2
noncomputable def wo:=qp qds 223 Tryz.f223 true q0L q0R
theorem q3T:qS Tryz.prog qa 223 (q9 q0L q0R wo):=sk qds qc q8 (alc vh (alc uE aln)) aln (b1 Tryz.func223) Tryz.func223
def qjc:FIn:=⟨[(.imm [.str])],[]⟩
def qjT:List FOut:=[⟨(.tuple [.str,(.int .i64)]),[],none⟩]
def qeK:Tmpl:={ t:=(qA 4 ((.ptr 0 0)::qA 4 ((.imm [.str])::(.int .i64)::(.int .i64)::qA 12 []))),h:=[.big [.bool,(.int .i64)] .i64 232] }
def qfc:List Out:=[⟨(.exit 0),{ t:=(qA 4 ((.ptr 0 0)::qA 19 [])),h:=[.big [.bool,(.int .i64)] .i64 232] }⟩]
noncomputable def q9V:=qe [(168,q9 ki uZ zz),(170,q9 yD yN zP),(223,q9 q0L q0R wo)] [(235,Tryz.f235)] [] 0
noncomputable def q5w:=wD q9V 235 Tryz.f235 4 qeK qfc
theorem qo6:qm Tryz.prog qa q9V.nimp (qx Tryz.prog q9V.iter 235) (zb Tryz.f235 4) (qj qeK qfc (qg q5w)):=
 gk q9V qc q8 (alc uB (alc q1j (alc q3T aln))) aln (b1 Tryz.func235) Tryz.func235
noncomputable def qq0:=qe [(168,q9 ki uZ zz),(170,q9 yD yN zP),(223,q9 q0L q0R wo)] [(235,Tryz.f235)] [((235,4),qj qeK qfc (qg q5w))] 0
noncomputable def qat:=qp qq0 235 Tryz.f235 true qjc qjT
theorem qrt:qS Tryz.prog qa 235 (q9 qjc qjT qat):=sk qq0 qc q8 (alc uB (alc q1j (alc q3T aln))) (alc (lk Tryz.func235 qo6) aln) (b1 Tryz.func235) Tryz.func235
def qap:FIn:=⟨[.str,.str],[]⟩
def qba:List FOut:=[⟨(.tuple [.str,(.int .i64)]),[],none⟩]
noncomputable def qpJ:=qe [(165,q9 kQ kM zS),(166,q9 q5P q6i yW),(167,q9 q7u q7v kN),(235,q9 qjc qjT qat)] [(213,Tryz.f213)] [] 0
noncomputable def q2q:=qp qpJ 213 Tryz.f213 true qap qba
theorem qcw:qS Tryz.prog qa 213 (q9 qap qba q2q):=sk qpJ qc q8 (alc u7 (alc q8G (alc qdT (alc qrt aln)))) aln (b1 Tryz.func213) Tryz.func213
def q8t:FIn:=⟨[.str],[]⟩
def q8S:List FOut:=[⟨.str,[],none⟩]
noncomputable def qfH:=qe [(176,q9 q80 q8f ub)] [(222,Tryz.f222)] [] 0
noncomputable def q1E:=qp qfH 222 Tryz.f222 true q8t q8S
theorem qjM:qS Tryz.prog qa 222 (q9 q8t q8S q1E):=sk qfH qc q8 (alc qaR aln) aln (b1 Tryz.func222) Tryz.func222
def qeO:FIn:=⟨[.str,.str],[]⟩
def qf3:List FOut:=[⟨(.tuple [.str,(.int .i64)]),[],none⟩]
noncomputable def qpT:=qe [(165,q9 kQ kM zS),(213,q9 qap qba q2q),(222,q9 q8t q8S q1E)] [(198,Tryz.f198)] [] 0
noncomputable def q72:=qp qpT 198 Tryz.f198 true qeO qf3
theorem qj9:qS Tryz.prog qa 198 (q9 qeO qf3 q72):=sk qpT qc q8 (alc u7 (alc qcw (alc qjM aln))) aln (b1 Tryz.func198) Tryz.func198
def kL:FIn:=⟨[(.ptr 0 0),(.fn 198 [] []),.str,.str],[.cells [(.int .i64)]]⟩
def kH:List FOut:=[⟨.str,[.cells [(.int .i64)]],none⟩]
noncomputable def q3Y:=qe [(198,q9 qeO qf3 q72)] [(135,Tryz.f135)] [] 1
noncomputable def wK:=qp q3Y 135 Tryz.f135 true kL kH
theorem q9P:qS Tryz.prog qa 135 (q9 kL kH wK):=sk q3Y qc q8 (alc qj9 aln) aln (b1 Tryz.func135) Tryz.func135
def uQ:FIn:=⟨[(.ptr 0 0),.str,.str],[.cells [(.int .i64)]]⟩
def uS:List FOut:=[⟨.str,[.cells [(.int .i64)]],none⟩]
noncomputable def qfS:=qe [(198,q9 qeO qf3 q72),(135,q9 kL kH wK)] [(160,Tryz.f160)] [] 1
noncomputable def zr:=qp qfS 160 Tryz.f160 true uQ uS
theorem q1m:qS Tryz.prog qa 160 (q9 uQ uS zr):=sk qfS qc q8 (alc qj9 (alc q9P aln)) aln (b1 Tryz.func160) Tryz.func160
def q9q:FIn:=⟨[(.ptr 0 0),.str,.str,.str,.str],[.cells [(.int .i64)]]⟩
def qa7:List FOut:=[⟨(.tuple [.str,.str]),[.cells [(.int .i64)]],none⟩]
noncomputable def qlu:=qe [(111,q9 vZ j7 qf),(160,q9 uQ uS zr)] [(180,Tryz.f180)] [] 1
noncomputable def q3q:=qp qlu 180 Tryz.f180 true q9q qa7
theorem qg3:qS Tryz.prog qa 180 (q9 q9q qa7 q3q):=sk qlu qc q8 (alc jj (alc q1m aln)) aln (b1 Tryz.func180) Tryz.func180
def q58:FIn:=⟨[.str,.str],[]⟩
def q50:List FOut:=[⟨.bool,[],none⟩]
noncomputable def qax:=qe [(197,q9 zX zY qI)] [(159,Tryz.f159)] [] 0
noncomputable def uz:=qp qax 159 Tryz.f159 true q58 q50
theorem qgf:qS Tryz.prog qa 159 (q9 q58 q50 uz):=sk qax qc q8 (alc uA aln) aln (b1 Tryz.func159) Tryz.func159
def qcN:FIn:=⟨[.str,.str],[]⟩
def qcS:List FOut:=[⟨.str,[],none⟩]
noncomputable def qj7:=qe [] [(161,Tryz.f161)] [] 0
noncomputable def q1R:=qp qj7 161 Tryz.f161 true qcN qcS
theorem qng:qS Tryz.prog qa 161 (q9 qcN qcS q1R):=sk qj7 qc q8 aln aln (b1 Tryz.func161) Tryz.func161
def qcU:FIn:=⟨[.str,.str],[]⟩
def qdf:List FOut:=[⟨(.tuple [.str,.str,(.int .i64)]),[],none⟩]
noncomputable def qj4:=qe [(108,q9 q3z q34 zt),(165,q9 kQ kM zS),(166,q9 q5P q6i yW),(168,q9 ki uZ zz),(178,q9 q0m q09 wO),(179,q9 uq uh qM),(223,q9 q0L q0R wo)] [(199,Tryz.f199)] [] 0
noncomputable def q4o:=qp qj4 199 Tryz.f199 true qcU qdf
theorem qmw:qS Tryz.prog qa 199 (q9 qcU qdf q4o):=sk qj4 qc q8 (alc q1o (alc u7 (alc q8G (alc uB (alc q26 (alc yK (alc q3T aln))))))) aln (b1 Tryz.func199) Tryz.func199
def qex:FIn:=⟨[.str,.str],[]⟩
def qes:List FOut:=[⟨(.tuple [.str,(.int .i64)]),[],none⟩]
noncomputable def qqM:=qe [(130,q9 jp jw qO),(199,q9 qcU qdf q4o)] [(162,Tryz.f162)] [] 0
noncomputable def q74:=qp qqM 162 Tryz.f162 true qex qes
theorem qiI:qS Tryz.prog qa 162 (q9 qex qes q74):=sk qqM qc q8 (alc j5 (alc qmw aln)) aln (b1 Tryz.func162) Tryz.func162
def jC:FIn:=⟨[(.ptr 0 0),(.fn 146 [] []),.str,.str],[.cells [(.int .i64)]]⟩
def kr:List FOut:=[⟨.str,[.cells [(.int .i64)]],none⟩]
noncomputable def q46:=qe [(146,q9 qaQ qaN q2A)] [(135,Tryz.f135)] [] 1
noncomputable def wJ:=qp q46 135 Tryz.f135 true jC kr
theorem q9c:qS Tryz.prog qa 135 (q9 jC kr wJ):=sk q46 qc q8 (alc qd7 aln) aln (b1 Tryz.func135) Tryz.func135
def js:FIn:=⟨[(.ptr 0 0),(.fn 162 [] []),.str,.str],[.cells [(.int .i64)]]⟩
def kz:List FOut:=[⟨.str,[.cells [(.int .i64)]],none⟩]
noncomputable def q4f:=qe [(162,q9 qex qes q74)] [(135,Tryz.f135)] [] 1
noncomputable def qV:=qp q4f 135 Tryz.f135 true js kz
theorem q9a:qS Tryz.prog qa 135 (q9 js kz qV):=sk q4f qc q8 (alc qiI aln) aln (b1 Tryz.func135) Tryz.func135
def wd:FIn:=⟨[(.ptr 0 0),.str,.str],[.cells [(.int .i64)]]⟩
def zZ:List FOut:=[⟨.str,[.cells [(.int .i64)]],none⟩]
noncomputable def qbd:=qe [(146,q9 qaQ qaN q2A),(159,q9 q58 q50 uz),(160,q9 uQ uS zr),(161,q9 qcN qcS q1R),(162,q9 qex qes q74),(135,qGV [(jC,q9 jC kr wJ),(js,q9 js kz qV)])] [(131,Tryz.f131)] [] 1
noncomputable def qE:=qp qbd 131 Tryz.f131 true wd zZ
theorem wF:qS Tryz.prog qa 131 (q9 wd zZ qE):=sk qbd qc q8 (alc qd7 (alc qgf (alc q1m (alc qng (alc qiI (alc (qDi (q2O Tryz.func135 (by kernel_rfl) (by kernel_rfl)) (qyV q9c (qyV q9a qEG))) aln)))))) aln (b1 Tryz.func131) Tryz.func131
def u6:FIn:=⟨[(.imm [.str])],[]⟩
def ua:List FOut:=[⟨(.int .i64),[],none⟩]
def q8N:Tmpl:={ t:=(qA 6 ((.imm [.str])::(.int .i64)::(.int .i64)::qA 9 [])),h:=[] }
def q8M:List Out:=[⟨(.exit 0),{ t:=(qA 18 []),h:=[] }⟩,⟨.ret,{ t:=(.any::.any::(.int .i64)::qA 15 []),h:=[] }⟩]
noncomputable def q4x:=qe [(114,q9 q3g q2W vH)] [(133,Tryz.f133)] [] 0
noncomputable def q1H:=wD q4x 133 Tryz.f133 3 q8N q8M
theorem qjY:qm Tryz.prog qa q4x.nimp (qx Tryz.prog q4x.iter 133) (zb Tryz.f133 3) (qj q8N q8M (qg q1H)):=
 gk q4x qc q8 (alc q4C aln) aln (b1 Tryz.func133) Tryz.func133
noncomputable def qiF:=qe [(114,q9 q3g q2W vH)] [(133,Tryz.f133)] [((133,3),qj q8N q8M (qg q1H))] 0
noncomputable def qW:=qp qiF 133 Tryz.f133 true u6 ua
theorem ui:qS Tryz.prog qa 133 (q9 u6 ua qW):=sk qiF qc q8 (alc q4C aln) (alc (lk Tryz.func133 qjY) aln) (b1 Tryz.func133) Tryz.func133
def q0D:FIn:=⟨[.str,.str,(.fn 180 [] [])],[]⟩
def q0c:List FOut:=[⟨(.tuple [.str,(.int .i64)]),[],none⟩]
noncomputable def q5o:=qe [(131,q9 wd zZ qE),(133,q9 u6 ua qW),(134,q9 q2r q2o qP),(180,q9 q9q qa7 q3q)] [(109,Tryz.f109)] [] 0
noncomputable def vb:=qp q5o 109 Tryz.f109 true q0D q0c
theorem qaV:qS Tryz.prog qa 109 (q9 q0D q0c vb):=sk q5o qc q8 (alc wF (alc ui (alc q1Y (alc qg3 aln)))) aln (b1 Tryz.func109) Tryz.func109
def qf2:FIn:=⟨[.str,.str],[]⟩
def qef:List FOut:=[⟨(.tuple [.str,(.int .i64)]),[],none⟩]
noncomputable def qpE:=qe [(180,q9 q9q qa7 q3q),(109,q9 q0D q0c vb)] [(148,Tryz.f148)] [] 0
noncomputable def q6N:=qp qpE 148 Tryz.f148 true qf2 qef
theorem qiZ:qS Tryz.prog qa 148 (q9 qf2 qef q6N):=sk qpE qc q8 (alc qg3 (alc qaV aln)) aln (b1 Tryz.func148) Tryz.func148
def kP:FIn:=⟨[(.ptr 0 0),(.fn 148 [] []),.str,.str],[.cells [(.int .i64)]]⟩
def kO:List FOut:=[⟨.str,[.cells [(.int .i64)]],none⟩]
noncomputable def q3X:=qe [(148,q9 qf2 qef q6N)] [(117,Tryz.f117)] [] 1
noncomputable def wM:=qp q3X 117 Tryz.f117 true kP kO
theorem qa4:qS Tryz.prog qa 117 (q9 kP kO wM):=sk q3X qc q8 (alc qiZ aln) aln (b1 Tryz.func117) Tryz.func117
def q1F:FIn:=⟨[(.ptr 0 0),.str,.str],[.cells [(.int .i64)]]⟩
def q1z:List FOut:=[⟨.str,[.cells [(.int .i64)]],none⟩]
noncomputable def qfq:=qe [(148,q9 qf2 qef q6N),(117,q9 kP kO wM)] [(119,Tryz.f119)] [] 1
noncomputable def zf:=qp qfq 119 Tryz.f119 true q1F q1z
theorem q56:qS Tryz.prog qa 119 (q9 q1F q1z zf):=sk qfq qc q8 (alc qiZ (alc qa4 aln)) aln (b1 Tryz.func119) Tryz.func119
def q3k:FIn:=⟨[(.ptr 0 0),(.agg [.str,.str]),(.agg [.str,.str])],[.cells [(.int .i64)]]⟩
def q3r:List FOut:=[⟨(.agg [.str,.str]),[.cells [(.int .i64)]],none⟩]
noncomputable def qdv:=qe [(119,q9 q1F q1z zf)] [(115,Tryz.f115)] [] 1
noncomputable def jk:=qp qdv 115 Tryz.f115 true q3k q3r
theorem q91:qS Tryz.prog qa 115 (q9 q3k q3r jk):=sk qdv qc q8 (alc q56 aln) aln (b1 Tryz.func115) Tryz.func115
def kS:FIn:=⟨[(.ptr 0 0),(.fn 213 [] []),.str,.str],[.cells [(.int .i64)]]⟩
def kw:List FOut:=[⟨.str,[.cells [(.int .i64)]],none⟩]
noncomputable def q4a:=qe [(213,q9 qap qba q2q)] [(135,Tryz.f135)] [] 1
noncomputable def wL:=qp q4a 135 Tryz.f135 true kS kw
theorem q9o:qS Tryz.prog qa 135 (q9 kS kw wL):=sk q4a qc q8 (alc qcw aln) aln (b1 Tryz.func135) Tryz.func135
def q4H:FIn:=⟨[(.ptr 0 0),.str,.str],[.cells [(.int .i64)]]⟩
def q4S:List FOut:=[⟨.str,[.cells [(.int .i64)]],none⟩]
noncomputable def qfG:=qe [(213,q9 qap qba q2q),(135,q9 kS kw wL)] [(182,Tryz.f182)] [] 1
noncomputable def yv:=qp qfG 182 Tryz.f182 true q4H q4S
theorem qaJ:qS Tryz.prog qa 182 (q9 q4H q4S yv):=sk qfG qc q8 (alc qcw (alc q9o aln)) aln (b1 Tryz.func182) Tryz.func182
def q9t:FIn:=⟨[(.ptr 0 0),.str,.str,.str,.str],[.cells [(.int .i64)]]⟩
def q9n:List FOut:=[⟨(.tuple [.str,.str]),[.cells [(.int .i64)]],none⟩]
noncomputable def ql3:=qe [(111,q9 vZ j7 qf),(182,q9 q4H q4S yv)] [(181,Tryz.f181)] [] 1
noncomputable def q3d:=qp ql3 181 Tryz.f181 true q9t q9n
theorem qfu:qS Tryz.prog qa 181 (q9 q9t q9n q3d):=sk ql3 qc q8 (alc jj (alc qaJ aln)) aln (b1 Tryz.func181) Tryz.func181
def q0w:FIn:=⟨[.str,.str,(.fn 181 [] [])],[]⟩
def q0x:List FOut:=[⟨(.tuple [.str,(.int .i64)]),[],none⟩]
noncomputable def q5h:=qe [(131,q9 wd zZ qE),(133,q9 u6 ua qW),(134,q9 q2r q2o qP),(181,q9 q9t q9n q3d)] [(109,Tryz.f109)] [] 0
noncomputable def vo:=qp q5h 109 Tryz.f109 true q0w q0x
theorem qaD:qS Tryz.prog qa 109 (q9 q0w q0x vo):=sk q5h qc q8 (alc wF (alc ui (alc q1Y (alc qfu aln)))) aln (b1 Tryz.func109) Tryz.func109
def qf5:FIn:=⟨[.str,.str],[]⟩
def qel:List FOut:=[⟨(.tuple [.str,(.int .i64)]),[],none⟩]
noncomputable def qpY:=qe [(181,q9 q9t q9n q3d),(109,q9 q0w q0x vo)] [(149,Tryz.f149)] [] 0
noncomputable def q6S:=qp qpY 149 Tryz.f149 true qf5 qel
theorem qiK:qS Tryz.prog qa 149 (q9 qf5 qel q6S):=sk qpY qc q8 (alc qfu (alc qaD aln)) aln (b1 Tryz.func149) Tryz.func149
def kR:FIn:=⟨[(.ptr 0 0),(.fn 149 [] []),.str,.str],[.cells [(.int .i64)]]⟩
def kU:List FOut:=[⟨.str,[.cells [(.int .i64)]],none⟩]
noncomputable def q4e:=qe [(149,q9 qf5 qel q6S)] [(117,Tryz.f117)] [] 1
noncomputable def wG:=qp q4e 117 Tryz.f117 true kR kU
theorem q9i:qS Tryz.prog qa 117 (q9 kR kU wG):=sk q4e qc q8 (alc qiK aln) aln (b1 Tryz.func117) Tryz.func117
def q1s:FIn:=⟨[(.ptr 0 0),.str,.str],[.cells [(.int .i64)]]⟩
def q1I:List FOut:=[⟨.str,[.cells [(.int .i64)]],none⟩]
noncomputable def qfM:=qe [(149,q9 qf5 qel q6S),(117,q9 kR kU wG)] [(120,Tryz.f120)] [] 1
noncomputable def zI:=qp qfM 120 Tryz.f120 true q1s q1I
theorem q53:qS Tryz.prog qa 120 (q9 q1s q1I zI):=sk qfM qc q8 (alc qiK (alc q9i aln)) aln (b1 Tryz.func120) Tryz.func120
def q9J:FIn:=⟨[(.ptr 0 0),.str,.str,.str,.str],[.cells [(.int .i64)]]⟩
def q9L:List FOut:=[⟨(.tuple [.str,.str]),[.cells [(.int .i64)]],none⟩]
noncomputable def qkv:=qe [(111,q9 vZ j7 qf)] [(110,Tryz.f110)] [] 1
noncomputable def q3u:=qp qkv 110 Tryz.f110 true q9J q9L
theorem qfI:qS Tryz.prog qa 110 (q9 q9J q9L q3u):=sk qkv qc q8 (alc jj aln) aln (b1 Tryz.func110) Tryz.func110
def q0k:FIn:=⟨[.str,.str,(.fn 110 [] [])],[]⟩
def q08:List FOut:=[⟨(.tuple [.str,(.int .i64)]),[],none⟩]
noncomputable def q5f:=qe [(110,q9 q9J q9L q3u),(131,q9 wd zZ qE),(133,q9 u6 ua qW),(134,q9 q2r q2o qP)] [(109,Tryz.f109)] [] 0
noncomputable def vn:=qp q5f 109 Tryz.f109 true q0k q08
theorem qaH:qS Tryz.prog qa 109 (q9 q0k q08 vn):=sk q5f qc q8 (alc qfI (alc wF (alc ui (alc q1Y aln)))) aln (b1 Tryz.func109) Tryz.func109
def q6W:FIn:=⟨[.str,.str],[]⟩
def q71:List FOut:=[⟨(.tuple [.str,(.int .i64)]),[],none⟩]
noncomputable def qps:=qe [(110,q9 q9J q9L q3u),(109,q9 q0k q08 vn)] [(84,Tryz.f84)] [] 0
noncomputable def q14:=qp qps 84 Tryz.f84 true q6W q71
theorem q7D:qS Tryz.prog qa 84 (q9 q6W q71 q14):=sk qps qc q8 (alc qfI (alc qaH aln)) aln (b1 Tryz.func84) Tryz.func84
def kZ:FIn:=⟨[(.ptr 0 0),(.fn 84 [] []),.str,.str],[.cells [(.int .i64)]]⟩
def kK:List FOut:=[⟨.str,[.cells [(.int .i64)]],none⟩]
noncomputable def q49:=qe [(84,q9 q6W q71 q14)] [(117,Tryz.f117)] [] 1
noncomputable def wN:=qp q49 117 Tryz.f117 true kZ kK
theorem q9F:qS Tryz.prog qa 117 (q9 kZ kK wN):=sk q49 qc q8 (alc q7D aln) aln (b1 Tryz.func117) Tryz.func117
def q1q:FIn:=⟨[(.ptr 0 0),.str,.str],[.cells [(.int .i64)]]⟩
def q1N:List FOut:=[⟨.str,[.cells [(.int .i64)]],none⟩]
noncomputable def qg9:=qe [(84,q9 q6W q71 q14),(117,q9 kZ kK wN)] [(121,Tryz.f121)] [] 1
noncomputable def qY:=qp qg9 121 Tryz.f121 true q1q q1N
theorem q54:qS Tryz.prog qa 121 (q9 q1q q1N qY):=sk qg9 qc q8 (alc q7D (alc q9F aln)) aln (b1 Tryz.func121) Tryz.func121
def q4M:FIn:=⟨[(.ptr 0 0),(.agg [.str,.str]),(.agg [.str,.str])],[.cells [(.int .i64)]]⟩
def q4y:List FOut:=[⟨.str,[.cells [(.int .i64)]],none⟩]
noncomputable def qg0:=qe [(120,q9 q1s q1I zI),(121,q9 q1q q1N qY)] [(116,Tryz.f116)] [] 1
noncomputable def wV:=qp qg0 116 Tryz.f116 true q4M q4y
theorem qak:qS Tryz.prog qa 116 (q9 q4M q4y wV):=sk qg0 qc q8 (alc q53 (alc q54 aln)) aln (b1 Tryz.func116) Tryz.func116
def q9S:FIn:=⟨[(.ptr 0 0),.str,.str,.str,.str],[.cells [(.int .i64)]]⟩
def q9Z:List FOut:=[⟨(.tuple [.str,.str]),[.cells [(.int .i64)]],none⟩]
noncomputable def ql6:=qe [(111,q9 vZ j7 qf)] [(147,Tryz.f147)] [] 1
noncomputable def q3o:=qp ql6 147 Tryz.f147 true q9S q9Z
theorem qfT:qS Tryz.prog qa 147 (q9 q9S q9Z q3o):=sk ql6 qc q8 (alc jj aln) aln (b1 Tryz.func147) Tryz.func147
def q0E:FIn:=⟨[.str,.str,(.fn 147 [] [])],[]⟩
def q0a:List FOut:=[⟨(.tuple [.str,(.int .i64)]),[],none⟩]
noncomputable def q5i:=qe [(131,q9 wd zZ qE),(133,q9 u6 ua qW),(134,q9 q2r q2o qP),(147,q9 q9S q9Z q3o)] [(109,Tryz.f109)] [] 0
noncomputable def vl:=qp q5i 109 Tryz.f109 true q0E q0a
theorem qbv:qS Tryz.prog qa 109 (q9 q0E q0a vl):=sk q5i qc q8 (alc wF (alc ui (alc q1Y (alc qfT aln)))) aln (b1 Tryz.func109) Tryz.func109
def qfk:FIn:=⟨[.str,.str],[]⟩
def qfa:List FOut:=[⟨(.tuple [.str,(.int .i64)]),[],none⟩]
noncomputable def qpc:=qe [(133,q9 u6 ua qW),(147,q9 q9S q9Z q3o),(109,q9 q0E q0a vl)] [(118,Tryz.f118)] [] 0
noncomputable def q7d:=qp qpc 118 Tryz.f118 true qfk qfa
theorem qiH:qS Tryz.prog qa 118 (q9 qfk qfa q7d):=sk qpc qc q8 (alc ui (alc qfT (alc qbv aln))) aln (b1 Tryz.func118) Tryz.func118
def kV:FIn:=⟨[(.ptr 0 0),(.fn 118 [] []),.str,.str],[.cells [(.int .i64)]]⟩
def kt:List FOut:=[⟨.str,[.cells [(.int .i64)]],none⟩]
noncomputable def q4p:=qe [(118,q9 qfk qfa q7d)] [(117,Tryz.f117)] [] 1
noncomputable def zO:=qp q4p 117 Tryz.f117 true kV kt
theorem q9k:qS Tryz.prog qa 117 (q9 kV kt zO):=sk q4p qc q8 (alc qiH aln) aln (b1 Tryz.func117) Tryz.func117
def q29:FIn:=⟨[(.ptr 0 0),(.imm [.str,.str,.str]),(.agg [(.int .i64),(.int .i64),(.int .i64)])],[.cells [(.int .i64)]]⟩
def q2j:List FOut:=[⟨(.tuple [(.agg [.str,.str,.str,.str,.str]),.bool]),[.cells [(.int .i64)]],none⟩]
noncomputable def qck:=qe [(115,q9 q3k q3r jk),(116,q9 q4M q4y wV),(118,q9 qfk qfa q7d),(119,q9 q1F q1z zf),(120,q9 q1s q1I zI),(121,q9 q1q q1N qY),(117,q9 kV kt zO)] [(89,Tryz.f89)] [] 1
noncomputable def vS:=qp qck 89 Tryz.f89 true q29 q2j
theorem q82:qS Tryz.prog qa 89 (q9 q29 q2j vS):=sk qck qc q8 (alc q91 (alc qak (alc qiH (alc q56 (alc q53 (alc q54 (alc q9k aln))))))) aln (b1 Tryz.func89) Tryz.func89
def qgC:FIn:=⟨[.str],[]⟩
def qgT:List FOut:=[⟨(.tuple [(.int .i64),(.int .i64)]),[],none⟩]
noncomputable def qns:=qe [(130,q9 jp jw qO),(176,q9 q80 q8f ub)] [(236,Tryz.f236)] [] 0
noncomputable def q7S:=qp qns 236 Tryz.f236 true qgC qgT
theorem qqX:qS Tryz.prog qa 236 (q9 qgC qgT q7S):=sk qns qc q8 (alc j5 (alc qaR aln)) aln (b1 Tryz.func236) Tryz.func236
def q30:FIn:=⟨[(.ptr 0 0),.str],[.cells [(.int .i64)]]⟩
def q3x:List FOut:=[⟨(.int .i64),[.cells [(.int .i64)]],none⟩]
noncomputable def qdS:=qe [(236,q9 qgC qgT q7S)] [(215,Tryz.f215)] [] 1
noncomputable def zu:=qp qdS 215 Tryz.f215 true q30 q3x
theorem q8Y:qS Tryz.prog qa 215 (q9 q30 q3x zu):=sk qdS qc q8 (alc qqX aln) aln (b1 Tryz.func215) Tryz.func215
def q78:FIn:=⟨[(.ptr 0 0),.str,.str,.str],[.cells [(.int .i64)]]⟩
def q6V:List FOut:=[⟨(.int .i64),[.cells [(.int .i64)]],none⟩]
noncomputable def qea:=qe [(111,q9 vZ j7 qf),(160,q9 uQ uS zr),(215,q9 q30 q3x zu)] [(214,Tryz.f214)] [] 1
noncomputable def un:=qp qea 214 Tryz.f214 true q78 q6V
theorem qii:qS Tryz.prog qa 214 (q9 q78 q6V un):=sk qea qc q8 (alc jj (alc q1m (alc q8Y aln))) aln (b1 Tryz.func214) Tryz.func214
def q75:FIn:=⟨[.str,.str,.str,.str,.str],[]⟩
def q7g:List FOut:=[⟨(.tuple [(.int .i64),(.int .i64)]),[],none⟩]
noncomputable def qdw:=qe [(111,q9 vZ j7 qf),(133,q9 u6 ua qW),(134,q9 q2r q2o qP),(160,q9 uQ uS zr),(182,q9 q4H q4S yv),(214,q9 q78 q6V un),(215,q9 q30 q3x zu)] [(183,Tryz.f183)] [] 0
noncomputable def q0T:=qp qdw 183 Tryz.f183 true q75 q7g
theorem qi9:qS Tryz.prog qa 183 (q9 q75 q7g q0T):=sk qdw qc q8 (alc jj (alc ui (alc q1Y (alc q1m (alc qaJ (alc qii (alc q8Y aln))))))) aln (b1 Tryz.func183) Tryz.func183
def q8k:FIn:=⟨[.str,.str,.str],[]⟩
def q8m:List FOut:=[⟨(.tuple [(.int .i64),(.int .i64)]),[],none⟩]
noncomputable def qfV:=qe [(183,q9 q75 q7g q0T)] [(150,Tryz.f150)] [] 0
noncomputable def q1y:=qp qfV 150 Tryz.f150 true q8k q8m
theorem qjr:qS Tryz.prog qa 150 (q9 q8k q8m q1y):=sk qfV qc q8 (alc qi9 aln) aln (b1 Tryz.func150) Tryz.func150
def q6T:FIn:=⟨[(.ptr 0 0),.str,.str,.str],[.cells [(.int .i64)]]⟩
def q6L:List FOut:=[⟨(.int .i64),[.cells [(.int .i64)]],none⟩]
noncomputable def qdR:=qe [(150,q9 q8k q8m q1y)] [(122,Tryz.f122)] [] 1
noncomputable def q0I:=qp qdR 122 Tryz.f122 true q6T q6L
theorem qir:qS Tryz.prog qa 122 (q9 q6T q6L q0I):=sk qdR qc q8 (alc qjr aln) aln (b1 Tryz.func122) Tryz.func122
def q2f:FIn:=⟨[(.ptr 0 0),(.agg [.str,.str,.str]),(.agg [.str,.str,.str,.str,.str])],[.cells [(.int .i64)]]⟩
def q27:List FOut:=[⟨.bool,[.cells [(.int .i64)]],none⟩]
noncomputable def qc4:=qe [(115,q9 q3k q3r jk),(116,q9 q4M q4y wV),(119,q9 q1F q1z zf),(120,q9 q1s q1I zI),(121,q9 q1q q1N qY),(122,q9 q6T q6L q0I)] [(91,Tryz.f91)] [] 1
noncomputable def yg:=qp qc4 91 Tryz.f91 true q2f q27
theorem q83:qS Tryz.prog qa 91 (q9 q2f q27 yg):=sk qc4 qc q8 (alc q91 (alc qak (alc q56 (alc q53 (alc q54 (alc qir aln)))))) aln (b1 Tryz.func91) Tryz.func91
def wZ:FIn:=⟨[(.ptr 0 0),(.imm [.str,.str,.str]),(.agg [(.int .i64),(.int .i64),(.int .i64)])],[.cells [(.int .i64)]]⟩
def v7:List FOut:=[⟨.bool,[.cells [(.int .i64)]],none⟩]
def kC:Tmpl:={ t:=((.imm [.str,.str,.str])::(.fn 93 [] [(.ptr 4 0)])::qA 5 ((.int .i64)::(.int .i64)::qA 10 [])),h:=[.cells [(.int .i64)],.cells [(.ptr 0 0)],.cells [(.int .i64),(.int .i64),(.int .i64)],.cells [.str,.str,.str,.str,.str],.cells [(.fn 90 [] [(.ptr 1 0),(.ptr 3 0)])]],fs:=[[(.imm [.str,.str,.str]),(.fn 93 [] [(.ptr 4 0)]),.any,.any,(.blit false),(.imm [.str,.str,.str]),(.fn 93 [] [(.ptr 4 0)]),.any,.any],[(.ptr 0 0),(.imm [.str,.str,.str]),(.agg [(.int .i64),(.int .i64),(.int .i64)]),(.ptr 1 0),.any,(.ptr 2 0),(.blit false),(.ptr 3 0),.bool,(.ptr 4 0),(.tuple [(.agg [.str,.str,.str,.str,.str]),.bool]),(.ptr 0 0),(.imm [.str,.str,.str]),(.agg [(.int .i64),(.int .i64),(.int .i64)]),(.tuple [(.agg [.str,.str,.str,.str,.str]),.bool]),(.agg [.str,.str,.str,.str,.str]),.bool,(.fn 90 [] [(.ptr 1 0),(.ptr 3 0)]),.bool,(.blit true),(.imm [.str,.str,.str]),(.fn 93 [] [(.ptr 4 0)]),.any,.any,.any,.any,.any,.any,.any,.any,.any,.any],[]] }
def kG:List Out:=[⟨(.exit 0),{ t:=(qA 19 []),h:=[.cells [(.int .i64)],.cells [(.ptr 0 0)],.cells [(.int .i64),(.int .i64),(.int .i64)],.cells [.str,.str,.str,.str,.str],.cells [(.fn 90 [] [(.ptr 1 0),(.ptr 3 0)])]],fs:=[[(.imm [.str,.str,.str]),(.fn 93 [] [(.ptr 4 0)]),.any,.any,(.blit false),(.imm [.str,.str,.str]),(.fn 93 [] [(.ptr 4 0)]),.any,.any],[(.ptr 0 0),(.imm [.str,.str,.str]),(.agg [(.int .i64),(.int .i64),(.int .i64)]),(.ptr 1 0),.any,(.ptr 2 0),(.blit false),(.ptr 3 0),.bool,(.ptr 4 0),(.tuple [(.agg [.str,.str,.str,.str,.str]),.bool]),(.ptr 0 0),(.imm [.str,.str,.str]),(.agg [(.int .i64),(.int .i64),(.int .i64)]),(.tuple [(.agg [.str,.str,.str,.str,.str]),.bool]),(.agg [.str,.str,.str,.str,.str]),.bool,(.fn 90 [] [(.ptr 1 0),(.ptr 3 0)]),.bool,(.blit true),(.imm [.str,.str,.str]),(.fn 93 [] [(.ptr 4 0)]),.any,.any,.any,.any,.any,.any,.any,.any,.any,.any],[]] }⟩,⟨.ret,{ t:=(qA 4 ((.int .i64)::qA 14 [])),h:=[.cells [(.int .i64)],.cells [(.ptr 0 0)],.cells [(.int .i64),(.int .i64),(.int .i64)],.cells [.str,.str,.str,.str,.str],.cells [(.fn 90 [] [(.ptr 1 0),(.ptr 3 0)])]],fs:=[[(.imm [.str,.str,.str]),(.fn 93 [] [(.ptr 4 0)]),.any,.any,(.blit false),(.imm [.str,.str,.str]),(.fn 93 [] [(.ptr 4 0)]),.any,.any],[(.ptr 0 0),(.imm [.str,.str,.str]),(.agg [(.int .i64),(.int .i64),(.int .i64)]),(.ptr 1 0),.any,(.ptr 2 0),(.blit false),(.ptr 3 0),.bool,(.ptr 4 0),(.tuple [(.agg [.str,.str,.str,.str,.str]),.bool]),(.ptr 0 0),(.imm [.str,.str,.str]),(.agg [(.int .i64),(.int .i64),(.int .i64)]),(.tuple [(.agg [.str,.str,.str,.str,.str]),.bool]),(.agg [.str,.str,.str,.str,.str]),.bool,(.fn 90 [] [(.ptr 1 0),(.ptr 3 0)]),.bool,(.blit true),(.imm [.str,.str,.str]),(.fn 93 [] [(.ptr 4 0)]),.any,.any,.any,.any,.any,.any,.any,.any,.any,.any],[]] }⟩]
noncomputable def jt:=qe [(89,q9 q29 q2j vS),(91,q9 q2f q27 yg)] [(61,Tryz.f61),(90,Tryz.f90),(92,Tryz.f92),(93,Tryz.f93),(123,Tryz.f123)] [] 1
noncomputable def wQ:=wD jt 123 Tryz.f123 3 kC kG
theorem q9X:qm Tryz.prog qa jt.nimp (qx Tryz.prog jt.iter 123) (zb Tryz.f123 3) (qj kC kG (qg wQ)):=
 gk jt qc q8 (alc q82 (alc q83 aln)) aln (alc (bk Tryz.func61) (alc (bk Tryz.func90) (alc (bk Tryz.func92) (alc (bk Tryz.func93) (alc (bk Tryz.func123) aln))))) Tryz.func123
noncomputable def qbq:=qe [(89,q9 q29 q2j vS),(91,q9 q2f q27 yg)] [(61,Tryz.f61),(90,Tryz.f90),(92,Tryz.f92),(93,Tryz.f93),(123,Tryz.f123)] [((123,3),qj kC kG (qg wQ))] 1
noncomputable def zm:=qp qbq 61 Tryz.f61 true wZ v7
theorem j8:qS Tryz.prog qa 61 (q9 wZ v7 zm):=sk qbq qc q8 (alc q82 (alc q83 aln)) (alc (lk Tryz.func123 q9X) aln) (alc (bk Tryz.func61) (alc (bk Tryz.func90) (alc (bk Tryz.func92) (alc (bk Tryz.func93) (alc (bk Tryz.func123) aln))))) Tryz.func61
def zg:FIn:=⟨[(.ptr 0 0),(.imm [.str,.str,.str])],[.cells [(.int .i64)]]⟩
def zj:List FOut:=[⟨(.tuple [(.agg [(.int .i64),(.int .i64),(.int .i64)]),.bool]),[.cells [(.int .i64)]],none⟩]
def q0y:Tmpl:={ t:=(.yld::(.ptr 5 0)::qA 6 ((.int .i64)::(.int .i64)::qA 35 [])),h:=[.cells [(.int .i64)],.cells [(.ptr 0 0)],.cells [(.imm [.str,.str,.str])],.cells [(.int .i64),(.int .i64),(.int .i64)],.cells [.bool],.cells [(.int .i64)]],fs:=[[.any,.any,(.ptr 1 0),(.ptr 2 0),(.ptr 3 0),(.ptr 4 0),.any,.any,.any,(.fn 129 [] [(.ptr 5 0)]),.any,.any,.any,.any,.any,.any,.any],[]] }
def q0f:List Out:=[⟨(.exit 0),{ t:=(.yld::(.ptr 5 0)::qA 43 []),h:=[.cells [(.int .i64)],.cells [(.ptr 0 0)],.cells [(.imm [.str,.str,.str])],.cells [(.int .i64),(.int .i64),(.int .i64)],.cells [.bool],.cells [(.int .i64)]],fs:=[[.any,.any,(.ptr 1 0),(.ptr 2 0),(.ptr 3 0),(.ptr 4 0),.any,.any,.any,(.fn 129 [] [(.ptr 5 0)]),.any,.any,.any,.any,.any,.any,.any],[]] }⟩,⟨.ret,{ t:=(qA 45 []),h:=[.cells [(.int .i64)],.cells [(.ptr 0 0)],.cells [(.imm [.str,.str,.str])],.cells [(.int .i64),(.int .i64),(.int .i64)],.cells [.bool],.cells [(.int .i64)]],fs:=[[.any,.any,(.ptr 1 0),(.ptr 2 0),(.ptr 3 0),(.ptr 4 0),.any,.any,.any,(.fn 129 [] [(.ptr 5 0)]),.any,.any,.any,.any,.any,.any,.any],[]],pend:=(.some .ret) }⟩]
noncomputable def ya:Env:={ tt:=qeA,glob:=qa,spec:=[(61,q9 wZ v7 zm)],body:=[(82,Tryz.f82),(106,Tryz.f106),(129,Tryz.f129)],loops:=[],nimp:=1,iter:=[(129,82,3)] }
noncomputable def vk:=qv3 ya (some (82,Tryz.f82,3)) 129 Tryz.f129 2 q0y q0f
theorem qbg:qm Tryz.prog qa ya.nimp (qx Tryz.prog ya.iter 129) (zb Tryz.f129 2) (qj q0y q0f (qg vk)):=
 q8b (E:=ya) qc ⟨qch q8,(alc j8 aln),aln,(alc (bk Tryz.func82) (alc (bk Tryz.func106) (alc (bk Tryz.func129) aln)))⟩ Tryz.func129 (by kernel_rfl) (y:=some (82,Tryz.f82,3)) ⟨Tryz.func82,by kernel_rfl⟩ (by kernel_rfl) (by kernel_rfl) (fun _=>rfl)
def kX:Tmpl:={ t:=(.yld::(.ptr 5 0)::.any::.any::(.int .i64)::(.int .i64)::qA 13 ((.int .i64)::(.int .i64)::qA 9 ((.vec 6)::(.int .i64)::(.int .i64)::qA 12 []))),h:=[.cells [(.int .i64)],.cells [(.ptr 0 0)],.cells [(.imm [.str,.str,.str])],.cells [(.int .i64),(.int .i64),(.int .i64)],.cells [.bool],.cells [(.int .i64)],.vec 3 [(.int .i64)]],fs:=[[.any,.any,(.ptr 1 0),(.ptr 2 0),(.ptr 3 0),(.ptr 4 0),.any,.any,.any,(.fn 129 [] [(.ptr 5 0)]),.any,.any,.any,.any,.any,.any,.any],[]] }
def kW:List Out:=[⟨(.exit 6),{ t:=(.yld::(.ptr 5 0)::.any::.any::(.int .i64)::(.int .i64)::qA 13 ((.int .i64)::(.int .i64)::qA 24 [])),h:=[.cells [(.int .i64)],.cells [(.ptr 0 0)],.cells [(.imm [.str,.str,.str])],.cells [(.int .i64),(.int .i64),(.int .i64)],.cells [.bool],.cells [(.int .i64)]],fs:=[[.any,.any,(.ptr 1 0),(.ptr 2 0),(.ptr 3 0),(.ptr 4 0),.any,.any,.any,(.fn 129 [] [(.ptr 5 0)]),.any,.any,.any,.any,.any,.any,.any],[]] }⟩,⟨.ret,{ t:=(qA 45 []),h:=[.cells [(.int .i64)],.cells [(.ptr 0 0)],.cells [(.imm [.str,.str,.str])],.cells [(.int .i64),(.int .i64),(.int .i64)],.cells [.bool],.cells [(.int .i64)]],fs:=[[.any,.any,(.ptr 1 0),(.ptr 2 0),(.ptr 3 0),(.ptr 4 0),.any,.any,.any,(.fn 129 [] [(.ptr 5 0)]),.any,.any,.any,.any,.any,.any,.any],[]],pend:=(.some .ret) }⟩]
noncomputable def jq:Env:={ tt:=qeA,glob:=qa,spec:=[(61,q9 wZ v7 zm)],body:=[(82,Tryz.f82),(106,Tryz.f106),(129,Tryz.f129)],loops:=[],nimp:=1,iter:=[(129,82,3)] }
noncomputable def wH:=qv3 jq (some (82,Tryz.f82,3)) 129 Tryz.f129 20 kX kW
theorem qa6:qm Tryz.prog qa jq.nimp (qx Tryz.prog jq.iter 129) (zb Tryz.f129 20) (qj kX kW (qg wH)):=
 q8b (E:=jq) qc ⟨qch q8,(alc j8 aln),aln,(alc (bk Tryz.func82) (alc (bk Tryz.func106) (alc (bk Tryz.func129) aln)))⟩ Tryz.func129 (by kernel_rfl) (y:=some (82,Tryz.f82,3)) ⟨Tryz.func82,by kernel_rfl⟩ (by kernel_rfl) (by kernel_rfl) (fun _=>rfl)
def kT:Tmpl:={ t:=(.yld::(.ptr 5 0)::.any::.any::(.int .i64)::(.int .i64)::qA 13 ((.int .i64)::(.int .i64)::qA 24 [])),h:=[.cells [(.int .i64)],.cells [(.ptr 0 0)],.cells [(.imm [.str,.str,.str])],.cells [(.int .i64),(.int .i64),(.int .i64)],.cells [.bool],.cells [(.int .i64)]],fs:=[[.any,.any,(.ptr 1 0),(.ptr 2 0),(.ptr 3 0),(.ptr 4 0),.any,.any,.any,(.fn 129 [] [(.ptr 5 0)]),.any,.any,.any,.any,.any,.any,.any],[]] }
def kv:List Out:=[⟨(.exit 4),{ t:=(.yld::(.ptr 5 0)::qA 17 ((.int .i64)::(.int .i64)::qA 24 [])),h:=[.cells [(.int .i64)],.cells [(.ptr 0 0)],.cells [(.imm [.str,.str,.str])],.cells [(.int .i64),(.int .i64),(.int .i64)],.cells [.bool],.cells [(.int .i64)]],fs:=[[.any,.any,(.ptr 1 0),(.ptr 2 0),(.ptr 3 0),(.ptr 4 0),.any,.any,.any,(.fn 129 [] [(.ptr 5 0)]),.any,.any,.any,.any,.any,.any,.any],[]] }⟩,⟨.ret,{ t:=(qA 45 []),h:=[.cells [(.int .i64)],.cells [(.ptr 0 0)],.cells [(.imm [.str,.str,.str])],.cells [(.int .i64),(.int .i64),(.int .i64)],.cells [.bool],.cells [(.int .i64)]],fs:=[[.any,.any,(.ptr 1 0),(.ptr 2 0),(.ptr 3 0),(.ptr 4 0),.any,.any,.any,(.fn 129 [] [(.ptr 5 0)]),.any,.any,.any,.any,.any,.any,.any],[]],pend:=(.some .ret) }⟩]
noncomputable def jo:Env:={ tt:=qeA,glob:=qa,spec:=[(61,q9 wZ v7 zm)],body:=[(82,Tryz.f82),(106,Tryz.f106),(129,Tryz.f129)],loops:=[((129,20),qj kX kW (qg wH))],nimp:=1,iter:=[(129,82,3)] }
noncomputable def wP:=qv3 jo (some (82,Tryz.f82,3)) 129 Tryz.f129 15 kT kv
theorem q9D:qm Tryz.prog qa jo.nimp (qx Tryz.prog jo.iter 129) (zb Tryz.f129 15) (qj kT kv (qg wP)):=
 q8b (E:=jo) qc ⟨qch q8,(alc j8 aln),(alc (lk Tryz.func129 qa6) aln),(alc (bk Tryz.func82) (alc (bk Tryz.func106) (alc (bk Tryz.func129) aln)))⟩ Tryz.func129 (by kernel_rfl) (y:=some (82,Tryz.f82,3)) ⟨Tryz.func82,by kernel_rfl⟩ (by kernel_rfl) (by kernel_rfl) (fun _=>rfl)
def q0o:Tmpl:={ t:=(.yld::(.ptr 5 0)::qA 17 ((.int .i64)::(.int .i64)::qA 24 [])),h:=[.cells [(.int .i64)],.cells [(.ptr 0 0)],.cells [(.imm [.str,.str,.str])],.cells [(.int .i64),(.int .i64),(.int .i64)],.cells [.bool],.cells [(.int .i64)]],fs:=[[.any,.any,(.ptr 1 0),(.ptr 2 0),(.ptr 3 0),(.ptr 4 0),.any,.any,.any,(.fn 129 [] [(.ptr 5 0)]),.any,.any,.any,.any,.any,.any,.any],[]] }
def q0j:List Out:=[⟨(.exit 2),{ t:=(qA 45 []),h:=[.cells [(.int .i64)],.cells [(.ptr 0 0)],.cells [(.imm [.str,.str,.str])],.cells [(.int .i64),(.int .i64),(.int .i64)],.cells [.bool],.cells [(.int .i64)]],fs:=[[.any,.any,(.ptr 1 0),(.ptr 2 0),(.ptr 3 0),(.ptr 4 0),.any,.any,.any,(.fn 129 [] [(.ptr 5 0)]),.any,.any,.any,.any,.any,.any,.any],[]] }⟩,⟨.ret,{ t:=(qA 45 []),h:=[.cells [(.int .i64)],.cells [(.ptr 0 0)],.cells [(.imm [.str,.str,.str])],.cells [(.int .i64),(.int .i64),(.int .i64)],.cells [.bool],.cells [(.int .i64)]],fs:=[[.any,.any,(.ptr 1 0),(.ptr 2 0),(.ptr 3 0),(.ptr 4 0),.any,.any,.any,(.fn 129 [] [(.ptr 5 0)]),.any,.any,.any,.any,.any,.any,.any],[]],pend:=(.some .ret) }⟩]
noncomputable def jW:Env:={ tt:=qeA,glob:=qa,spec:=[(61,q9 wZ v7 zm)],body:=[(82,Tryz.f82),(106,Tryz.f106),(129,Tryz.f129)],loops:=[((129,15),qj kT kv (qg wP))],nimp:=1,iter:=[(129,82,3)] }
noncomputable def vr:=qv3 jW (some (82,Tryz.f82,3)) 129 Tryz.f129 9 q0o q0j
theorem qaK:qm Tryz.prog qa jW.nimp (qx Tryz.prog jW.iter 129) (zb Tryz.f129 9) (qj q0o q0j (qg vr)):=
 q8b (E:=jW) qc ⟨qch q8,(alc j8 aln),(alc (lk Tryz.func129 q9D) aln),(alc (bk Tryz.func82) (alc (bk Tryz.func106) (alc (bk Tryz.func129) aln)))⟩ Tryz.func129 (by kernel_rfl) (y:=some (82,Tryz.f82,3)) ⟨Tryz.func82,by kernel_rfl⟩ (by kernel_rfl) (by kernel_rfl) (fun _=>rfl)
noncomputable def qbY:Env:={ tt:=qeA,glob:=qa,spec:=[(61,q9 wZ v7 zm)],body:=[(82,Tryz.f82),(106,Tryz.f106),(129,Tryz.f129)],loops:=[((129,2),qj q0y q0f (qg vk)),((129,9),qj q0o q0j (qg vr))],nimp:=1,iter:=[(129,82,3)] }
noncomputable def qG:=qp qbY 82 Tryz.f82 true zg zj
theorem zh:qS Tryz.prog qa 82 (q9 zg zj qG):=sk qbY qc q8 (alc j8 aln) (alc (lk Tryz.func129 qbg) (alc (lk Tryz.func129 qaK) aln)) (alc (bk Tryz.func82) (alc (bk Tryz.func106) (alc (bk Tryz.func129) aln))) Tryz.func82
def qd3:FIn:=⟨[(.imm [.str,.str,.str])],[]⟩
def qcM:List FOut:=[⟨(.tuple [.bool,(.agg [(.int .i64),(.int .i64),(.int .i64)]),(.int .i64)]),[],none⟩]
noncomputable def qiB:=qe [(60,q9 jL jJ wc),(82,q9 zg zj qG)] [(53,Tryz.f53)] [] 0
noncomputable def q4j:=qp qiB 53 Tryz.f53 true qd3 qcM
theorem qms:qS Tryz.prog qa 53 (q9 qd3 qcM q4j):=sk qiB qc q8 (alc vQ (alc zh aln)) aln (b1 Tryz.func53) Tryz.func53
def qh4:FIn:=⟨[.str,.str],[]⟩
def qgt:List FOut:=[⟨(.tuple [.str,(.int .i64)]),[],none⟩]
def qcI:Tmpl:={ t:=(.str::.str::qA 11 ((.vec 0)::(.int .i64)::(.int .i64)::qA 27 [])),h:=[.vec 148 [.str]] }
def qcP:List Out:=[⟨(.exit 0),{ t:=(.str::.str::qA 41 []),h:=[] }⟩,⟨.ret,{ t:=(qA 4 (.str::(.int .i64)::qA 37 [])),h:=[] }⟩]
noncomputable def q7o:=qe [(130,q9 jp jw qO),(131,q9 wd zZ qE)] [(107,Tryz.f107)] [] 0
noncomputable def q1Q:=wD q7o 107 Tryz.f107 3 qcI qcP
theorem qmm:qm Tryz.prog qa q7o.nimp (qx Tryz.prog q7o.iter 107) (zb Tryz.f107 3) (qj qcI qcP (qg q1Q)):=
 gk q7o qc q8 (alc j5 (alc wF aln)) aln (b1 Tryz.func107) Tryz.func107
noncomputable def qnn:=qe [(130,q9 jp jw qO),(131,q9 wd zZ qE)] [(107,Tryz.f107)] [((107,3),qj qcI qcP (qg q1Q))] 0
noncomputable def q7I:=qp qnn 107 Tryz.f107 true qh4 qgt
theorem qq9:qS Tryz.prog qa 107 (q9 qh4 qgt q7I):=sk qnn qc q8 (alc j5 (alc wF aln)) (alc (lk Tryz.func107 qmm) aln) (b1 Tryz.func107) Tryz.func107
def qhS:FIn:=⟨[(.int .i64),(.int .i64)],[]⟩
def qhL:List FOut:=[⟨(.tuple [.str,(.int .i64)]),[],none⟩]
noncomputable def qss:=qe [(107,q9 qh4 qgt q7I),(108,q9 q3z q34 zt)] [(83,Tryz.f83)] [] 0
noncomputable def qac:=qp qss 83 Tryz.f83 true qhS qhL
theorem qkL:qS Tryz.prog qa 83 (q9 qhS qhL qac):=sk qss qc q8 (alc qq9 (alc q1o aln)) aln (b1 Tryz.func83) Tryz.func83
def q9A:FIn:=⟨[(.int .i64)],[]⟩
def q9r:List FOut:=[⟨.str,[],none⟩]
noncomputable def qlt:=qe [(108,q9 q3z q34 zt)] [(85,Tryz.f85)] [] 0
noncomputable def q1k:=qp qlt 85 Tryz.f85 true q9A q9r
theorem qfE:qS Tryz.prog qa 85 (q9 q9A q9r q1k):=sk qlt qc q8 (alc q1o aln) aln (b1 Tryz.func85) Tryz.func85
def q4N:FIn:=⟨[(.agg [(.imm [(.int .i64),(.int .i64),(.int .i64),(.int .i64),(.int .i64),(.int .i64),.bool]),(.imm [(.int .i64),(.int .i64),(.int .i64),(.int .i64),(.int .i64),(.int .i64),.bool])]),(.agg [(.imm [(.int .i64),(.int .i64),(.int .i64)]),(.imm [(.int .i64),(.int .i64),(.int .i64)])])],[]⟩
def q4r:List FOut:=[⟨(.imm [.str,.str,.str]),[],none⟩]
def q6t:Tmpl:={ t:=(.any::.any::.any::(.ptr 1 0)::.any::(.vec 2)::qA 10 ((.imm [(.int .i64)])::(.int .i64)::(.int .i64)::qA 47 [])),h:=[.dead,.cells [(.imm [(.int .i64),(.int .i64),(.int .i64)]),(.imm [(.int .i64),(.int .i64),(.int .i64)])],.vec 118 [.str,.str,.str]],pro:=[(5,118,[.str,.str,.str])] }
def q6w:List Out:=[⟨(.exit 0),{ t:=(qA 5 ((.vec 2)::qA 60 [])),h:=[.dead,.dead,.vec 118 [.str,.str,.str]] }⟩]
noncomputable def q2a:=qe [(49,q9 yo ym zq),(83,q9 qhS qhL qac),(84,q9 q6W q71 q14),(85,q9 q9A q9r q1k)] [(54,Tryz.f54)] [] 0
noncomputable def yk:=wD q2a 54 Tryz.f54 4 q6t q6w
theorem qgP:qm Tryz.prog qa q2a.nimp (qx Tryz.prog q2a.iter 54) (zb Tryz.f54 4) (qj q6t q6w (qg yk)):=
 gk q2a qc q8 (alc uC (alc qkL (alc q7D (alc qfE aln)))) aln (b1 Tryz.func54) Tryz.func54
noncomputable def qfO:=qe [(49,q9 yo ym zq),(83,q9 qhS qhL qac),(84,q9 q6W q71 q14),(85,q9 q9A q9r q1k)] [(54,Tryz.f54)] [((54,4),qj q6t q6w (qg yk))] 0
noncomputable def yx:=qp qfO 54 Tryz.f54 true q4N q4r
theorem qaI:qS Tryz.prog qa 54 (q9 q4N q4r yx):=sk qfO qc q8 (alc uC (alc qkL (alc q7D (alc qfE aln)))) (alc (lk Tryz.func54 qgP) aln) (b1 Tryz.func54) Tryz.func54
def q12:FIn:=⟨[(.agg [(.imm [(.int .i64),(.int .i64),(.int .i64),(.int .i64),(.int .i64),(.int .i64),.bool]),(.imm [(.int .i64),(.int .i64),(.int .i64),(.int .i64),(.int .i64),(.int .i64),.bool])]),(.agg [(.imm [(.int .i64),(.int .i64),(.int .i64)]),(.imm [(.int .i64),(.int .i64),(.int .i64)])])],[]⟩
def q1d:List FOut:=[⟨(.tuple [.bool,(.agg [(.int .i64),(.int .i64),(.int .i64)]),(.int .i64)]),[],none⟩]
noncomputable def qb8:=qe [(43,q9 wY v6 we),(48,q9 q0P q0s wi),(49,q9 yo ym zq),(53,q9 qd3 qcM q4j),(54,q9 q4N q4r yx),(42,q9 qJ qK qk)] [(22,Tryz.f22)] [] 0
noncomputable def zl:=qp qb8 22 Tryz.f22 true q12 q1d
theorem q6H:qS Tryz.prog qa 22 (q9 q12 q1d zl):=sk qb8 qc q8 (alc jd (alc q3H (alc uC (alc qms (alc qaI (alc zw aln)))))) aln (b1 Tryz.func22) Tryz.func22
def q2z:FIn:=⟨[(.imm [.str,.str,.str])],[]⟩
def q2D:List FOut:=[⟨(.tuple [(.imm [(.int .i64)]),(.int .i64)]),[],none⟩]
def yq:Tmpl:={ t:=(.any::(.ptr 0 0)::(.ptr 2 0)::.any::.any::(.vec 4)::qA 4 ((.vec 3)::(.int .i64)::(.int .i64)::qA 26 [])),h:=[.cells [(.imm [.str,.str,.str])],.cells [(.int .i64)],.cells [(.ptr 1 0)],.vec 3 [(.int .i64)],.vec 118 [.str,.str,.str]],pro:=[(5,118,[.str,.str,.str])],fs:=[[.any,(.ptr 0 0),.any,.any,.any,(.ptr 2 0),(.fn 87 [] [(.ptr 0 0),(.ptr 2 0)]),(.int .i64),(.int .i64),.any,.any,.any,.any,.any,.any,.any,.any,.any,.any,.any,.any,(.int .i64),(.int .i64),.any,.any,.any,.any,(.int .i64),(.imm [.str,.str,.str]),(.int .i64),(.blit true),.any,.any,(.fn 87 [] [(.ptr 0 0),(.ptr 2 0)]),(.int .i64),(.int .i64),(.vec 3),.any,.any,.any,.any,.any,.any,.any,.any,.any,.any,.any,.any,.any,.any,.any,.any,.any,.any,.any,.any,.any,.any,.any,.any,.any,.any,.any,.any,.any,.any,.any,.any,.any,.any,.any,.any,.any,.any,.any,.any,.any],[]] }
def yA:List Out:=[⟨(.exit 0),{ t:=(.any::.any::(.ptr 2 0)::.any::.any::(.vec 4)::qA 33 []),h:=[.cells [(.imm [.str,.str,.str])],.cells [(.int .i64)],.cells [(.ptr 1 0)],.vec 3 [(.int .i64)],.vec 118 [.str,.str,.str]],fs:=[[.any,(.ptr 0 0),.any,.any,.any,(.ptr 2 0),(.fn 87 [] [(.ptr 0 0),(.ptr 2 0)]),(.int .i64),(.int .i64),.any,.any,.any,.any,.any,.any,.any,.any,.any,.any,.any,.any,(.int .i64),(.int .i64),.any,.any,.any,.any,(.int .i64),(.imm [.str,.str,.str]),(.int .i64),(.blit true),.any,.any,(.fn 87 [] [(.ptr 0 0),(.ptr 2 0)]),(.int .i64),(.int .i64),(.vec 3),.any,.any,.any,.any,.any,.any,.any,.any,.any,.any,.any,.any,.any,.any,.any,.any,.any,.any,.any,.any,.any,.any,.any,.any,.any,.any,.any,.any,.any,.any,.any,.any,.any,.any,.any,.any,.any,.any,.any,.any,.any],[]] }⟩]
noncomputable def wU:=qe [(60,q9 jL jJ wc),(82,q9 zg zj qG)] [(57,Tryz.f57),(87,Tryz.f87)] [] 0
noncomputable def z8:=wD wU 87 Tryz.f87 4 yq yA
theorem q6D:qm Tryz.prog qa wU.nimp (qx Tryz.prog wU.iter 87) (zb Tryz.f87 4) (qj yq yA (qg z8)):=
 gk wU qc q8 (alc vQ (alc zh aln)) aln (alc (bk Tryz.func57) (alc (bk Tryz.func87) aln)) Tryz.func87
def q0u:Tmpl:={ t:=(.any::(.ptr 0 0)::.any::.any::.any::(.ptr 2 0)::(.fn 87 [] [(.ptr 0 0),(.ptr 2 0)])::(.int .i64)::(.int .i64)::qA 12 ((.int .i64)::(.int .i64)::qA 55 [])),h:=[.cells [(.imm [.str,.str,.str])],.cells [(.int .i64)],.cells [(.ptr 1 0)]] }
def q0O:List Out:=[⟨(.exit 2),{ t:=(.any::(.ptr 0 0)::.any::.any::.any::(.ptr 2 0)::(.fn 87 [] [(.ptr 0 0),(.ptr 2 0)])::qA 14 ((.int .i64)::(.int .i64)::qA 55 [])),h:=[.cells [(.imm [.str,.str,.str])],.cells [(.int .i64)],.cells [(.ptr 1 0)]] }⟩,⟨.ret,{ t:=(.any::.any::(.vec 6)::(.int .i64)::qA 74 []),h:=[.dead,.dead,.dead,.dead,.dead,.dead,.vec 3 [(.int .i64)]] }⟩]
noncomputable def jX:=qe [(60,q9 jL jJ wc),(82,q9 zg zj qG)] [(57,Tryz.f57),(87,Tryz.f87)] [((87,4),qj yq yA (qg z8))] 0
noncomputable def vt:=wD jX 57 Tryz.f57 15 q0u q0O
theorem qaX:qm Tryz.prog qa jX.nimp (qx Tryz.prog jX.iter 57) (zb Tryz.f57 15) (qj q0u q0O (qg vt)):=
 gk jX qc q8 (alc vQ (alc zh aln)) (alc (lk Tryz.func87 q6D) aln) (alc (bk Tryz.func57) (alc (bk Tryz.func87) aln)) Tryz.func57
def q10:Tmpl:={ t:=(.any::(.ptr 0 0)::.any::.any::.any::(.ptr 2 0)::(.fn 87 [] [(.ptr 0 0),(.ptr 2 0)])::qA 14 ((.int .i64)::(.int .i64)::qA 55 [])),h:=[.cells [(.imm [.str,.str,.str])],.cells [(.int .i64)],.cells [(.ptr 1 0)]] }
def q16:List Out:=[⟨(.exit 0),{ t:=(.any::(.ptr 0 0)::.any::.any::.any::(.ptr 2 0)::(.fn 87 [] [(.ptr 0 0),(.ptr 2 0)])::qA 71 []),h:=[.cells [(.imm [.str,.str,.str])],.cells [(.int .i64)],.cells [(.ptr 1 0)]] }⟩,⟨.ret,{ t:=(.any::.any::(.vec 6)::(.int .i64)::qA 74 []),h:=[.dead,.dead,.dead,.dead,.dead,.dead,.vec 3 [(.int .i64)]] }⟩]
noncomputable def yV:=qe [(60,q9 jL jJ wc),(82,q9 zg zj qG)] [(57,Tryz.f57),(87,Tryz.f87)] [((57,15),qj q0u q0O (qg vt))] 0
noncomputable def vN:=wD yV 57 Tryz.f57 9 q10 q16
theorem qbF:qm Tryz.prog qa yV.nimp (qx Tryz.prog yV.iter 57) (zb Tryz.f57 9) (qj q10 q16 (qg vN)):=
 gk yV qc q8 (alc vQ (alc zh aln)) (alc (lk Tryz.func57 qaX) aln) (alc (bk Tryz.func57) (alc (bk Tryz.func87) aln)) Tryz.func57
def yn:Tmpl:={ t:=(.any::(.ptr 0 0)::(.ptr 2 0)::.any::.any::(.vec 4)::qA 4 ((.vec 3)::(.int .i64)::(.int .i64)::qA 26 [])),h:=[.cells [(.imm [.str,.str,.str])],.cells [(.int .i64)],.cells [(.ptr 1 0)],.vec 3 [(.int .i64)],.vec 118 [.str,.str,.str]],pro:=[(5,118,[.str,.str,.str])],fs:=[[.any,(.ptr 0 0),.any,.any,.any,(.ptr 2 0),(.fn 87 [] [(.ptr 0 0),(.ptr 2 0)]),.any,.any,(.int .i64),(.int .i64),(.int .i64),.any,.any,.any,.any,.any,.any,.any,.any,.any,.any,.any,.any,.any,.any,.any,.any,.any,.any,.any,.any,.any,.any,.any,.any,.any,.any,.any,.any,.any,.any,.any,(.int .i64),(.int .i64),.any,.any,.any,.any,.any,.any,.any,.any,.any,.any,.any,.any,(.int .i64),(.imm [.str,.str,.str]),(.int .i64),(.blit true),.any,.any,(.fn 87 [] [(.ptr 0 0),(.ptr 2 0)]),(.int .i64),(.int .i64),(.int .i64),(.vec 3),.any,.any,.any,.any,.any,.any,.any,.any,.any,.any],[]] }
def yu:List Out:=[⟨(.exit 0),{ t:=(.any::.any::(.ptr 2 0)::.any::.any::(.vec 4)::qA 33 []),h:=[.cells [(.imm [.str,.str,.str])],.cells [(.int .i64)],.cells [(.ptr 1 0)],.vec 3 [(.int .i64)],.vec 118 [.str,.str,.str]],fs:=[[.any,(.ptr 0 0),.any,.any,.any,(.ptr 2 0),(.fn 87 [] [(.ptr 0 0),(.ptr 2 0)]),.any,.any,(.int .i64),(.int .i64),(.int .i64),.any,.any,.any,.any,.any,.any,.any,.any,.any,.any,.any,.any,.any,.any,.any,.any,.any,.any,.any,.any,.any,.any,.any,.any,.any,.any,.any,.any,.any,.any,.any,(.int .i64),(.int .i64),.any,.any,.any,.any,.any,.any,.any,.any,.any,.any,.any,.any,(.int .i64),(.imm [.str,.str,.str]),(.int .i64),(.blit true),.any,.any,(.fn 87 [] [(.ptr 0 0),(.ptr 2 0)]),(.int .i64),(.int .i64),(.int .i64),(.vec 3),.any,.any,.any,.any,.any,.any,.any,.any,.any,.any],[]] }⟩]
noncomputable def wW:=qe [(60,q9 jL jJ wc),(82,q9 zg zj qG)] [(57,Tryz.f57),(87,Tryz.f87)] [] 0
noncomputable def ze:=wD wW 87 Tryz.f87 4 yn yu
theorem q6C:qm Tryz.prog qa wW.nimp (qx Tryz.prog wW.iter 87) (zb Tryz.f87 4) (qj yn yu (qg ze)):=
 gk wW qc q8 (alc vQ (alc zh aln)) aln (alc (bk Tryz.func57) (alc (bk Tryz.func87) aln)) Tryz.func87
def q0A:Tmpl:={ t:=(.any::(.ptr 0 0)::.any::.any::.any::(.ptr 2 0)::(.fn 87 [] [(.ptr 0 0),(.ptr 2 0)])::.any::.any::(.int .i64)::(.int .i64)::(.int .i64)::qA 31 ((.int .i64)::(.int .i64)::qA 33 [])),h:=[.cells [(.imm [.str,.str,.str])],.cells [(.int .i64)],.cells [(.ptr 1 0)]] }
def q0h:List Out:=[⟨(.exit 8),{ t:=(.any::(.ptr 0 0)::.any::.any::.any::(.ptr 2 0)::(.fn 87 [] [(.ptr 0 0),(.ptr 2 0)])::.any::.any::(.int .i64)::(.int .i64)::qA 32 ((.int .i64)::(.int .i64)::qA 33 [])),h:=[.cells [(.imm [.str,.str,.str])],.cells [(.int .i64)],.cells [(.ptr 1 0)]] }⟩,⟨.ret,{ t:=(.any::.any::(.vec 6)::(.int .i64)::qA 74 []),h:=[.dead,.dead,.dead,.dead,.dead,.dead,.vec 3 [(.int .i64)]] }⟩]
noncomputable def yd:=qe [(60,q9 jL jJ wc),(82,q9 zg zj qG)] [(57,Tryz.f57),(87,Tryz.f87)] [((87,4),qj yn yu (qg ze))] 0
noncomputable def vw:=wD yd 57 Tryz.f57 34 q0A q0h
theorem qan:qm Tryz.prog qa yd.nimp (qx Tryz.prog yd.iter 57) (zb Tryz.f57 34) (qj q0A q0h (qg vw)):=
 gk yd qc q8 (alc vQ (alc zh aln)) (alc (lk Tryz.func87 q6C) aln) (alc (bk Tryz.func57) (alc (bk Tryz.func87) aln)) Tryz.func57
def q0b:Tmpl:={ t:=(.any::(.ptr 0 0)::.any::.any::.any::(.ptr 2 0)::(.fn 87 [] [(.ptr 0 0),(.ptr 2 0)])::.any::.any::(.int .i64)::(.int .i64)::qA 32 ((.int .i64)::(.int .i64)::qA 33 [])),h:=[.cells [(.imm [.str,.str,.str])],.cells [(.int .i64)],.cells [(.ptr 1 0)]] }
def q0d:List Out:=[⟨(.exit 6),{ t:=(.any::(.ptr 0 0)::.any::.any::.any::(.ptr 2 0)::(.fn 87 [] [(.ptr 0 0),(.ptr 2 0)])::qA 36 ((.int .i64)::(.int .i64)::qA 33 [])),h:=[.cells [(.imm [.str,.str,.str])],.cells [(.int .i64)],.cells [(.ptr 1 0)]] }⟩,⟨.ret,{ t:=(.any::.any::(.vec 6)::(.int .i64)::qA 74 []),h:=[.dead,.dead,.dead,.dead,.dead,.dead,.vec 3 [(.int .i64)]] }⟩]
noncomputable def yi:=qe [(60,q9 jL jJ wc),(82,q9 zg zj qG)] [(57,Tryz.f57),(87,Tryz.f87)] [((57,34),qj q0A q0h (qg vw))] 0
noncomputable def vq:=wD yi 57 Tryz.f57 29 q0b q0d
theorem qao:qm Tryz.prog qa yi.nimp (qx Tryz.prog yi.iter 57) (zb Tryz.f57 29) (qj q0b q0d (qg vq)):=
 gk yi qc q8 (alc vQ (alc zh aln)) (alc (lk Tryz.func57 qan) aln) (alc (bk Tryz.func57) (alc (bk Tryz.func87) aln)) Tryz.func57
def q0v:Tmpl:={ t:=(.any::(.ptr 0 0)::.any::.any::.any::(.ptr 2 0)::(.fn 87 [] [(.ptr 0 0),(.ptr 2 0)])::qA 36 ((.int .i64)::(.int .i64)::qA 33 [])),h:=[.cells [(.imm [.str,.str,.str])],.cells [(.int .i64)],.cells [(.ptr 1 0)]] }
def q0Q:List Out:=[⟨(.exit 4),{ t:=(qA 5 ((.ptr 2 0)::qA 72 [])),h:=[.dead,.cells [(.int .i64)],.cells [(.ptr 1 0)]] }⟩,⟨.ret,{ t:=(.any::.any::(.vec 6)::(.int .i64)::qA 74 []),h:=[.dead,.dead,.dead,.dead,.dead,.dead,.vec 3 [(.int .i64)]] }⟩]
noncomputable def jY:=qe [(60,q9 jL jJ wc),(82,q9 zg zj qG)] [(57,Tryz.f57),(87,Tryz.f87)] [((57,29),qj q0b q0d (qg vq))] 0
noncomputable def vj:=wD jY 57 Tryz.f57 23 q0v q0Q
theorem qbo:qm Tryz.prog qa jY.nimp (qx Tryz.prog jY.iter 57) (zb Tryz.f57 23) (qj q0v q0Q (qg vj)):=
 gk jY qc q8 (alc vQ (alc zh aln)) (alc (lk Tryz.func57 qao) aln) (alc (bk Tryz.func57) (alc (bk Tryz.func87) aln)) Tryz.func57
noncomputable def q7Q:=qe [(60,q9 jL jJ wc),(82,q9 zg zj qG)] [(57,Tryz.f57),(87,Tryz.f87)] [((57,9),qj q10 q16 (qg vN)),((57,23),qj q0v q0Q (qg vj))] 0
noncomputable def jI:=qp q7Q 57 Tryz.f57 true q2z q2D
theorem qdk:qS Tryz.prog qa 57 (q9 q2z q2D jI):=sk q7Q qc q8 (alc vQ (alc zh aln)) (alc (lk Tryz.func57 qbF) (alc (lk Tryz.func57 qbo) aln)) (alc (bk Tryz.func57) (alc (bk Tryz.func87) aln)) Tryz.func57
def q4E:FIn:=⟨[(.agg [(.imm [(.int .i64),(.int .i64),(.int .i64),(.int .i64),(.int .i64),(.int .i64),.bool]),(.imm [(.int .i64),(.int .i64),(.int .i64),(.int .i64),(.int .i64),(.int .i64),.bool])]),(.agg [(.imm [(.int .i64),(.int .i64),(.int .i64)]),(.imm [(.int .i64),(.int .i64),(.int .i64)])])],[]⟩
def q4U:List FOut:=[⟨(.tuple [(.imm [(.int .i64)]),(.int .i64)]),[],none⟩]
noncomputable def qg4:=qe [(43,q9 wY v6 we),(48,q9 q0P q0s wi),(49,q9 yo ym zq),(54,q9 q4N q4r yx),(57,q9 q2z q2D jI),(42,q9 qJ qK qk)] [(24,Tryz.f24)] [] 0
noncomputable def j6:=qp qg4 24 Tryz.f24 true q4E q4U
theorem qaW:qS Tryz.prog qa 24 (q9 q4E q4U j6):=sk qg4 qc q8 (alc jd (alc q3H (alc uC (alc qaI (alc qdk (alc zw aln)))))) aln (b1 Tryz.func24) Tryz.func24
def q6l:FIn:=⟨[(.int .i64)],[]⟩
def q6k:List FOut:=[⟨.bool,[],none⟩]
noncomputable def qbR:=qe [] [(128,Tryz.f128)] [] 0
noncomputable def wA:=qp qbR 128 Tryz.f128 true q6l q6k
theorem qhv:qS Tryz.prog qa 128 (q9 q6l q6k wA):=sk qbR qc q8 aln aln (b1 Tryz.func128) Tryz.func128
def q3s:FIn:=⟨[(.agg [(.int .i64),(.int .i64)])],[]⟩
def q35:List FOut:=[⟨(.int .i64),[],none⟩]
noncomputable def qdZ:=qe [(128,q9 q6l q6k wA)] [(96,Tryz.f96)] [] 0
noncomputable def uf:=qp qdZ 96 Tryz.f96 true q3s q35
theorem q8Z:qS Tryz.prog qa 96 (q9 q3s q35 uf):=sk qdZ qc q8 (alc qhv aln) aln (b1 Tryz.func96) Tryz.func96
def uK:FIn:=⟨[(.imm [(.int .i64),(.int .i64)])],[]⟩
def uG:List FOut:=[⟨(.int .i64),[],none⟩]
def q0n:Tmpl:={ t:=(qA 14 ((.imm [(.int .i64),(.int .i64)])::(.int .i64)::(.int .i64)::qA 12 [])),h:=[] }
def q0G:List Out:=[⟨(.exit 1),{ t:=(qA 29 []),h:=[] }⟩,⟨.ret,{ t:=(.any::.any::(.int .i64)::qA 26 []),h:=[] }⟩]
noncomputable def jZ:=qe [(96,q9 q3s q35 uf)] [(66,Tryz.f66)] [] 0
noncomputable def vg:=wD jZ 66 Tryz.f66 8 q0n q0G
theorem qb5:qm Tryz.prog qa jZ.nimp (qx Tryz.prog jZ.iter 66) (zb Tryz.f66 8) (qj q0n q0G (qg vg)):=
 gk jZ qc q8 (alc q8Z aln) aln (b1 Tryz.func66) Tryz.func66
noncomputable def q6J:=qe [(96,q9 q3s q35 uf)] [(66,Tryz.f66)] [((66,8),qj q0n q0G (qg vg))] 0
noncomputable def wE:=qp q6J 66 Tryz.f66 true uK uG
theorem q4d:qS Tryz.prog qa 66 (q9 uK uG wE):=sk q6J qc q8 (alc q8Z aln) (alc (lk Tryz.func66 qb5) aln) (b1 Tryz.func66) Tryz.func66
def q5B:FIn:=⟨[(.imm [(.int .i64),(.int .i64)])],[]⟩
def q6b:List FOut:=[⟨(.tuple [(.agg [(.int .i64),(.int .i64)]),(.int .i64)]),[],none⟩]
def q3W:Tmpl:={ t:=(.any::.any::(.ptr 0 0)::.any::.any::(.ptr 1 0)::qA 8 ((.imm [(.int .i64),(.int .i64)])::(.int .i64)::(.int .i64)::qA 17 [])),h:=[.cells [(.int .i64),(.int .i64)],.cells [(.int .i64),(.int .i64)]] }
def q3N:List Out:=[⟨(.exit 0),{ t:=(.any::.any::(.ptr 0 0)::.any::.any::(.ptr 1 0)::qA 28 []),h:=[.cells [(.int .i64),(.int .i64)],.cells [(.int .i64),(.int .i64)]] }⟩]
noncomputable def q06:=qe [(66,q9 uK uG wE)] [(33,Tryz.f33)] [] 0
noncomputable def vW:=wD q06 33 Tryz.f33 8 q3W q3N
theorem qeJ:qm Tryz.prog qa q06.nimp (qx Tryz.prog q06.iter 33) (zb Tryz.f33 8) (qj q3W q3N (qg vW)):=
 gk q06 qc q8 (alc q4d aln) aln (b1 Tryz.func33) Tryz.func33
noncomputable def qcc:=qe [(66,q9 uK uG wE)] [(33,Tryz.f33)] [((33,8),qj q3W q3N (qg vW))] 0
noncomputable def ke:=qp qcc 33 Tryz.f33 true q5B q6b
theorem qhD:qS Tryz.prog qa 33 (q9 q5B q6b ke):=sk qcc qc q8 (alc q4d aln) (alc (lk Tryz.func33 qeJ) aln) (b1 Tryz.func33) Tryz.func33
def qju:FIn:=⟨[],[]⟩
def qjj:List FOut:=[⟨(.agg [(.imm [(.int .i64),(.int .i64),(.int .i64),(.int .i64),(.int .i64),(.int .i64),.bool]),(.imm [(.int .i64),(.int .i64),(.int .i64),(.int .i64),(.int .i64),(.int .i64),.bool])]),[],none⟩]
def qep:Tmpl:={ t:=((.ptr 0 0)::(.ptr 1 0)::.any::.any::.any::(.vec 2)::(.int .i64)::(.int .i64)::qA 24 []),h:=[.cells [.nils,.nils],.cells [(.vec 3),(.vec 4)],.vec 3 [(.int .i64)],.vec 68 [(.int .i64),(.int .i64),(.int .i64),(.int .i64),(.int .i64),(.int .i64),.bool],.vec 68 [(.int .i64),(.int .i64),(.int .i64),(.int .i64),(.int .i64),(.int .i64),.bool]],prc:=[(1,0,68,[(.int .i64),(.int .i64),(.int .i64),(.int .i64),(.int .i64),(.int .i64),.bool]),(1,1,68,[(.int .i64),(.int .i64),(.int .i64),(.int .i64),(.int .i64),(.int .i64),.bool])] }
def qez:List Out:=[⟨(.exit 0),{ t:=((.ptr 0 0)::(.ptr 1 0)::qA 30 []),h:=[.cells [.nils,.nils],.cells [(.vec 3),(.vec 4)],.dead,.vec 68 [(.int .i64),(.int .i64),(.int .i64),(.int .i64),(.int .i64),(.int .i64),.bool],.vec 68 [(.int .i64),(.int .i64),(.int .i64),(.int .i64),(.int .i64),(.int .i64),.bool]] }⟩]
noncomputable def q98:=qe [] [(38,Tryz.f38)] [] 0
noncomputable def q3t:=wD q98 38 Tryz.f38 4 qep qez
theorem qo1:qm Tryz.prog qa q98.nimp (qx Tryz.prog q98.iter 38) (zb Tryz.f38 4) (qj qep qez (qg q3t)):=
 gk q98 qc q8 aln aln (b1 Tryz.func38) Tryz.func38
noncomputable def qpZ:=qe [] [(38,Tryz.f38)] [((38,4),qj qep qez (qg q3t))] 0
noncomputable def qaM:=qp qpZ 38 Tryz.f38 true qju qjj
theorem qrs:qS Tryz.prog qa 38 (q9 qju qjj qaM):=sk qpZ qc q8 aln (alc (lk Tryz.func38 qo1) aln) (b1 Tryz.func38) Tryz.func38
def q8z:FIn:=⟨[(.int .i64)],[]⟩
def q8I:List FOut:=[⟨(.agg [(.imm [(.int .i64),(.int .i64),(.int .i64)]),(.imm [(.int .i64),(.int .i64),(.int .i64)])]),[],none⟩]
noncomputable def qg5:=qe [] [(39,Tryz.f39)] [] 0
noncomputable def uW:=qp qg5 39 Tryz.f39 true q8z q8I
theorem qjF:qS Tryz.prog qa 39 (q9 q8z q8I uW):=sk qg5 qc q8 aln aln (b1 Tryz.func39) Tryz.func39
def qeg:FIn:=⟨[],[]⟩
def qen:List FOut:=[⟨.bool,[],none⟩]
noncomputable def qkA:=qe [(12,q9 q2g q28 vP),(14,q9 qbe qaS q2C),(18,q9 uF uH qZ),(20,q9 q62 q67 ye),(22,q9 q12 q1d zl),(24,q9 q4E q4U j6),(33,q9 q5B q6b ke),(38,q9 qju qjj qaM),(39,q9 q8z q8I uW)] [(11,Tryz.f11)] [] 0
noncomputable def q32:=qp qkA 11 Tryz.f11 true qeg qen
theorem qoc:qS Tryz.prog qa 11 (q9 qeg qen q32):=sk qkA qc q8 (alc q7R (alc qlQ (alc q4i (alc qgu (alc q6H (alc qaW (alc qhD (alc qrs (alc qjF aln))))))))) aln (b1 Tryz.func11) Tryz.func11
def qn7:FIn:=⟨[(.int .i64)],[]⟩
def qmH:List FOut:=[⟨.bool,[],none⟩]
noncomputable def qsB:=qe [] [(59,Tryz.f59)] [] 0
noncomputable def q5b:=qp qsB 59 Tryz.f59 true qn7 qmH
theorem qtD:qS Tryz.prog qa 59 (q9 qn7 qmH q5b):=sk qsB qc q8 aln aln (b1 Tryz.func59) Tryz.func59
def q9e:FIn:=⟨[(.agg [(.int .i64),(.int .i64)])],[]⟩
def qa0:List FOut:=[⟨.bool,[],none⟩]
noncomputable def qlS:=qe [(59,q9 qn7 qmH q5b)] [(27,Tryz.f27)] [] 0
noncomputable def yS:=qp qlS 27 Tryz.f27 true q9e qa0
theorem qfC:qS Tryz.prog qa 27 (q9 q9e qa0 yS):=sk qlS qc q8 (alc qtD aln) aln (b1 Tryz.func27) Tryz.func27
def qbI:FIn:=⟨[(.int .i64)],[]⟩
def qbT:List FOut:=[⟨.bool,[],none⟩]
noncomputable def qnF:=qe [] [(103,Tryz.f103)] [] 0
noncomputable def jK:=qp qnF 103 Tryz.f103 true qbI qbT
theorem qgA:qS Tryz.prog qa 103 (q9 qbI qbT jK):=sk qnF qc q8 aln aln (b1 Tryz.func103) Tryz.func103
def qfj:FIn:=⟨[(.agg [(.int .i64),(.int .i64),(.int .i64),(.int .i64),(.int .i64),(.int .i64),.bool])],[]⟩
def qeT:List FOut:=[⟨(.int .i64),[],none⟩]
noncomputable def qlJ:=qe [(27,q9 q9e qa0 yS),(103,q9 qbI qbT jK)] [(76,Tryz.f76)] [] 0
noncomputable def q2V:=qp qlJ 76 Tryz.f76 true qfj qeT
theorem qoe:qS Tryz.prog qa 76 (q9 qfj qeT q2V):=sk qlJ qc q8 (alc qfC (alc qgA aln)) aln (b1 Tryz.func76) Tryz.func76
def qbO:FIn:=⟨[(.agg [(.int .i64),(.int .i64),(.int .i64),(.int .i64),(.int .i64),(.int .i64),.bool]),(.agg [(.int .i64),(.int .i64),(.int .i64),(.int .i64),(.int .i64),(.int .i64),.bool])],[]⟩
def qbH:List FOut:=[⟨(.int .i64),[],none⟩]
noncomputable def qnu:=qe [(76,q9 qfj qeT q2V)] [(46,Tryz.f46)] [] 0
noncomputable def q5n:=qp qnu 46 Tryz.f46 true qbO qbH
theorem qhb:qS Tryz.prog qa 46 (q9 qbO qbH q5n):=sk qnu qc q8 (alc qoe aln) aln (b1 Tryz.func46) Tryz.func46
def qa2:FIn:=⟨[(.agg [(.imm [(.int .i64),(.int .i64),(.int .i64),(.int .i64),(.int .i64),(.int .i64),.bool]),(.imm [(.int .i64),(.int .i64),(.int .i64),(.int .i64),(.int .i64),(.int .i64),.bool])])],[]⟩
def q9z:List FOut:=[⟨(.int .i64),[],none⟩]
def q8A:Tmpl:={ t:=(.any::(.ptr 0 0)::.any::(.int .i64)::qA 37 []),h:=[.cells [(.imm [(.int .i64),(.int .i64),(.int .i64),(.int .i64),(.int .i64),(.int .i64),.bool]),(.imm [(.int .i64),(.int .i64),(.int .i64),(.int .i64),(.int .i64),(.int .i64),.bool])]] }
def q8U:List Out:=[⟨(.exit 0),{ t:=(qA 41 []),h:=[] }⟩,⟨.ret,{ t:=(.any::.any::(.int .i64)::qA 38 []),h:=[] }⟩]
noncomputable def q4Q:=qe [(46,q9 qbO qbH q5n)] [(17,Tryz.f17)] [] 0
noncomputable def q1A:=wD q4Q 17 Tryz.f17 12 q8A q8U
theorem qjy:qm Tryz.prog qa q4Q.nimp (qx Tryz.prog q4Q.iter 17) (zb Tryz.f17 12) (qj q8A q8U (qg q1A)):=
 gk q4Q qc q8 (alc qhb aln) aln (b1 Tryz.func17) Tryz.func17
noncomputable def qlo:=qe [(46,q9 qbO qbH q5n)] [(17,Tryz.f17)] [((17,12),qj q8A q8U (qg q1A))] 0
noncomputable def q31:=qp qlo 17 Tryz.f17 true qa2 q9z
theorem qg7:qS Tryz.prog qa 17 (q9 qa2 q9z q31):=sk qlo qc q8 (alc qhb aln) (alc (lk Tryz.func17 qjy) aln) (b1 Tryz.func17) Tryz.func17
def qbJ:FIn:=⟨[(.agg [(.int .i64),(.int .i64),(.int .i64)])],[]⟩
def qcj:List FOut:=[⟨(.int .i64),[],none⟩]
noncomputable def qnm:=qe [(27,q9 q9e qa0 yS),(103,q9 qbI qbT jK)] [(79,Tryz.f79)] [] 0
noncomputable def q2L:=qp qnm 79 Tryz.f79 true qbJ qcj
theorem qgl:qS Tryz.prog qa 79 (q9 qbJ qcj q2L):=sk qnm qc q8 (alc qfC (alc qgA aln)) aln (b1 Tryz.func79) Tryz.func79
def q7t:FIn:=⟨[(.agg [(.int .i64),(.int .i64),(.int .i64),(.int .i64),(.int .i64),(.int .i64),.bool]),(.int .i64)],[]⟩
def q7p:List FOut:=[⟨.bool,[],none⟩]
noncomputable def qiA:=qe [] [(80,Tryz.f80)] [] 0
noncomputable def q00:=qp qiA 80 Tryz.f80 true q7t q7p
theorem qdH:qS Tryz.prog qa 80 (q9 q7t q7p q00):=sk qiA qc q8 aln aln (b1 Tryz.func80) Tryz.func80
def q5U:FIn:=⟨[(.agg [(.imm [(.int .i64),(.int .i64),(.int .i64),(.int .i64),(.int .i64),(.int .i64),.bool]),(.imm [(.int .i64),(.int .i64),(.int .i64),(.int .i64),(.int .i64),(.int .i64),.bool])]),(.agg [(.imm [(.int .i64),(.int .i64),(.int .i64)]),(.imm [(.int .i64),(.int .i64),(.int .i64)])])],[]⟩
def q5X:List FOut:=[⟨(.int .i64),[],none⟩]
def q8j:Tmpl:={ t:=(.any::.any::(.ptr 0 0)::(.ptr 1 0)::.any::.any::(.int .i64)::qA 76 []),h:=[.cells [(.imm [(.int .i64),(.int .i64),(.int .i64),(.int .i64),(.int .i64),(.int .i64),.bool]),(.imm [(.int .i64),(.int .i64),(.int .i64),(.int .i64),(.int .i64),(.int .i64),.bool])],.cells [(.imm [(.int .i64),(.int .i64),(.int .i64)]),(.imm [(.int .i64),(.int .i64),(.int .i64)])]] }
def q8K:List Out:=[⟨(.exit 0),{ t:=(qA 83 []),h:=[] }⟩,⟨.ret,{ t:=(qA 4 ((.int .i64)::qA 78 [])),h:=[] }⟩]
noncomputable def q4L:=qe [(17,q9 qa2 q9z q31),(79,q9 qbJ qcj q2L),(80,q9 q7t q7p q00)] [(51,Tryz.f51)] [] 0
noncomputable def q1r:=wD q4L 51 Tryz.f51 10 q8j q8K
theorem qk6:qm Tryz.prog qa q4L.nimp (qx Tryz.prog q4L.iter 51) (zb Tryz.f51 10) (qj q8j q8K (qg q1r)):=
 gk q4L qc q8 (alc qg7 (alc qgl (alc qdH aln))) aln (b1 Tryz.func51) Tryz.func51
noncomputable def qkB:=qe [(17,q9 qa2 q9z q31),(79,q9 qbJ qcj q2L),(80,q9 q7t q7p q00)] [(51,Tryz.f51)] [((51,10),qj q8j q8K (qg q1r))] 0
noncomputable def yX:=qp qkB 51 Tryz.f51 true q5U q5X
theorem q8H:qS Tryz.prog qa 51 (q9 q5U q5X yX):=sk qkB qc q8 (alc qg7 (alc qgl (alc qdH aln))) (alc (lk Tryz.func51 qk6) aln) (b1 Tryz.func51) Tryz.func51
def qjR:FIn:=⟨[(.agg [(.imm [(.int .i64),(.int .i64),(.int .i64),(.int .i64),(.int .i64),(.int .i64),.bool]),(.imm [(.int .i64),(.int .i64),(.int .i64),(.int .i64),(.int .i64),(.int .i64),.bool])]),(.agg [(.imm [(.int .i64),(.int .i64),(.int .i64)]),(.imm [(.int .i64),(.int .i64),(.int .i64)])])],[]⟩
def qk3:List FOut:=[⟨.bool,[],none⟩]
noncomputable def qqK:=qe [(51,q9 q5U q5X yX)] [(47,Tryz.f47)] [] 0
noncomputable def qaF:=qp qqK 47 Tryz.f47 true qjR qk3
theorem qrC:qS Tryz.prog qa 47 (q9 qjR qk3 qaF):=sk qqK qc q8 (alc q8H aln) aln (b1 Tryz.func47) Tryz.func47
def qjB:FIn:=⟨[(.agg [(.imm [(.int .i64),(.int .i64),(.int .i64),(.int .i64),(.int .i64),(.int .i64),.bool]),(.imm [(.int .i64),(.int .i64),(.int .i64),(.int .i64),(.int .i64),(.int .i64),.bool])]),(.agg [(.imm [(.int .i64),(.int .i64),(.int .i64)]),(.imm [(.int .i64),(.int .i64),(.int .i64)])])],[]⟩
def qk7:List FOut:=[⟨.bool,[],none⟩]
noncomputable def qp5:=qe [(47,q9 qjR qk3 qaF)] [(19,Tryz.f19)] [] 0
noncomputable def qbc:=qp qp5 19 Tryz.f19 true qjB qk7
theorem qrl:qS Tryz.prog qa 19 (q9 qjB qk7 qbc):=sk qp5 qc q8 (alc qrC aln) aln (b1 Tryz.func19) Tryz.func19
def q5k:FIn:=⟨[(.agg [(.imm [(.int .i64),(.int .i64),(.int .i64),(.int .i64),(.int .i64),(.int .i64),.bool]),(.imm [(.int .i64),(.int .i64),(.int .i64),(.int .i64),(.int .i64),(.int .i64),.bool])]),(.agg [(.imm [(.int .i64),(.int .i64),(.int .i64)]),(.imm [(.int .i64),(.int .i64),(.int .i64)])]),(.int .i64)],[]⟩
def q5m:List FOut:=[⟨(.int .i64),[],none⟩]
noncomputable def qnV:=qe [] [(63,Tryz.f63)] [] 0
noncomputable def kd:=qp qnV 63 Tryz.f63 true q5k q5m
theorem q5L:qS Tryz.prog qa 63 (q9 q5k q5m kd):=sk qnV qc q8 aln aln (b1 Tryz.func63) Tryz.func63
def q9l:FIn:=⟨[(.agg [(.int .i64),(.int .i64)]),(.agg [(.int .i64),(.int .i64)])],[]⟩
def q9B:List FOut:=[⟨(.agg [(.int .i64),(.int .i64)]),[],none⟩]
noncomputable def qlq:=qe [] [(62,Tryz.f62)] [] 0
noncomputable def q6a:=qp qlq 62 Tryz.f62 true q9l q9B
theorem qfJ:qS Tryz.prog qa 62 (q9 q9l q9B q6a):=sk qlq qc q8 aln aln (b1 Tryz.func62) Tryz.func62
def jl:FIn:=⟨[.str],[]⟩
def ju:List FOut:=[⟨.bool,[],none⟩]
noncomputable def qkX:=qe [] [(126,Tryz.f126)] [] 0
noncomputable def qF:=qp qkX 126 Tryz.f126 true jl ju
theorem j3:qS Tryz.prog qa 126 (q9 jl ju qF):=sk qkX qc q8 aln aln (b1 Tryz.func126) Tryz.func126
def jn:FIn:=⟨[.str,.bool],[]⟩
def jz:List FOut:=[⟨.str,[],none⟩]
noncomputable def qiu:=qe [] [(151,Tryz.f151)] [] 0
noncomputable def qN:=qp qiu 151 Tryz.f151 true jn jz
theorem jg:qS Tryz.prog qa 151 (q9 jn jz qN):=sk qiu qc q8 aln aln (b1 Tryz.func151) Tryz.func151
def j2:FIn:=⟨[.str],[]⟩
def j0:List FOut:=[⟨.str,[],none⟩]
noncomputable def qnh:=qe [] [(152,Tryz.f152)] [] 0
noncomputable def qz:=qp qnh 152 Tryz.f152 true j2 j0
theorem wR:qS Tryz.prog qa 152 (q9 j2 j0 qz):=sk qnh qc q8 aln aln (b1 Tryz.func152) Tryz.func152
def u9:FIn:=⟨[.str],[]⟩
def ud:List FOut:=[⟨.str,[],none⟩]
noncomputable def qiU:=qe [(126,q9 jl ju qF),(151,q9 jn jz qN),(152,q9 j2 j0 qz)] [(124,Tryz.f124)] [] 0
noncomputable def zM:=qp qiU 124 Tryz.f124 true u9 ud
theorem ue:qS Tryz.prog qa 124 (q9 u9 ud zM):=sk qiU qc q8 (alc j3 (alc jg (alc wR aln))) aln (b1 Tryz.func124) Tryz.func124
def qeN:FIn:=⟨[(.int .i64)],[]⟩
def qeE:List FOut:=[⟨.str,[],none⟩]
def qeQ:Tmpl:={ t:=((.int .i64)::.any::.any::.str::qA 33 []),h:=[] }
def qeh:List Out:=[⟨(.exit 0),{ t:=((.int .i64)::.any::.any::.str::qA 33 []),h:=[] }⟩]
noncomputable def q9G:=qe [(124,q9 u9 ud zM)] [] [] 0
noncomputable def q5T:=wD q9G 94 Tryz.f94 9 qeQ qeh
theorem qnZ:qm Tryz.prog qa q9G.nimp (qx Tryz.prog q9G.iter 94) (zb Tryz.f94 9) (qj qeQ qeh (qg q5T)):=
 gk q9G qc q8 (alc ue aln) aln aln Tryz.func94
noncomputable def qqw:=qe [(124,q9 u9 ud zM)] [] [((94,9),qj qeQ qeh (qg q5T))] 0
noncomputable def q4X:=qp qqw 94 Tryz.f94 true qeN qeE
theorem qiN:qS Tryz.prog qa 94 (q9 qeN qeE q4X):=sk qqw qc q8 (alc ue aln) (alc (lk Tryz.func94 qnZ) aln) aln Tryz.func94
def q1W:FIn:=⟨[(.int .i64)],[]⟩
def q1U:List FOut:=[⟨.str,[],none⟩]
def qgm:Tmpl:={ t:=((.int .i64)::.any::.any::.str::qA 33 []),h:=[] }
def qgF:List Out:=[⟨(.exit 0),{ t:=((.int .i64)::.any::.any::.str::qA 33 []),h:=[] }⟩]
noncomputable def qcb:=qe [(94,q9 qeN qeE q4X),(124,q9 u9 ud zM)] [] [] 0
noncomputable def q7J:=wD qcb 94 Tryz.f94 9 qgm qgF
theorem qqj:qm Tryz.prog qa qcb.nimp (qx Tryz.prog qcb.iter 94) (zb Tryz.f94 9) (qj qgm qgF (qg q7J)):=
 gk qcb qc q8 (alc qiN (alc ue aln)) aln aln Tryz.func94
noncomputable def qsg:=qe [(94,q9 qeN qeE q4X),(124,q9 u9 ud zM)] [] [((94,9),qj qgm qgF (qg q7J))] 0
noncomputable def zd:=qp qsg 94 Tryz.f94 true q1W q1U
theorem kq:qS Tryz.prog qa 94 (q9 q1W q1U zd):=sk qsg qc q8 (alc qiN (alc ue aln)) (alc (lk Tryz.func94 qqj) aln) aln Tryz.func94
def q99:FIn:=⟨[(.int .i64)],[]⟩
def qa1:List FOut:=[⟨.str,[],none⟩]
noncomputable def qly:=qe [(94,q9 q1W q1U zd)] [(64,Tryz.f64)] [] 0
noncomputable def q1l:=qp qly 64 Tryz.f64 true q99 qa1
theorem qfX:qS Tryz.prog qa 64 (q9 q99 qa1 q1l):=sk qly qc q8 (alc kq aln) aln (b1 Tryz.func64) Tryz.func64
def qcx:FIn:=⟨[.str],[]⟩
def qcW:List FOut:=[⟨(.int .i64),[],none⟩]
def q8q:Tmpl:={ t:=(.str::.any::.any::(.int .i64)::.str::(.int .i64)::qA 21 []),h:=[] }
def q8x:List Out:=[⟨(.exit 0),{ t:=(.str::.any::.any::(.int .i64)::qA 23 []),h:=[] }⟩]
noncomputable def q4u:=qe [(126,q9 jl ju qF),(152,q9 j2 j0 qz)] [(184,Tryz.f184)] [] 0
noncomputable def uU:=wD q4u 184 Tryz.f184 4 q8q q8x
theorem qjO:qm Tryz.prog qa q4u.nimp (qx Tryz.prog q4u.iter 184) (zb Tryz.f184 4) (qj q8q q8x (qg uU)):=
 gk q4u qc q8 (alc j3 (alc wR aln)) aln (b1 Tryz.func184) Tryz.func184
noncomputable def qiy:=qe [(126,q9 jl ju qF),(152,q9 j2 j0 qz)] [(184,Tryz.f184)] [((184,4),qj q8q q8x (qg uU))] 0
noncomputable def u5:=qp qiy 184 Tryz.f184 true qcx qcW
theorem qmf:qS Tryz.prog qa 184 (q9 qcx qcW u5):=sk qiy qc q8 (alc j3 (alc wR aln)) (alc (lk Tryz.func184 qjO) aln) (b1 Tryz.func184) Tryz.func184
def uY:FIn:=⟨[.str,.str],[]⟩
def kj:List FOut:=[⟨(.tuple [(.int .i64),(.int .i64),.bool]),[],none⟩]
noncomputable def qlL:=qe [(152,q9 j2 j0 qz),(184,q9 qcx qcW u5)] [(153,Tryz.f153)] [] 0
noncomputable def wj:=qp qlL 153 Tryz.f153 true uY kj
theorem uT:qS Tryz.prog qa 153 (q9 uY kj wj):=sk qlL qc q8 (alc wR (alc qmf aln)) aln (b1 Tryz.func153) Tryz.func153
def jG:FIn:=⟨[.str],[]⟩
def jP:List FOut:=[⟨.str,[],none⟩]
def qct:Tmpl:={ t:=(.str::qA 13 []),h:=[] }
def qd0:List Out:=[⟨(.exit 0),{ t:=(.str::qA 13 []),h:=[] }⟩]
noncomputable def q7w:=qe [] [(185,Tryz.f185)] [] 0
noncomputable def q45:=wD q7w 185 Tryz.f185 2 qct qd0
theorem qmu:qm Tryz.prog qa q7w.nimp (qx Tryz.prog q7w.iter 185) (zb Tryz.f185 2) (qj qct qd0 (qg q45)):=
 gk q7w qc q8 aln aln (b1 Tryz.func185) Tryz.func185
noncomputable def qni:=qe [] [(185,Tryz.f185)] [((185,2),qj qct qd0 (qg q45))] 0
noncomputable def zQ:=qp qni 185 Tryz.f185 true jG jP
theorem vM:qS Tryz.prog qa 185 (q9 jG jP zQ):=sk qni qc q8 aln (alc (lk Tryz.func185 qmu) aln) (b1 Tryz.func185) Tryz.func185
def q5e:FIn:=⟨[.str,.str],[]⟩
def q5d:List FOut:=[⟨.bool,[],none⟩]
noncomputable def qnq:=qe [] [(186,Tryz.f186)] [] 0
noncomputable def ka:=qp qnq 186 Tryz.f186 true q5e q5d
theorem q5Y:qS Tryz.prog qa 186 (q9 q5e q5d ka):=sk qnq qc q8 aln aln (b1 Tryz.func186) Tryz.func186
def qcr:FIn:=⟨[.str,(.int .i64)],[]⟩
def qco:List FOut:=[⟨.str,[],none⟩]
def qcG:Tmpl:={ t:=(.str::(.int .i64)::.any::.any::.any::(.vec 0)::(.int .i64)::qA 20 []),h:=[.vec 5 [(.int .u8)]] }
def qcQ:List Out:=[⟨(.exit 0),{ t:=(.str::(.int .i64)::.any::.any::.any::(.vec 0)::qA 21 []),h:=[.vec 5 [(.int .u8)]] }⟩]
noncomputable def q7r:=qe [] [(216,Tryz.f216)] [] 0
noncomputable def q1X:=wD q7r 216 Tryz.f216 4 qcG qcQ
theorem qmj:qm Tryz.prog qa q7r.nimp (qx Tryz.prog q7r.iter 216) (zb Tryz.f216 4) (qj qcG qcQ (qg q1X)):=
 gk q7r qc q8 aln aln (b1 Tryz.func216) Tryz.func216
noncomputable def qnr:=qe [] [(216,Tryz.f216)] [((216,4),qj qcG qcQ (qg q1X))] 0
noncomputable def q2y:=qp qnr 216 Tryz.f216 true qcr qco
theorem qhF:qS Tryz.prog qa 216 (q9 qcr qco q2y):=sk qnr qc q8 aln (alc (lk Tryz.func216 qmj) aln) (b1 Tryz.func216) Tryz.func216
def q7q:FIn:=⟨[(.int .u8),(.int .u8),(.int .i64),.bool],[]⟩
def q7z:List FOut:=[⟨(.tuple [(.int .u8),(.int .i64)]),[],none⟩]
noncomputable def qiV:=qe [] [(217,Tryz.f217)] [] 0
noncomputable def q1P:=qp qiV 217 Tryz.f217 true q7q q7z
theorem qdW:qS Tryz.prog qa 217 (q9 q7q q7z q1P):=sk qiV qc q8 aln aln (b1 Tryz.func217) Tryz.func217
def q3l:FIn:=⟨[.str,.str,.bool],[]⟩
def q3m:List FOut:=[⟨.str,[],none⟩]
def qar:Tmpl:={ t:=(.str::.str::.bool::qA 5 ((.vec 0)::(.int .i64)::(.int .i64)::qA 38 [])),h:=[.vec 5 [(.int .u8)]] }
def qbk:List Out:=[⟨(.exit 0),{ t:=(qA 8 ((.vec 0)::qA 40 [])),h:=[.vec 5 [(.int .u8)]] }⟩]
noncomputable def q63:=qe [(185,q9 jG jP zQ),(216,q9 qcr qco q2y),(217,q9 q7q q7z q1P)] [(187,Tryz.f187)] [] 0
noncomputable def q0i:=wD q63 187 Tryz.f187 7 qar qbk
theorem qls:qm Tryz.prog qa q63.nimp (qx Tryz.prog q63.iter 187) (zb Tryz.f187 7) (qj qar qbk (qg q0i)):=
 gk q63 qc q8 (alc vM (alc qhF (alc qdW aln))) aln (b1 Tryz.func187) Tryz.func187
noncomputable def qm7:=qe [(185,q9 jG jP zQ),(216,q9 qcr qco q2y),(217,q9 q7q q7z q1P)] [(187,Tryz.f187)] [((187,7),qj qar qbk (qg q0i))] 0
noncomputable def vF:=qp qm7 187 Tryz.f187 true q3l q3m
theorem q4t:qS Tryz.prog qa 187 (q9 q3l q3m vF):=sk qm7 qc q8 (alc vM (alc qhF (alc qdW aln))) (alc (lk Tryz.func187 qls) aln) (b1 Tryz.func187) Tryz.func187
def qbh:FIn:=⟨[.str,.str],[]⟩
def qbt:List FOut:=[⟨(.tuple [.str,.str]),[],none⟩]
def q5F:Tmpl:={ t:=(.str::.str::qA 4 (.str::.str::(.int .i64)::(.int .u8)::qA 31 [])),h:=[] }
def q5I:List Out:=[⟨(.exit 2),{ t:=(.str::.str::qA 4 (.str::.str::(.int .i64)::(.int .u8)::qA 31 [])),h:=[] }⟩]
noncomputable def q2l:=qe [(185,q9 jG jP zQ),(186,q9 q5e q5d ka),(187,q9 q3l q3m vF)] [(154,Tryz.f154)] [] 0
noncomputable def yh:=wD q2l 154 Tryz.f154 11 q5F q5I
theorem qh2:qm Tryz.prog qa q2l.nimp (qx Tryz.prog q2l.iter 154) (zb Tryz.f154 11) (qj q5F q5I (qg yh)):=
 gk q2l qc q8 (alc vM (alc q5Y (alc q4t aln))) aln (b1 Tryz.func154) Tryz.func154
def q7i:Tmpl:={ t:=(.str::.str::qA 4 (.str::.str::(.int .i64)::qA 32 [])),h:=[] }
def q73:List Out:=[⟨(.exit 0),{ t:=(qA 6 (.str::.str::qA 33 [])),h:=[] }⟩]
noncomputable def q3e:=qe [(185,q9 jG jP zQ),(186,q9 q5e q5d ka),(187,q9 q3l q3m vF)] [(154,Tryz.f154)] [((154,11),qj q5F q5I (qg yh))] 0
noncomputable def q0q:=wD q3e 154 Tryz.f154 4 q7i q73
theorem qio:qm Tryz.prog qa q3e.nimp (qx Tryz.prog q3e.iter 154) (zb Tryz.f154 4) (qj q7i q73 (qg q0q)):=
 gk q3e qc q8 (alc vM (alc q5Y (alc q4t aln))) (alc (lk Tryz.func154 qh2) aln) (b1 Tryz.func154) Tryz.func154
noncomputable def qhu:=qe [(185,q9 jG jP zQ),(186,q9 q5e q5d ka),(187,q9 q3l q3m vF)] [(154,Tryz.f154)] [((154,4),qj q7i q73 (qg q0q))] 0
noncomputable def q2K:=qp qhu 154 Tryz.f154 true qbh qbt
theorem qkm:qS Tryz.prog qa 154 (q9 qbh qbt q2K):=sk qhu qc q8 (alc vM (alc q5Y (alc q4t aln))) (alc (lk Tryz.func154 qio) aln) (b1 Tryz.func154) Tryz.func154
def qc8:FIn:=⟨[.str,.str],[]⟩
def qbM:List FOut:=[⟨.str,[],none⟩]
noncomputable def qnR:=qe [(94,q9 q1W q1U zd),(126,q9 jl ju qF),(151,q9 jn jz qN),(152,q9 j2 j0 qz),(153,q9 uY kj wj),(186,q9 q5e q5d ka),(187,q9 q3l q3m vF)] [(174,Tryz.f174)] [] 0
noncomputable def q2R:=qp qnR 174 Tryz.f174 true qc8 qbM
theorem qgN:qS Tryz.prog qa 174 (q9 qc8 qbM q2R):=sk qnR qc q8 (alc kq (alc j3 (alc jg (alc wR (alc uT (alc q5Y (alc q4t aln))))))) aln (b1 Tryz.func174) Tryz.func174
def q6o:FIn:=⟨[.str,.str],[]⟩
def q5Q:List FOut:=[⟨.str,[],none⟩]
noncomputable def ql7:=qe [(124,q9 u9 ud zM),(174,q9 qc8 qbM q2R)] [(155,Tryz.f155)] [] 0
noncomputable def wT:=qp ql7 155 Tryz.f155 true q6o q5Q
theorem q8P:qS Tryz.prog qa 155 (q9 q6o q5Q wT):=sk ql7 qc q8 (alc ue (alc qgN aln)) aln (b1 Tryz.func155) Tryz.func155
def qbu:FIn:=⟨[.str,.str],[]⟩
def qbb:List FOut:=[⟨.str,[],none⟩]
def q76:Tmpl:={ t:=(.str::.str::.any::.any::.any::(.vec 0)::(.int .i64)::(.int .i64)::qA 69 []),h:=[.vec 3 [(.int .i64)]] }
def q6Q:List Out:=[⟨(.exit 2),{ t:=(.str::.str::.any::.any::.any::(.vec 0)::(.int .i64)::qA 70 []),h:=[.vec 3 [(.int .i64)]] }⟩]
noncomputable def q2X:=qe [(185,q9 jG jP zQ)] [(188,Tryz.f188)] [] 0
noncomputable def um:=wD q2X 188 Tryz.f188 9 q76 q6Q
theorem qij:qm Tryz.prog qa q2X.nimp (qx Tryz.prog q2X.iter 188) (zb Tryz.f188 9) (qj q76 q6Q (qg um)):=
 gk q2X qc q8 (alc vM aln) aln (b1 Tryz.func188) Tryz.func188
def q6Z:Tmpl:={ t:=(.str::.str::.any::.any::.any::(.vec 0)::(.int .i64)::qA 70 []),h:=[.vec 3 [(.int .i64)]] }
def q6U:List Out:=[⟨(.exit 0),{ t:=(qA 5 ((.vec 0)::qA 71 [])),h:=[.vec 3 [(.int .i64)]] }⟩]
noncomputable def q3c:=qe [(185,q9 jG jP zQ)] [(188,Tryz.f188)] [((188,9),qj q76 q6Q (qg um))] 0
noncomputable def uk:=wD q3c 188 Tryz.f188 4 q6Z q6U
theorem qic:qm Tryz.prog qa q3c.nimp (qx Tryz.prog q3c.iter 188) (zb Tryz.f188 4) (qj q6Z q6U (qg uk)):=
 gk q3c qc q8 (alc vM aln) (alc (lk Tryz.func188 qij) aln) (b1 Tryz.func188) Tryz.func188
def q61:Tmpl:={ t:=(qA 5 ((.vec 0)::.any::.any::(.vec 1)::(.int .i64)::(.int .i64)::qA 66 [])),h:=[.vec 3 [(.int .i64)],.vec 5 [(.int .u8)]] }
def q5N:List Out:=[⟨(.exit 4),{ t:=(qA 8 ((.vec 1)::qA 68 [])),h:=[.dead,.vec 5 [(.int .u8)]] }⟩]
noncomputable def q2c:=qe [(185,q9 jG jP zQ)] [(188,Tryz.f188)] [] 0
noncomputable def jV:=wD q2c 188 Tryz.f188 17 q61 q5N
theorem qhc:qm Tryz.prog qa q2c.nimp (qx Tryz.prog q2c.iter 188) (zb Tryz.f188 17) (qj q61 q5N (qg jV)):=
 gk q2c qc q8 (alc vM aln) aln (b1 Tryz.func188) Tryz.func188
noncomputable def qhq:=qe [(185,q9 jG jP zQ)] [(188,Tryz.f188)] [((188,4),qj q6Z q6U (qg uk)),((188,17),qj q61 q5N (qg jV))] 0
noncomputable def q0J:=qp qhq 188 Tryz.f188 true qbu qbb
theorem qlb:qS Tryz.prog qa 188 (q9 qbu qbb q0J):=sk qhq qc q8 (alc vM aln) (alc (lk Tryz.func188 qic) (alc (lk Tryz.func188 qhc) aln)) (b1 Tryz.func188) Tryz.func188
def q9j:FIn:=⟨[.str,.str],[]⟩
def q9W:List FOut:=[⟨.str,[],none⟩]
noncomputable def qlh:=qe [(94,q9 q1W q1U zd),(126,q9 jl ju qF),(151,q9 jn jz qN),(152,q9 j2 j0 qz),(153,q9 uY kj wj),(188,q9 qbu qbb q0J)] [(156,Tryz.f156)] [] 0
noncomputable def wl:=qp qlh 156 Tryz.f156 true q9j q9W
theorem qfv:qS Tryz.prog qa 156 (q9 q9j q9W wl):=sk qlh qc q8 (alc kq (alc j3 (alc jg (alc wR (alc uT (alc qlb aln)))))) aln (b1 Tryz.func156) Tryz.func156
def q1V:FIn:=⟨[.str,.str],[]⟩
def q1T:List FOut:=[⟨(.tuple [.str,.str]),[],none⟩]
noncomputable def qix:=qe [(94,q9 q1W q1U zd),(126,q9 jl ju qF),(151,q9 jn jz qN),(152,q9 j2 j0 qz),(153,q9 uY kj wj),(154,q9 qbh qbt q2K),(155,q9 q6o q5Q wT),(156,q9 q9j q9W wl)] [(127,Tryz.f127)] [] 0
noncomputable def wg:=qp qix 127 Tryz.f127 true q1V q1T
theorem q3B:qS Tryz.prog qa 127 (q9 q1V q1T wg):=sk qix qc q8 (alc kq (alc j3 (alc jg (alc wR (alc uT (alc qkm (alc q8P (alc qfv aln)))))))) aln (b1 Tryz.func127) Tryz.func127
def qdd:FIn:=⟨[.str,.str],[]⟩
def qd2:List FOut:=[⟨.str,[],none⟩]
def q7c:Tmpl:={ t:=(qA 5 ((.int .i64)::(.int .i64)::qA 36 [])),h:=[] }
def q6Y:List Out:=[⟨(.exit 2),{ t:=(qA 5 ((.int .i64)::qA 37 [])),h:=[] }⟩]
noncomputable def q3i:=qe [(94,q9 q1W q1U zd),(127,q9 q1V q1T wg),(151,q9 jn jz qN),(152,q9 j2 j0 qz),(153,q9 uY kj wj)] [(125,Tryz.f125)] [] 0
noncomputable def ul:=wD q3i 125 Tryz.f125 10 q7c q6Y
theorem qip:qm Tryz.prog qa q3i.nimp (qx Tryz.prog q3i.iter 125) (zb Tryz.f125 10) (qj q7c q6Y (qg ul)):=
 gk q3i qc q8 (alc kq (alc q3B (alc jg (alc wR (alc uT aln))))) aln (b1 Tryz.func125) Tryz.func125
def q8i:Tmpl:={ t:=(.str::.str::qA 41 []),h:=[] }
def q8E:List Out:=[⟨(.exit 0),{ t:=(.str::qA 42 []),h:=[] }⟩,⟨.ret,{ t:=(qA 4 (.str::qA 38 [])),h:=[] }⟩]
noncomputable def q4J:=qe [(94,q9 q1W q1U zd),(127,q9 q1V q1T wg),(151,q9 jn jz qN),(152,q9 j2 j0 qz),(153,q9 uY kj wj)] [(125,Tryz.f125)] [((125,10),qj q7c q6Y (qg ul))] 0
noncomputable def q1C:=wD q4J 125 Tryz.f125 3 q8i q8E
theorem qjC:qm Tryz.prog qa q4J.nimp (qx Tryz.prog q4J.iter 125) (zb Tryz.f125 3) (qj q8i q8E (qg q1C)):=
 gk q4J qc q8 (alc kq (alc q3B (alc jg (alc wR (alc uT aln))))) (alc (lk Tryz.func125 qip) aln) (b1 Tryz.func125) Tryz.func125
noncomputable def qiS:=qe [(94,q9 q1W q1U zd),(127,q9 q1V q1T wg),(151,q9 jn jz qN),(152,q9 j2 j0 qz),(153,q9 uY kj wj)] [(125,Tryz.f125)] [((125,3),qj q8i q8E (qg q1C))] 0
noncomputable def q4q:=qp qiS 125 Tryz.f125 true qdd qd2
theorem qmV:qS Tryz.prog qa 125 (q9 qdd qd2 q4q):=sk qiS qc q8 (alc kq (alc q3B (alc jg (alc wR (alc uT aln))))) (alc (lk Tryz.func125 qjC) aln) (b1 Tryz.func125) Tryz.func125
def ku:FIn:=⟨[.str,.str],[]⟩
def kY:List FOut:=[⟨.str,[],none⟩]
noncomputable def qit:=qe [(124,q9 u9 ud zM),(125,q9 qdd qd2 q4q),(126,q9 jl ju qF),(127,q9 q1V q1T wg)] [(95,Tryz.f95)] [] 0
noncomputable def zN:=qp qit 95 Tryz.f95 true ku kY
theorem q0S:qS Tryz.prog qa 95 (q9 ku kY zN):=sk qit qc q8 (alc ue (alc qmV (alc j3 (alc q3B aln)))) aln (b1 Tryz.func95) Tryz.func95
def qc5:FIn:=⟨[(.int .i64),(.int .i64)],[]⟩
def qbX:List FOut:=[⟨.str,[],none⟩]
noncomputable def qnt:=qe [(94,q9 q1W q1U zd),(95,q9 ku kY zN)] [(65,Tryz.f65)] [] 0
noncomputable def q5j:=qp qnt 65 Tryz.f65 true qc5 qbX
theorem qhw:qS Tryz.prog qa 65 (q9 qc5 qbX q5j):=sk qnt qc q8 (alc kq (alc q0S aln)) aln (b1 Tryz.func65) Tryz.func65
def q9M:FIn:=⟨[(.agg [(.imm [(.int .i64),(.int .i64),(.int .i64),(.int .i64),(.int .i64),(.int .i64),.bool]),(.imm [(.int .i64),(.int .i64),(.int .i64),(.int .i64),(.int .i64),(.int .i64),.bool])]),(.agg [(.imm [(.int .i64),(.int .i64),(.int .i64)]),(.imm [(.int .i64),(.int .i64),(.int .i64)])])],[]⟩
def q9d:List FOut:=[⟨(.imm [.str,.str,.str]),[],none⟩]
def qaB:Tmpl:={ t:=(.any::.any::(.ptr 0 0)::(.ptr 1 0)::.any::(.vec 2)::(.int .i64)::qA 42 []),h:=[.cells [(.imm [(.int .i64),(.int .i64),(.int .i64),(.int .i64),(.int .i64),(.int .i64),.bool]),(.imm [(.int .i64),(.int .i64),(.int .i64),(.int .i64),(.int .i64),(.int .i64),.bool])],.cells [(.imm [(.int .i64),(.int .i64),(.int .i64)]),(.imm [(.int .i64),(.int .i64),(.int .i64)])],.vec 118 [.str,.str,.str]],pro:=[(5,118,[.str,.str,.str])] }
def qaC:List Out:=[⟨(.exit 0),{ t:=(qA 5 ((.vec 2)::qA 43 [])),h:=[.dead,.dead,.vec 118 [.str,.str,.str]] }⟩]
noncomputable def q6s:=qe [(62,q9 q9l q9B q6a),(63,q9 q5k q5m kd),(64,q9 q99 qa1 q1l),(65,q9 qc5 qbX q5j)] [(30,Tryz.f30)] [] 0
noncomputable def q0F:=wD q6s 30 Tryz.f30 4 qaB qaC
theorem qle:qm Tryz.prog qa q6s.nimp (qx Tryz.prog q6s.iter 30) (zb Tryz.f30 4) (qj qaB qaC (qg q0F)):=
 gk q6s qc q8 (alc qfJ (alc q5L (alc qfX (alc qhw aln)))) aln (b1 Tryz.func30) Tryz.func30
noncomputable def qlg:=qe [(62,q9 q9l q9B q6a),(63,q9 q5k q5m kd),(64,q9 q99 qa1 q1l),(65,q9 qc5 qbX q5j)] [(30,Tryz.f30)] [((30,4),qj qaB qaC (qg q0F))] 0
noncomputable def q1p:=qp qlg 30 Tryz.f30 true q9M q9d
theorem qfB:qS Tryz.prog qa 30 (q9 q9M q9d q1p):=sk qlg qc q8 (alc qfJ (alc q5L (alc qfX (alc qhw aln)))) (alc (lk Tryz.func30 qle) aln) (b1 Tryz.func30) Tryz.func30
def q9N:FIn:=⟨[(.agg [(.imm [(.int .i64),(.int .i64),(.int .i64),(.int .i64),(.int .i64),(.int .i64),.bool]),(.imm [(.int .i64),(.int .i64),(.int .i64),(.int .i64),(.int .i64),(.int .i64),.bool])]),(.agg [(.imm [(.int .i64),(.int .i64),(.int .i64)]),(.imm [(.int .i64),(.int .i64),(.int .i64)])])],[]⟩
def q9u:List FOut:=[⟨(.int .i64),[],none⟩]
def qaP:Tmpl:={ t:=(.any::.any::(.ptr 0 0)::(.ptr 1 0)::.any::(.int .i64)::qA 13 []),h:=[.cells [(.imm [(.int .i64),(.int .i64),(.int .i64),(.int .i64),(.int .i64),(.int .i64),.bool]),(.imm [(.int .i64),(.int .i64),(.int .i64),(.int .i64),(.int .i64),(.int .i64),.bool])],.cells [(.imm [(.int .i64),(.int .i64),(.int .i64)]),(.imm [(.int .i64),(.int .i64),(.int .i64)])]] }
def qbi:List Out:=[⟨(.exit 0),{ t:=(qA 19 []),h:=[] }⟩,⟨.ret,{ t:=(qA 4 ((.int .i64)::qA 14 [])),h:=[] }⟩]
noncomputable def q64:=qe [(63,q9 q5k q5m kd)] [(55,Tryz.f55)] [] 0
noncomputable def uu:=wD q64 55 Tryz.f55 3 qaP qbi
theorem qlK:qm Tryz.prog qa q64.nimp (qx Tryz.prog q64.iter 55) (zb Tryz.f55 3) (qj qaP qbi (qg uu)):=
 gk q64 qc q8 (alc q5L aln) aln (b1 Tryz.func55) Tryz.func55
noncomputable def qlk:=qe [(63,q9 q5k q5m kd)] [(55,Tryz.f55)] [((55,3),qj qaP qbi (qg uu))] 0
noncomputable def q1f:=qp qlk 55 Tryz.f55 true q9N q9u
theorem qfD:qS Tryz.prog qa 55 (q9 q9N q9u q1f):=sk qlk qc q8 (alc q5L aln) (alc (lk Tryz.func55 qlK) aln) (b1 Tryz.func55) Tryz.func55
def qeG:FIn:=⟨[.str],[]⟩
def qeL:List FOut:=[⟨(.int .i64),[],none⟩]
def qah:Tmpl:={ t:=(.str::.any::.any::(.int .i64)::qA 11 []),h:=[] }
def qav:List Out:=[⟨(.exit 0),{ t:=(qA 15 []),h:=[] }⟩,⟨.ret,{ t:=(.any::.any::(.int .i64)::qA 12 []),h:=[] }⟩]
noncomputable def q5x:=qe [] [(231,Tryz.f231)] [] 0
noncomputable def q2G:=wD q5x 231 Tryz.f231 3 qah qav
theorem qkH:qm Tryz.prog qa q5x.nimp (qx Tryz.prog q5x.iter 231) (zb Tryz.f231 3) (qj qah qav (qg q2G)):=
 gk q5x qc q8 aln aln (b1 Tryz.func231) Tryz.func231
noncomputable def qm6:=qe [] [(231,Tryz.f231)] [((231,3),qj qah qav (qg q2G))] 0
noncomputable def q5O:=qp qm6 231 Tryz.f231 true qeG qeL
theorem qnY:qS Tryz.prog qa 231 (q9 qeG qeL q5O):=sk qm6 qc q8 aln (alc (lk Tryz.func231 qkH) aln) (b1 Tryz.func231) Tryz.func231
def q9Y:FIn:=⟨[.str],[]⟩
def q9C:List FOut:=[⟨(.tuple [.str,.str]),[],none⟩]
noncomputable def qlp:=qe [(231,q9 qeG qeL q5O)] [(205,Tryz.f205)] [] 0
noncomputable def yR:=qp qlp 205 Tryz.f205 true q9Y q9C
theorem qfA:qS Tryz.prog qa 205 (q9 q9Y q9C yR):=sk qlp qc q8 (alc qnY aln) aln (b1 Tryz.func205) Tryz.func205
def uw:FIn:=⟨[.str,.str],[]⟩
def ux:List FOut:=[⟨(.imm [.str]),[],none⟩]
noncomputable def qhd:=qe [(156,q9 q9j q9W wl),(205,q9 q9Y q9C yR)] [(173,Tryz.f173)] [] 0
noncomputable def zv:=qp qhd 173 Tryz.f173 true uw ux
theorem kg:qS Tryz.prog qa 173 (q9 uw ux zv):=sk qhd qc q8 (alc qfv (alc qfA aln)) aln (b1 Tryz.func173) Tryz.func173
def q36:FIn:=⟨[.str,.str],[]⟩
def q37:List FOut:=[⟨.str,[],none⟩]
noncomputable def qkE:=qe [(95,q9 ku kY zN),(155,q9 q6o q5Q wT),(173,q9 uw ux zv)] [(144,Tryz.f144)] [] 0
noncomputable def wt:=qp qkE 144 Tryz.f144 true q36 q37
theorem q4I:qS Tryz.prog qa 144 (q9 q36 q37 wt):=sk qkE qc q8 (alc q0S (alc q8P (alc kg aln))) aln (b1 Tryz.func144) Tryz.func144
end Go.Eng

namespace Go.Eng
open Go.Proofs
def q7m:FIn:=⟨[.str],[]⟩
def q7F:List FOut:=[⟨.str,[],none⟩]
noncomputable def qiR:=qe [(144,q9 q36 q37 wt)] [(138,Tryz.f138)] [] 0
noncomputable def u4:=qp qiR 138 Tryz.f138 true q7m q7F
theorem qdl:qS Tryz.prog qa 138 (q9 q7m q7F u4):=sk qiR qc q8 (alc q4I aln) aln (b1 Tryz.func138) Tryz.func138
def q9R:FIn:=⟨[(.agg [.str,.str]),(.agg [.str,.str])],[]⟩
def q9y:List FOut:=[⟨(.agg [.str,.str]),[],none⟩]
noncomputable def qkD:=qe [(144,q9 q36 q37 wt)] [(139,Tryz.f139)] [] 0
noncomputable def q1n:=qp qkD 139 Tryz.f139 true q9R q9y
theorem qfY:qS Tryz.prog qa 139 (q9 q9R q9y q1n):=sk qkD qc q8 (alc q4I aln) aln (b1 Tryz.func139) Tryz.func139
def q7H:FIn:=⟨[.str,.str],[]⟩
def q81:List FOut:=[⟨.str,[],none⟩]
noncomputable def qnE:=qe [(95,q9 ku kY zN),(173,q9 uw ux zv),(174,q9 qc8 qbM q2R)] [(140,Tryz.f140)] [] 0
noncomputable def jE:=qp qnE 140 Tryz.f140 true q7H q81
theorem qbj:qS Tryz.prog qa 140 (q9 q7H q81 jE):=sk qnE qc q8 (alc q0S (alc kg (alc qgN aln))) aln (b1 Tryz.func140) Tryz.func140
def q3f:FIn:=⟨[.str,.str],[]⟩
def q3b:List FOut:=[⟨.str,[],none⟩]
noncomputable def ql1:=qe [(95,q9 ku kY zN),(173,q9 uw ux zv)] [(142,Tryz.f142)] [] 0
noncomputable def z6:=qp ql1 142 Tryz.f142 true q3f q3b
theorem q4O:qS Tryz.prog qa 142 (q9 q3f q3b z6):=sk ql1 qc q8 (alc q0S (alc kg aln)) aln (b1 Tryz.func142) Tryz.func142
def qev:FIn:=⟨[(.agg [.str,.str]),(.agg [.str,.str])],[]⟩
def qf1:List FOut:=[⟨.str,[],none⟩]
noncomputable def qoQ:=qe [(140,q9 q7H q81 jE),(142,q9 q3f q3b z6)] [(141,Tryz.f141)] [] 0
noncomputable def q1e:=qp qoQ 141 Tryz.f141 true qev qf1
theorem qiY:qS Tryz.prog qa 141 (q9 qev qf1 q1e):=sk qoQ qc q8 (alc qbj (alc q4O aln)) aln (b1 Tryz.func141) Tryz.func141
def qmq:FIn:=⟨[.str,.str],[]⟩
def qmi:List FOut:=[⟨.str,[],none⟩]
noncomputable def qs9:=qe [(95,q9 ku kY zN),(173,q9 uw ux zv)] [(171,Tryz.f171)] [] 0
noncomputable def qa9:=qp qs9 171 Tryz.f171 true qmq qmi
theorem qui:qS Tryz.prog qa 171 (q9 qmq qmi qa9):=sk qs9 qc q8 (alc q0S (alc kg aln)) aln (b1 Tryz.func171) Tryz.func171
def q9g:FIn:=⟨[.str,.str],[]⟩
def qa5:List FOut:=[⟨(.int .i64),[],none⟩]
noncomputable def qkQ:=qe [(126,q9 jl ju qF),(155,q9 q6o q5Q wT)] [(206,Tryz.f206)] [] 0
noncomputable def q11:=qp qkQ 206 Tryz.f206 true q9g qa5
theorem qfU:qS Tryz.prog qa 206 (q9 q9g qa5 q11):=sk qkQ qc q8 (alc j3 (alc q8P aln)) aln (b1 Tryz.func206) Tryz.func206
def q7y:FIn:=⟨[.str],[]⟩
def q7l:List FOut:=[⟨(.int .i64),[],none⟩]
noncomputable def qiD:=qe [(205,q9 q9Y q9C yR),(206,q9 q9g qa5 q11)] [(172,Tryz.f172)] [] 0
noncomputable def jv:=qp qiD 172 Tryz.f172 true q7y q7l
theorem qdO:qS Tryz.prog qa 172 (q9 q7y q7l jv):=sk qiD qc q8 (alc qfA (alc qfU aln)) aln (b1 Tryz.func172) Tryz.func172
def q8r:FIn:=⟨[(.agg [.str,.str,.str]),(.agg [.str,.str,.str])],[]⟩
def q8v:List FOut:=[⟨(.tuple [(.agg [.str,.str,.str,.str,.str]),.bool]),[],none⟩]
noncomputable def qfr:=qe [(138,q9 q7m q7F u4),(139,q9 q9R q9y q1n),(140,q9 q7H q81 jE),(141,q9 qev qf1 q1e),(142,q9 q3f q3b z6),(144,q9 q36 q37 wt),(171,q9 qmq qmi qa9),(172,q9 q7y q7l jv)] [(137,Tryz.f137)] [] 0
noncomputable def q1B:=qp qfr 137 Tryz.f137 true q8r q8v
theorem qjl:qS Tryz.prog qa 137 (q9 q8r q8v q1B):=sk qfr qc q8 (alc qdl (alc qfY (alc qbj (alc qiY (alc q4O (alc q4I (alc qui (alc qdO aln)))))))) aln (b1 Tryz.func137) Tryz.func137
def q6d:FIn:=⟨[(.imm [.str,.str,.str]),(.agg [(.int .i64),(.int .i64),(.int .i64)])],[]⟩
def q6u:List FOut:=[⟨(.tuple [(.agg [.str,.str,.str,.str,.str]),.bool]),[],none⟩]
noncomputable def qgK:=qe [(137,q9 q8r q8v q1B),(138,q9 q7m q7F u4)] [(112,Tryz.f112)] [] 0
noncomputable def uy:=qp qgK 112 Tryz.f112 true q6d q6u
theorem qcn:qS Tryz.prog qa 112 (q9 q6d q6u uy):=sk qgK qc q8 (alc qjl (alc qdl aln)) aln (b1 Tryz.func112) Tryz.func112
def qeD:FIn:=⟨[.str,.str],[]⟩
def qeu:List FOut:=[⟨(.int .i64),[],none⟩]
noncomputable def qkW:=qe [(173,q9 uw ux zv),(206,q9 q9g qa5 q11)] [(175,Tryz.f175)] [] 0
noncomputable def q6p:=qp qkW 175 Tryz.f175 true qeD qeu
theorem qon:qS Tryz.prog qa 175 (q9 qeD qeu q6p):=sk qkW qc q8 (alc kg (alc qfU aln)) aln (b1 Tryz.func175) Tryz.func175
def qhs:FIn:=⟨[.str,.str,.str],[]⟩
def qgB:List FOut:=[⟨(.int .i64),[],none⟩]
noncomputable def qnK:=qe [(142,q9 q3f q3b z6),(172,q9 q7y q7l jv),(175,q9 qeD qeu q6p)] [(143,Tryz.f143)] [] 0
noncomputable def q8a:=qp qnK 143 Tryz.f143 true qhs qgB
theorem qqL:qS Tryz.prog qa 143 (q9 qhs qgB q8a):=sk qnK qc q8 (alc q4O (alc qdO (alc qon aln))) aln (b1 Tryz.func143) Tryz.func143
def q9U:FIn:=⟨[(.agg [.str,.str,.str]),(.agg [.str,.str,.str,.str,.str])],[]⟩
def q9K:List FOut:=[⟨.bool,[],none⟩]
noncomputable def qkP:=qe [(139,q9 q9R q9y q1n),(140,q9 q7H q81 jE),(141,q9 qev qf1 q1e),(142,q9 q3f q3b z6),(143,q9 qhs qgB q8a),(144,q9 q36 q37 wt)] [(113,Tryz.f113)] [] 0
noncomputable def q3a:=qp qkP 113 Tryz.f113 true q9U q9K
theorem qfQ:qS Tryz.prog qa 113 (q9 q9U q9K q3a):=sk qkP qc q8 (alc qfY (alc qbj (alc qiY (alc q4O (alc qqL (alc q4I aln)))))) aln (b1 Tryz.func113) Tryz.func113
def kD:FIn:=⟨[(.imm [.str,.str,.str]),(.agg [(.int .i64),(.int .i64),(.int .i64)])],[]⟩
def kF:List FOut:=[⟨.bool,[],none⟩]
def q8h:Tmpl:={ t:=((.imm [.str,.str,.str])::qA 4 ((.ptr 1 0)::.any::(.int .i64)::qA 21 [])),h:=[.dead,.cells [.str,.str,.str,.str,.str]] }
def q8D:List Out:=[⟨(.exit 0),{ t:=(qA 29 []),h:=[] }⟩,⟨.ret,{ t:=(qA 4 (.bool::qA 24 [])),h:=[] }⟩]
noncomputable def q4A:=qe [(112,q9 q6d q6u uy),(113,q9 q9U q9K q3a)] [(86,Tryz.f86)] [] 0
noncomputable def q1O:=wD q4A 86 Tryz.f86 7 q8h q8D
theorem qjw:qm Tryz.prog qa q4A.nimp (qx Tryz.prog q4A.iter 86) (zb Tryz.f86 7) (qj q8h q8D (qg q1O)):=
 gk q4A qc q8 (alc qcn (alc qfQ aln)) aln (b1 Tryz.func86) Tryz.func86
noncomputable def qiW:=qe [(112,q9 q6d q6u uy),(113,q9 q9U q9K q3a)] [(86,Tryz.f86)] [((86,7),qj q8h q8D (qg q1O))] 0
noncomputable def vE:=qp qiW 86 Tryz.f86 true kD kF
theorem q0l:qS Tryz.prog qa 86 (q9 kD kF vE):=sk qiW qc q8 (alc qcn (alc qfQ aln)) (alc (lk Tryz.func86 qjw) aln) (b1 Tryz.func86) Tryz.func86
def yQ:FIn:=⟨[(.imm [.str,.str,.str])],[]⟩
def yP:List FOut:=[⟨(.tuple [(.agg [(.int .i64),(.int .i64),(.int .i64)]),.bool]),[],none⟩]
def qbw:Tmpl:={ t:=((.imm [.str,.str,.str])::.any::(.ptr 0 0)::.any::(.int .i64)::qA 49 []),h:=[.cells [(.int .i64),(.int .i64),(.int .i64)]] }
def qaO:List Out:=[⟨(.exit 0),{ t:=((.imm [.str,.str,.str])::.any::(.ptr 0 0)::qA 51 []),h:=[.cells [(.int .i64),(.int .i64),(.int .i64)]] }⟩,⟨.ret,{ t:=(.any::.any::(.ptr 0 0)::.bool::qA 50 []),h:=[.cells [(.int .i64),(.int .i64),(.int .i64)]] }⟩]
noncomputable def q66:=qe [(86,q9 kD kF vE)] [(56,Tryz.f56)] [] 0
noncomputable def q2v:=wD q66 56 Tryz.f56 3 qbw qaO
theorem qku:qm Tryz.prog qa q66.nimp (qx Tryz.prog q66.iter 56) (zb Tryz.f56 3) (qj qbw qaO (qg q2v)):=
 gk q66 qc q8 (alc q0l aln) aln (b1 Tryz.func56) Tryz.func56
def q8y:Tmpl:={ t:=((.imm [.str,.str,.str])::.any::(.ptr 0 0)::.any::.any::.any::(.int .i64)::(.int .i64)::qA 30 ((.vec 1)::(.int .i64)::(.int .i64)::qA 13 [])),h:=[.cells [(.int .i64),(.int .i64),(.int .i64)],.vec 3 [(.int .i64)]] }
def q8s:List Out:=[⟨(.exit 6),{ t:=((.imm [.str,.str,.str])::.any::(.ptr 0 0)::.any::.any::.any::(.int .i64)::(.int .i64)::qA 46 []),h:=[.cells [(.int .i64),(.int .i64),(.int .i64)]] }⟩,⟨.ret,{ t:=(.any::.any::(.ptr 0 0)::.bool::qA 50 []),h:=[.cells [(.int .i64),(.int .i64),(.int .i64)]] }⟩]
noncomputable def q4T:=qe [(86,q9 kD kF vE)] [(56,Tryz.f56)] [] 0
noncomputable def q1t:=wD q4T 56 Tryz.f56 22 q8y q8s
theorem qjG:qm Tryz.prog qa q4T.nimp (qx Tryz.prog q4T.iter 56) (zb Tryz.f56 22) (qj q8y q8s (qg q1t)):=
 gk q4T qc q8 (alc q0l aln) aln (b1 Tryz.func56) Tryz.func56
def q8o:Tmpl:={ t:=((.imm [.str,.str,.str])::.any::(.ptr 0 0)::.any::.any::.any::(.int .i64)::(.int .i64)::qA 46 []),h:=[.cells [(.int .i64),(.int .i64),(.int .i64)]] }
def q8B:List Out:=[⟨(.exit 4),{ t:=((.imm [.str,.str,.str])::.any::(.ptr 0 0)::.any::.any::.any::(.int .i64)::qA 47 []),h:=[.cells [(.int .i64),(.int .i64),(.int .i64)]] }⟩,⟨.ret,{ t:=(.any::.any::(.ptr 0 0)::.bool::qA 50 []),h:=[.cells [(.int .i64),(.int .i64),(.int .i64)]] }⟩]
noncomputable def q4w:=qe [(86,q9 kD kF vE)] [(56,Tryz.f56)] [((56,22),qj q8y q8s (qg q1t))] 0
noncomputable def q1u:=wD q4w 56 Tryz.f56 17 q8o q8B
theorem qjb:qm Tryz.prog qa q4w.nimp (qx Tryz.prog q4w.iter 56) (zb Tryz.f56 17) (qj q8o q8B (qg q1u)):=
 gk q4w qc q8 (alc q0l aln) (alc (lk Tryz.func56 qjG) aln) (b1 Tryz.func56) Tryz.func56
def q8L:Tmpl:={ t:=((.imm [.str,.str,.str])::.any::(.ptr 0 0)::.any::.any::.any::(.int .i64)::qA 47 []),h:=[.cells [(.int .i64),(.int .i64),(.int .i64)]] }
def q8R:List Out:=[⟨(.exit 2),{ t:=(.any::.any::(.ptr 0 0)::qA 51 []),h:=[.cells [(.int .i64),(.int .i64),(.int .i64)]] }⟩,⟨.ret,{ t:=(.any::.any::(.ptr 0 0)::.bool::qA 50 []),h:=[.cells [(.int .i64),(.int .i64),(.int .i64)]] }⟩]
noncomputable def q4z:=qe [(86,q9 kD kF vE)] [(56,Tryz.f56)] [((56,17),qj q8o q8B (qg q1u))] 0
noncomputable def q1D:=wD q4z 56 Tryz.f56 12 q8L q8R
theorem qjq:qm Tryz.prog qa q4z.nimp (qx Tryz.prog q4z.iter 56) (zb Tryz.f56 12) (qj q8L q8R (qg q1D)):=
 gk q4z qc q8 (alc q0l aln) (alc (lk Tryz.func56 qjb) aln) (b1 Tryz.func56) Tryz.func56
noncomputable def qkq:=qe [(86,q9 kD kF vE)] [(56,Tryz.f56)] [((56,3),qj qbw qaO (qg q2v)),((56,12),qj q8L q8R (qg q1D))] 0
noncomputable def wn:=qp qkq 56 Tryz.f56 true yQ yP
theorem yp:qS Tryz.prog qa 56 (q9 yQ yP wn):=sk qkq qc q8 (alc q0l aln) (alc (lk Tryz.func56 qku) (alc (lk Tryz.func56 qjq) aln)) (b1 Tryz.func56) Tryz.func56
def q8Q:FIn:=⟨[(.agg [(.imm [(.int .i64),(.int .i64),(.int .i64),(.int .i64),(.int .i64),(.int .i64),.bool]),(.imm [(.int .i64),(.int .i64),(.int .i64),(.int .i64),(.int .i64),(.int .i64),.bool])]),(.agg [(.imm [(.int .i64),(.int .i64),(.int .i64)]),(.imm [(.int .i64),(.int .i64),(.int .i64)])])],[]⟩
def q8J:List FOut:=[⟨(.tuple [.bool,(.agg [(.int .i64),(.int .i64),(.int .i64)]),(.int .i64)]),[],none⟩]
noncomputable def qg2:=qe [(30,q9 q9M q9d q1p),(51,q9 q5U q5X yX),(55,q9 q9N q9u q1f),(56,q9 yQ yP wn)] [(23,Tryz.f23)] [] 0
noncomputable def q1x:=qp qg2 23 Tryz.f23 true q8Q q8J
theorem qk0:qS Tryz.prog qa 23 (q9 q8Q q8J q1x):=sk qg2 qc q8 (alc qfB (alc q8H (alc qfD (alc yp aln)))) aln (b1 Tryz.func23) Tryz.func23
def qeR:FIn:=⟨[(.imm [.str,.str,.str])],[]⟩
def qeI:List FOut:=[⟨(.imm [(.int .i64)]),[],none⟩]
def qbr:Tmpl:={ t:=((.imm [.str,.str,.str])::.any::.any::(.int .i64)::(.int .i64)::qA 84 []),h:=[] }
def qb6:List Out:=[⟨(.exit 2),{ t:=((.imm [.str,.str,.str])::.any::.any::(.int .i64)::qA 85 []),h:=[] }⟩,⟨.ret,{ t:=(.any::.any::(.vec 2)::qA 86 []),h:=[.dead,.dead,.vec 3 [(.int .i64)]] }⟩]
noncomputable def q5D:=qe [(56,q9 yQ yP wn)] [(58,Tryz.f58)] [] 0
noncomputable def q2I:=wD q5D 58 Tryz.f58 8 qbr qb6
theorem qlY:qm Tryz.prog qa q5D.nimp (qx Tryz.prog q5D.iter 58) (zb Tryz.f58 8) (qj qbr qb6 (qg q2I)):=
 gk q5D qc q8 (alc yp aln) aln (b1 Tryz.func58) Tryz.func58
def qb3:Tmpl:={ t:=((.imm [.str,.str,.str])::.any::.any::(.int .i64)::qA 85 []),h:=[] }
def qbn:List Out:=[⟨(.exit 0),{ t:=((.imm [.str,.str,.str])::qA 88 []),h:=[] }⟩,⟨.ret,{ t:=(.any::.any::(.vec 2)::qA 86 []),h:=[.dead,.dead,.vec 3 [(.int .i64)]] }⟩]
noncomputable def q6y:=qe [(56,q9 yQ yP wn)] [(58,Tryz.f58)] [((58,8),qj qbr qb6 (qg q2I))] 0
noncomputable def q2E:=wD q6y 58 Tryz.f58 3 qb3 qbn
theorem qkU:qm Tryz.prog qa q6y.nimp (qx Tryz.prog q6y.iter 58) (zb Tryz.f58 3) (qj qb3 qbn (qg q2E)):=
 gk q6y qc q8 (alc yp aln) (alc (lk Tryz.func58 qlY) aln) (b1 Tryz.func58) Tryz.func58
def q8l:Tmpl:={ t:=((.imm [.str,.str,.str])::qA 6 ((.int .i64)::(.int .i64)::(.int .i64)::qA 79 [])),h:=[] }
def q8C:List Out:=[⟨(.exit 8),{ t:=((.imm [.str,.str,.str])::qA 6 ((.int .i64)::(.int .i64)::qA 80 [])),h:=[] }⟩,⟨.ret,{ t:=(.any::.any::(.vec 2)::qA 86 []),h:=[.dead,.dead,.vec 3 [(.int .i64)]] }⟩]
noncomputable def q4v:=qe [(56,q9 yQ yP wn)] [(58,Tryz.f58)] [] 0
noncomputable def q1v:=wD q4v 58 Tryz.f58 27 q8l q8C
theorem qjz:qm Tryz.prog qa q4v.nimp (qx Tryz.prog q4v.iter 58) (zb Tryz.f58 27) (qj q8l q8C (qg q1v)):=
 gk q4v qc q8 (alc yp aln) aln (b1 Tryz.func58) Tryz.func58
def q8p:Tmpl:={ t:=((.imm [.str,.str,.str])::qA 6 ((.int .i64)::(.int .i64)::qA 80 [])),h:=[] }
def q8g:List Out:=[⟨(.exit 6),{ t:=((.imm [.str,.str,.str])::qA 6 ((.int .i64)::qA 81 [])),h:=[] }⟩,⟨.ret,{ t:=(.any::.any::(.vec 2)::qA 86 []),h:=[.dead,.dead,.vec 3 [(.int .i64)]] }⟩]
noncomputable def q4R:=qe [(56,q9 yQ yP wn)] [(58,Tryz.f58)] [((58,27),qj q8l q8C (qg q1v))] 0
noncomputable def q1M:=wD q4R 58 Tryz.f58 22 q8p q8g
theorem qjS:qm Tryz.prog qa q4R.nimp (qx Tryz.prog q4R.iter 58) (zb Tryz.f58 22) (qj q8p q8g (qg q1M)):=
 gk q4R qc q8 (alc yp aln) (alc (lk Tryz.func58 qjz) aln) (b1 Tryz.func58) Tryz.func58
def q8n:Tmpl:={ t:=((.imm [.str,.str,.str])::qA 6 ((.int .i64)::qA 81 [])),h:=[] }
def q8F:List Out:=[⟨(.exit 4),{ t:=(qA 89 []),h:=[] }⟩,⟨.ret,{ t:=(.any::.any::(.vec 2)::qA 86 []),h:=[.dead,.dead,.vec 3 [(.int .i64)]] }⟩]
noncomputable def q4B:=qe [(56,q9 yQ yP wn)] [(58,Tryz.f58)] [((58,22),qj q8p q8g (qg q1M))] 0
noncomputable def q1G:=wD q4B 58 Tryz.f58 17 q8n q8F
theorem qjp:qm Tryz.prog qa q4B.nimp (qx Tryz.prog q4B.iter 58) (zb Tryz.f58 17) (qj q8n q8F (qg q1G)):=
 gk q4B qc q8 (alc yp aln) (alc (lk Tryz.func58 qjS) aln) (b1 Tryz.func58) Tryz.func58
noncomputable def qkF:=qe [(56,q9 yQ yP wn)] [(58,Tryz.f58)] [((58,3),qj qb3 qbn (qg q2E)),((58,17),qj q8n q8F (qg q1G))] 0
noncomputable def q6r:=qp qkF 58 Tryz.f58 true qeR qeI
theorem qnW:qS Tryz.prog qa 58 (q9 qeR qeI q6r):=sk qkF qc q8 (alc yp aln) (alc (lk Tryz.func58 qkU) (alc (lk Tryz.func58 qjp) aln)) (b1 Tryz.func58) Tryz.func58
def qeW:FIn:=⟨[(.agg [(.imm [(.int .i64),(.int .i64),(.int .i64),(.int .i64),(.int .i64),(.int .i64),.bool]),(.imm [(.int .i64),(.int .i64),(.int .i64),(.int .i64),(.int .i64),(.int .i64),.bool])]),(.agg [(.imm [(.int .i64),(.int .i64),(.int .i64)]),(.imm [(.int .i64),(.int .i64),(.int .i64)])])],[]⟩
def qeM:List FOut:=[⟨(.tuple [(.imm [(.int .i64)]),(.int .i64)]),[],none⟩]
noncomputable def qlA:=qe [(30,q9 q9M q9d q1p),(51,q9 q5U q5X yX),(55,q9 q9N q9u q1f),(58,q9 qeR qeI q6r)] [(25,Tryz.f25)] [] 0
noncomputable def q5K:=qp qlA 25 Tryz.f25 true qeW qeM
theorem qot:qS Tryz.prog qa 25 (q9 qeW qeM q5K):=sk qlA qc q8 (alc qfB (alc q8H (alc qfD (alc qnW aln)))) aln (b1 Tryz.func25) Tryz.func25
def q20:FIn:=⟨[(.agg [(.imm [(.int .i64),(.int .i64),(.int .i64),(.int .i64),(.int .i64),(.int .i64),.bool]),(.imm [(.int .i64),(.int .i64),(.int .i64),(.int .i64),(.int .i64),(.int .i64),.bool])]),(.agg [(.imm [(.int .i64),(.int .i64),(.int .i64)]),(.imm [(.int .i64),(.int .i64),(.int .i64)])])],[]⟩
def q24:List FOut:=[⟨.bool,[],none⟩]
noncomputable def zn:=qe [(11,q9 qeg qen q32),(18,q9 uF uH qZ),(19,q9 qjB qk7 qbc),(22,q9 q12 q1d zl),(23,q9 q8Q q8J q1x),(24,q9 q4E q4U j6),(25,q9 qeW qeM q5K)] [(5,Tryz.f5)] [] 0
noncomputable def ja:=qp zn 5 Tryz.f5 true q20 q24
theorem qcC:qS Tryz.prog qa 5 (q9 q20 q24 ja):=sk zn qc q8 (alc qoc (alc q4i (alc qrl (alc q6H (alc qk0 (alc qaW (alc qot aln))))))) aln (b1 Tryz.func5) Tryz.func5
end Go.Eng

