/- ENGINE T. Templates: shapes of states, with parameters. -/
import Derived.Test.YtjebekbdjlooiaaEngH
namespace Go.Eng

/-! ### Parameters -/
inductive PK where
  | i | b | s | r
inductive PV where
  | i (n : Int) | b (x : Bool) | s (l : List UInt8) | r (l : R)

def PV.kind : PV → PK | .i _ => .i | .b _ => .b | .s _ => .s | .r _ => .r
def PV.toI : PV → Int | .i n => n | _ => 0
def PV.toB : PV → Bool | .b x => x | _ => false
def PV.toS : PV → List UInt8 | .s x => x | _ => []
def PV.toR : PV → R | .r x => x | _ => []

/-! ### Shapes of values -/
inductive AP where
  | any | yld
  | int (k : IntKind) | bool | str | blit (b : Bool)
  | nilp | ptr (b off : Nat) | eptr (sh : List Sh) (off : Nat) | mptr (sh : List Sh) (off : Nat) | vptr (b off : Nat)
  | nils | imm (sh : List Sh) | vec (b : Nat)
  | nilf | fn (f : FuncId) (first caps : List AP)
  | agg (l : List AP) | tuple (l : List AP)

def opt2 : Option (List PV) → Option (List PV) → Option (List PV)
  | some a, some b => some (a ++ b)
  | _, _ => none

mutual
def AP.take : AP → AV → Option (List PV)
  | .any, _ => some []
  | .yld, .yld => some []
  | .int k, .int k' n => if k = k' then some [.i n] else none
  | .int k, .ilit k' n => if k = k' then some [.i n] else none
  | .bool, .bool b => some [.b b]
  | .bool, .blit b => some [.b b]
  | .str, .str s => some [.s s]
  | .blit b, .blit b' => if b = b' then some [] else none
  | .nilp, .nilp => some []
  | .ptr b off, .ptr b' off' => if b = b' ∧ off = off' then some [] else none
  | .eptr sh off, .eptr sh' l i off' => if Sh.beqL sh sh' = true ∧ off = off' then some [.r l, .i i] else none
  | .mptr _ _, .nilp => some [.b false, .r [], .i 0]
  | .mptr sh off, .eptr sh' l i off' => if Sh.beqL sh sh' = true ∧ off = off' then some [.b true, .r l, .i i] else none
  | .mptr sh off, .mptr c sh' l i off' => if Sh.beqL sh sh' = true ∧ off = off' then some [.b c, .r l, .i i] else none
  | .vptr b off, .vptr b' i off' => if b = b' ∧ off = off' then some [.i i] else none
  | .nils, .nils => some []
  | .imm sh, .imm sh' l => if Sh.beqL sh sh' = true then some [.r l] else none
  | .imm _, .nils => some [.r []]
  | .vec b, .vec b' => if b = b' then some [] else none
  | .nilf, .nilf => some []
  | .fn f p q, .fn g a c => if f = g then opt2 (AP.takeL p a) (AP.takeL q c) else none
  | .agg l, .agg a => AP.takeL l a
  | .tuple l, .tuple a => AP.takeL l a
  | _, _ => none
def AP.takeL : List AP → List AV → Option (List PV)
  | [], [] => some []
  | p :: l, a :: as => opt2 (p.take a) (AP.takeL l as)
  | _, _ => none
end

mutual
def AP.make : AP → List PV → AV × List PV
  | .any, ps => (.undef, ps)
  | .yld, ps => (.yld, ps)
  | .int k, .i n :: ps => (.int k n, ps)
  | .bool, .b x :: ps => (.bool x, ps)
  | .str, .s x :: ps => (.str x, ps)
  | .blit b, ps => (.blit b, ps)
  | .nilp, ps => (.nilp, ps)
  | .ptr b off, ps => (.ptr b off, ps)
  | .eptr sh off, .r l :: .i i :: ps => (.eptr sh l i off, ps)
  | .mptr sh off, .b c :: .r l :: .i i :: ps => (.mptr c sh l i off, ps)
  | .vptr b off, .i i :: ps => (.vptr b i off, ps)
  | .nils, ps => (.nils, ps)
  | .imm sh, .r l :: ps => (.imm sh l, ps)
  | .vec b, ps => (.vec b, ps)
  | .nilf, ps => (.nilf, ps)
  | .fn f p q, ps => let x := AP.makeL p ps; let y := AP.makeL q x.2; (.fn f x.1 y.1, y.2)
  | .agg l, ps => let x := AP.makeL l ps; (.agg x.1, x.2)
  | .tuple l, ps => let x := AP.makeL l ps; (.tuple x.1, x.2)
  | _, ps => (.undef, ps)
def AP.makeL : List AP → List PV → List AV × List PV
  | [], ps => ([], ps)
  | p :: l, ps => let x := p.make ps; let y := AP.makeL l x.2; (x.1 :: y.1, y.2)
end

mutual
def AP.kinds : AP → List PK
  | .int _ => [.i] | .bool => [.b] | .str => [.s]
  | .eptr _ _ => [.r, .i] | .mptr _ _ => [.b, .r, .i] | .vptr _ _ => [.i] | .imm _ => [.r]
  | .fn _ p q => AP.kindsL p ++ AP.kindsL q
  | .agg l => AP.kindsL l
  | .tuple l => AP.kindsL l
  | _ => []
def AP.kindsL : List AP → List PK
  | [] => []
  | p :: l => p.kinds ++ AP.kindsL l
end

theorem opt2_some {a b : Option (List PV)} {c : List PV} (h : opt2 a b = some c) : ∃ x y, a = some x ∧ b = some y ∧ c = x ++ y := by
  cases a <;> cases b <;> simp [opt2] at h
  exact ⟨_, _, rfl, rfl, h.symm⟩

mutual
theorem AP.take_ok {X : Ctx} : ∀ (p : AP) (a : AV) (ps rest : List PV), p.take a = some ps → (p.make (ps ++ rest)).2 = rest ∧ ps.map PV.kind = p.kinds ∧ ∀ v, Rep X a v → Rep X (p.make (ps ++ rest)).1 v
  | .any, a, ps, rest, h => by simp only [AP.take, Option.some.injEq] at h; subst h; exact ⟨rfl, rfl, fun v _ => .undef v⟩
  | .yld, a, ps, rest, h => by
    cases a <;> simp only [AP.take] at h <;> first | (cases h; done) | skip
    cases h; exact ⟨rfl, rfl, fun v hv => hv⟩
  | .int k, a, ps, rest, h => by
    cases a <;> simp only [AP.take] at h <;> first | (cases h; done) | skip
    all_goals
      split at h
      · rename_i hk; cases h; subst hk
        refine ⟨rfl, rfl, fun v hv => ?_⟩
        cases hv
        exact .int _ _
      · cases h
  | .bool, a, ps, rest, h => by
    cases a <;> simp only [AP.take] at h <;> first | (cases h; done) | skip
    all_goals
      cases h
      refine ⟨rfl, rfl, fun v hv => ?_⟩
      cases hv
      exact .bool _
  | .str, a, ps, rest, h => by
    cases a <;> simp only [AP.take] at h <;> first | (cases h; done) | skip
    cases h
    exact ⟨rfl, rfl, fun v hv => hv⟩
  | .blit b, a, ps, rest, h => by
    cases a <;> simp only [AP.take] at h <;> first | (cases h; done) | skip
    split at h
    · rename_i hb; cases h; subst hb; exact ⟨rfl, rfl, fun v hv => hv⟩
    · cases h
  | .nilp, a, ps, rest, h => by
    cases a <;> simp only [AP.take] at h <;> first | (cases h; done) | skip
    cases h; exact ⟨rfl, rfl, fun v hv => hv⟩
  | .ptr b off, a, ps, rest, h => by
    cases a <;> simp only [AP.take] at h <;> first | (cases h; done) | skip
    split at h
    · rename_i hb; cases h; obtain ⟨rfl, rfl⟩ := hb; exact ⟨rfl, rfl, fun v hv => hv⟩
    · cases h
  | .eptr sh off, a, ps, rest, h => by
    cases a <;> simp only [AP.take] at h <;> first | (cases h; done) | skip
    split at h
    · rename_i hb; cases h; obtain ⟨hb, rfl⟩ := hb; have := Sh.beqL_eq _ _ hb; subst this; exact ⟨rfl, rfl, fun v hv => hv⟩
    · cases h
  | .mptr sh off, a, ps, rest, h => by
    cases a <;> simp only [AP.take] at h <;> first | (cases h; done) | skip
    · cases h
      refine ⟨rfl, rfl, fun v hv => ?_⟩
      cases hv
      exact .mnil _ _ _ _
    · split at h
      · rename_i hb; cases h; obtain ⟨hb, rfl⟩ := hb; have := Sh.beqL_eq _ _ hb; subst this
        refine ⟨rfl, rfl, fun v hv => ?_⟩
        cases hv with
        | eptr _ _ _ _ a h1 h2 h3 h4 => exact .mptr _ _ _ _ a h1 h2 h3 h4
      · cases h
    · split at h
      · rename_i hb; cases h; obtain ⟨hb, rfl⟩ := hb; have := Sh.beqL_eq _ _ hb; subst this; exact ⟨rfl, rfl, fun v hv => hv⟩
      · cases h
  | .vptr b off, a, ps, rest, h => by
    cases a <;> simp only [AP.take] at h <;> first | (cases h; done) | skip
    split at h
    · rename_i hb; cases h; obtain ⟨rfl, rfl⟩ := hb; exact ⟨rfl, rfl, fun v hv => hv⟩
    · cases h
  | .nils, a, ps, rest, h => by
    cases a <;> simp only [AP.take] at h <;> first | (cases h; done) | skip
    cases h; exact ⟨rfl, rfl, fun v hv => hv⟩
  | .imm sh, a, ps, rest, h => by
    cases a <;> simp only [AP.take] at h <;> first | (cases h; done) | skip
    · cases h
      refine ⟨rfl, rfl, fun v hv => ?_⟩
      cases hv
      exact .imm _ _ _ (.inl ⟨rfl, rfl⟩)
    · split at h
      · rename_i hb; cases h; have := Sh.beqL_eq _ _ hb; subst this; exact ⟨rfl, rfl, fun v hv => hv⟩
      · cases h
  | .vec b, a, ps, rest, h => by
    cases a <;> simp only [AP.take] at h <;> first | (cases h; done) | skip
    split at h
    · rename_i hb; cases h; subst hb; exact ⟨rfl, rfl, fun v hv => hv⟩
    · cases h
  | .nilf, a, ps, rest, h => by
    cases a <;> simp only [AP.take] at h <;> first | (cases h; done) | skip
    cases h; exact ⟨rfl, rfl, fun v hv => hv⟩
  | .fn f p q, a, ps, rest, h => by
    cases a <;> simp only [AP.take] at h <;> first | (cases h; done) | skip
    rename_i g a c
    split at h
    · rename_i hf; subst hf
      obtain ⟨x, y, h1, h2, rfl⟩ := opt2_some h
      obtain ⟨a1, a2, a3⟩ := AP.takeL_ok (X := X) p a x (y ++ rest) h1
      obtain ⟨b1, b2, b3⟩ := AP.takeL_ok (X := X) q c y rest h2
      simp only [AP.make, List.append_assoc, a1, b1, AP.kinds, List.map_append, a2, b2, true_and]
      intro v hv
      cases hv with
      | fn _ _ _ vf vc g1 g2 => exact .fn _ _ _ vf vc (a3 _ g1) (b3 _ g2)
    · cases h
  | .agg l, a, ps, rest, h => by
    cases a <;> simp only [AP.take] at h <;> first | (cases h; done) | skip
    obtain ⟨a1, a2, a3⟩ := AP.takeL_ok (X := X) l _ ps rest h
    simp only [AP.make, a1, AP.kinds, a2, true_and]
    intro v hv
    cases hv with
    | agg _ vs g => exact .agg _ vs (a3 _ g)
  | .tuple l, a, ps, rest, h => by
    cases a <;> simp only [AP.take] at h <;> first | (cases h; done) | skip
    obtain ⟨a1, a2, a3⟩ := AP.takeL_ok (X := X) l _ ps rest h
    simp only [AP.make, a1, AP.kinds, a2, true_and]
    intro v hv
    cases hv with
    | tuple _ vs g => exact .tuple _ vs (a3 _ g)
theorem AP.takeL_ok {X : Ctx} : ∀ (p : List AP) (a : List AV) (ps rest : List PV), AP.takeL p a = some ps → (AP.makeL p (ps ++ rest)).2 = rest ∧ ps.map PV.kind = AP.kindsL p ∧ ∀ v, RepL X a v → RepL X (AP.makeL p (ps ++ rest)).1 v
  | [], a, ps, rest, h => by
    cases a <;> simp only [AP.takeL] at h <;> cases h
    exact ⟨rfl, rfl, fun v hv => hv⟩
  | p :: l, a, ps, rest, h => by
    cases a with
    | nil => simp only [AP.takeL] at h; cases h
    | cons a as =>
      simp only [AP.takeL] at h
      obtain ⟨x, y, h1, h2, rfl⟩ := opt2_some h
      obtain ⟨a1, a2, a3⟩ := AP.take_ok (X := X) p a x (y ++ rest) h1
      obtain ⟨b1, b2, b3⟩ := AP.takeL_ok (X := X) l as y rest h2
      simp only [AP.makeL, List.append_assoc, a1, b1, AP.kindsL, List.map_append, a2, b2, true_and]
      intro v hv
      cases hv with
      | cons g1 g2 => exact .cons (a3 _ g1) (b3 _ g2)
end

def AP.takeLL : List (List AP) → List (List AV) → Option (List PV)
  | [], [] => some []
  | p :: l, a :: as => opt2 (AP.takeL p a) (AP.takeLL l as)
  | _, _ => none
def AP.makeLL : List (List AP) → List PV → List (List AV) × List PV
  | [], ps => ([], ps)
  | p :: l, ps => let x := AP.makeL p ps; let y := AP.makeLL l x.2; (x.1 :: y.1, y.2)
def AP.kindsLL : List (List AP) → List PK
  | [] => []
  | p :: l => AP.kindsL p ++ AP.kindsLL l
theorem AP.takeLL_ok {X : Ctx} : ∀ (p : List (List AP)) (a : List (List AV)) (ps rest : List PV), AP.takeLL p a = some ps → (AP.makeLL p (ps ++ rest)).2 = rest ∧ ps.map PV.kind = AP.kindsLL p ∧ ∀ v, RepLL X a v → RepLL X (AP.makeLL p (ps ++ rest)).1 v
  | [], a, ps, rest, h => by
    cases a <;> simp only [AP.takeLL] at h <;> cases h
    exact ⟨rfl, rfl, fun v hv => hv⟩
  | p :: l, a, ps, rest, h => by
    cases a with
    | nil => simp only [AP.takeLL] at h; cases h
    | cons a as =>
      simp only [AP.takeLL] at h
      obtain ⟨x, y, h1, h2, rfl⟩ := opt2_some h
      obtain ⟨a1, a2, a3⟩ := AP.takeL_ok (X := X) p a x (y ++ rest) h1
      obtain ⟨b1, b2, b3⟩ := AP.takeLL_ok (X := X) l as y rest h2
      simp only [AP.makeLL, List.append_assoc, a1, b1, AP.kindsLL, List.map_append, a2, b2, true_and]
      intro v hv
      cases hv with
      | cons g1 g2 => exact .cons (a3 _ g1) (b3 _ g2)

/-! ### Shapes of blocks -/
inductive BP where
  | cells (l : List AP) | big (l : List AP) (k : IntKind) (n : Nat) | vec (e : TypeId) (sh : List Sh) | frz (e : TypeId) (sh : List Sh) | dead

def BP.take : BP → Blk → Option (List PV)
  | .cells l, .cells cs => AP.takeL l cs
  | .big l k n, .big cs k' n' r => if k = k' ∧ n = n' then opt2 (AP.takeL l cs) (some [.r r]) else none
  | .vec e sh, .vec e' sh' l => if e = e' ∧ Sh.beqL sh sh' = true then some [.r l] else none
  | .frz e sh, .frz e' sh' l => if e = e' ∧ Sh.beqL sh sh' = true then some [.r l] else none
  | .dead, _ => some []
  | _, _ => none
def BP.make : BP → List PV → Blk × List PV
  | .cells l, ps => let x := AP.makeL l ps; (.cells x.1, x.2)
  | .big l k n, ps => let x := AP.makeL l ps; match x.2 with
    | .r r :: qs => (.big x.1 k n r, qs)
    | qs => (.dead, qs)
  | .vec e sh, .r l :: ps => (.vec e sh l, ps)
  | .frz e sh, .r l :: ps => (.frz e sh l, ps)
  | _, ps => (.dead, ps)
def BP.kinds : BP → List PK
  | .cells l => AP.kindsL l
  | .big l _ _ => AP.kindsL l ++ [.r]
  | .vec _ _ => [.r]
  | .frz _ _ => [.r]
  | .dead => []
def BP.takeL : List BP → List Blk → Option (List PV)
  | [], [] => some []
  | p :: l, b :: bs => opt2 (p.take b) (BP.takeL l bs)
  | _, _ => none
def BP.makeL : List BP → List PV → List Blk × List PV
  | [], ps => ([], ps)
  | p :: l, ps => let x := p.make ps; let y := BP.makeL l x.2; (x.1 :: y.1, y.2)
def BP.kindsL : List BP → List PK
  | [] => []
  | p :: l => p.kinds ++ BP.kindsL l
def BP.isCells : BP → Bool
  | .cells _ | .big _ _ _ => true
  | _ => false

theorem BP.take_ok {X : Ctx} (p : BP) (k : Blk) (ps rest : List PV) (h : p.take k = some ps) : (p.make (ps ++ rest)).2 = rest ∧ ps.map PV.kind = p.kinds ∧ Wk X k (p.make (ps ++ rest)).1 ∧
    (p.isCells = true → (p.make (ps ++ rest)).1.solid = true) := by
  cases p with
  | cells l =>
    cases k <;> simp only [BP.take] at h <;> first | (cases h; done) | skip
    obtain ⟨a1, a2, a3⟩ := AP.takeL_ok (X := X) l _ ps rest h
    simp only [BP.make, a1, BP.kinds, a2, true_and]
    exact ⟨.inr (.inr (.inl ⟨_, _, rfl, rfl, a3⟩)), fun _ => rfl⟩
  | big l kk n =>
    cases k <;> simp only [BP.take] at h <;> first | (cases h; done) | skip
    split at h
    · rename_i hb; obtain ⟨rfl, rfl⟩ := hb
      obtain ⟨x, y, h1, h2, rfl⟩ := opt2_some h
      cases h2
      rename_i cs r
      obtain ⟨a1, a2, a3⟩ := AP.takeL_ok (X := X) l _ x ([.r r] ++ rest) h1
      simp only [List.cons_append, List.nil_append] at a1 a3
      simp only [BP.make, List.append_assoc, a1, List.cons_append, List.nil_append, BP.kinds, List.map_append, a2, List.map_cons, List.map_nil, PV.kind, true_and]
      exact ⟨.inr (.inr (.inr ⟨_, _, _, _, _, rfl, rfl, a3⟩)), fun _ => rfl⟩
    · cases h
  | vec e sh =>
    cases k <;> simp only [BP.take] at h <;> first | (cases h; done) | skip
    split at h
    · rename_i hb; cases h; obtain ⟨rfl, hb⟩ := hb; have := Sh.beqL_eq _ _ hb; subst this; exact ⟨rfl, rfl, .inr (.inl rfl), fun h => by cases h⟩
    · cases h
  | frz e sh =>
    cases k <;> simp only [BP.take] at h <;> first | (cases h; done) | skip
    split at h
    · rename_i hb; cases h; obtain ⟨rfl, hb⟩ := hb; have := Sh.beqL_eq _ _ hb; subst this; exact ⟨rfl, rfl, .inr (.inl rfl), fun h => by cases h⟩
    · cases h
  | dead =>
    have : ps = [] := by cases k <;> simp [BP.take] at h <;> exact h
    subst this
    exact ⟨rfl, rfl, .inl rfl, fun h => by cases h⟩

theorem BP.takeL_ok {X : Ctx} : ∀ (p : List BP) (k : List Blk) (ps rest : List PV), BP.takeL p k = some ps → (BP.makeL p (ps ++ rest)).2 = rest ∧ ps.map PV.kind = BP.kindsL p ∧
    (BP.makeL p (ps ++ rest)).1.length = k.length ∧ p.length = k.length ∧ ∀ (b : Nat) (k' : Blk), (BP.makeL p (ps ++ rest)).1[b]? = some k' → ∃ k0, k[b]? = some k0 ∧ Wk X k0 k' ∧ ∀ q : BP, p[b]? = some q → q.isCells = true → k'.solid = true
  | [], k, ps, rest, h => by
    cases k <;> simp only [BP.takeL] at h <;> cases h
    exact ⟨rfl, rfl, rfl, rfl, fun b k' hb => by simp [BP.makeL] at hb⟩
  | p :: l, k, ps, rest, h => by
    cases k with
    | nil => simp only [BP.takeL] at h; cases h
    | cons k ks =>
      simp only [BP.takeL] at h
      obtain ⟨x, y, h1, h2, rfl⟩ := opt2_some h
      obtain ⟨a1, a2, a3, a4⟩ := BP.take_ok (X := X) p k x (y ++ rest) h1
      obtain ⟨b1, b2, b3, b4, b5⟩ := BP.takeL_ok (X := X) l ks y rest h2
      simp only [BP.makeL, List.append_assoc, a1, b1, BP.kindsL, List.map_append, a2, b2, List.length_cons, b3, b4, true_and]
      intro b k' hb
      cases b with
      | zero =>
        simp only [List.getElem?_cons_zero, Option.some.injEq] at hb
        subst hb
        exact ⟨k, rfl, a3, fun q hq hc => by simp only [List.getElem?_cons_zero, Option.some.injEq] at hq; subst hq; exact a4 hc⟩
      | succ b =>
        simp only [List.getElem?_cons_succ] at hb ⊢
        exact b5 b k' hb

/-! ### Blocks forgotten -/
def keep (n : Nat) : Nat → Option Nat := fun b => if Nat.blt b n then some b else none

theorem keep_some {n b b' : Nat} (h : keep n b = some b') : b' = b ∧ b < n := by
  unfold keep at h
  split at h
  · rename_i hb; cases h; exact ⟨rfl, by simpa [Nat.blt_eq] using hb⟩
  · cases h

def Ctx.cut (X : Ctx) (n : Nat) : Ctx := { X with h := (X.h.take n).map (Blk.ren (keep n)) }

theorem Ctx.cut_get {X : Ctx} {n b : Nat} {k : Blk} (h : (X.cut n).h[b]? = some k) : b < n ∧ ∃ k0, X.h[b]? = some k0 ∧ k = k0.ren (keep n) := by
  have h' : ((X.h.take n).map (Blk.ren (keep n)))[b]? = some k := h
  rw [List.getElem?_map, List.getElem?_take] at h'
  split at h'
  · rename_i hb
    refine ⟨hb, ?_⟩
    cases hk : X.h[b]? with
    | none => rw [hk] at h'; cases h'
    | some k0 => rw [hk] at h'; exact ⟨k0, rfl, (Option.some.inj h').symm⟩
  · cases h'

theorem cut_good {B : Base} {X : Ctx} (hs : HSim B X) {n : Nat} (hn : B.imps.length ≤ n) : HSim B (X.cut n) ∧ Move X (X.cut n) (keep n) := by
  have hvec : ∀ b sh m, (X.cut n).isVec b sh m → X.isVec b sh m := by
    intro b sh m ⟨e, l, h1, h2⟩
    refine ⟨e, l, ?_, h2⟩
    rcases h1 with h1 | h1
    · obtain ⟨_, k0, h3, h4⟩ := Ctx.cut_get h1
      cases k0 <;> simp [Blk.ren] at h4
      obtain ⟨rfl, rfl, rfl⟩ := h4; exact .inl h3
    · obtain ⟨_, k0, h3, h4⟩ := Ctx.cut_get h1
      cases k0 <;> simp [Blk.ren] at h4
      obtain ⟨rfl, rfl, rfl⟩ := h4; exact .inr h3
  have hm : Move X (X.cut n) (keep n) := by
    refine Move.of (fun _ h => h) (fun _ _ => rfl) (fun b b' hb hf => ?_)
    obtain ⟨rfl, hlt⟩ := keep_some hf
    exact ⟨by simp [Ctx.cut]; omega, rfl, hvec b', fun sh m _ k hk c T fr hc => ⟨c, T, fr, hc, rfl⟩⟩
  have hown : ∀ b m, (X.cut n).own b m → X.own b m := by
    intro b m ⟨h1, k, h2, h3⟩
    obtain ⟨_, k0, h4, h5⟩ := Ctx.cut_get h2
    exact ⟨h1, k0, h4, by rw [h5, Blk.mut_ren] at h3; exact h3⟩
  refine ⟨⟨?_, fun b b' m h h' => hs.inj b b' m (hown _ _ h) (hown _ _ h'), fun b m h => hs.notM b m (hown _ _ h), hs.ltM, hs.M0, hs.newM, hs.os, hs.tape, hs.output, hs.size, hs.frame, hs.imps, ?_, fun b m h => hs.fresh b m (hown _ _ h), hs.kept⟩, hm⟩
  · intro b k hk
    obtain ⟨_, k0, h1, h2⟩ := Ctx.cut_get hk
    rw [h2]
    exact BlkRep.move hm.toMove0 rfl (fun _ _ => rfl) (hs.blk b k0 h1)
  · intro b hb
    obtain ⟨cs, h1, h2⟩ := hs.impc b hb
    refine ⟨cs.ren (keep n), ?_, by rw [Blk.solid_ren]; exact h2⟩
    show ((X.h.take n).map (Blk.ren (keep n)))[b]? = _
    rw [List.getElem?_map, List.getElem?_take, if_pos (by omega), h1]
    rfl

end Go.Eng
