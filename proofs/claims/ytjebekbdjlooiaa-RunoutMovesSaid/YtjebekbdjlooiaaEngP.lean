/- ENGINE P. For plain laws. -/
import Derived.Test.YtjebekbdjlooiaaEngZ
namespace Go.Eng

theorem run_br {α : Type} (b : Bool) (t e : Tree α) : (Tree.br b t e).run = if b = true then t.run else e.run := by cases b <;> rfl
theorem run_leaf {α : Type} (a : α) : (Tree.leaf a).run = some a := rfl
theorem run_fail {α : Type} : (Tree.fail : Tree α).run = none := rfl
theorem okR_of {R : TR} {x : Nat × List PV} (h : R.run = some x) : okR R = true := by simp [okR, h]
theorem pR_of {R : TR} {j : Nat} {ps : List PV} (h : R.run = some (j, ps)) (i : Nat) : pR R i = ps.getD i (.i 0) := by simp [pR, h]

theorem wadd_eq {x y : Int} (h : -9223372036854775808 ≤ x + y ∧ x + y ≤ 9223372036854775807) : wadd .i64 x y = x + y := by
  unfold wadd IntKind.wrap
  simp [IntKind.signed, IntKind.bits]; omega
theorem wsub_eq {x y : Int} (h : -9223372036854775808 ≤ x - y ∧ x - y ≤ 9223372036854775807) : wsub .i64 x y = x - y := by
  unfold wsub IntKind.wrap
  simp [IntKind.signed, IntKind.bits]; omega
theorem wmul_eq {x y : Int} (h : -9223372036854775808 ≤ x * y ∧ x * y ≤ 9223372036854775807) : wmul .i64 x y = x * y := by
  unfold wmul IntKind.wrap
  simp [IntKind.signed, IntKind.bits]; omega
theorem ieq_iff (x y : Int) : (ieq x y = true) = (x = y) := by simp [ieq]
theorem ine_iff (x y : Int) : (ine x y = true) = (x ≠ y) := by simp [ine]
theorem ilt_iff (x y : Int) : (ilt x y = true) = (x < y) := by simp [ilt]
theorem ile_iff (x y : Int) : (ile x y = true) = (x ≤ y) := by simp [ile]
theorem beq_iff (x y : Bool) : (Go.Eng.beq x y = true) = (x = y) := by simp [Go.Eng.beq]

theorem mulB {a b A B : Int} (h1 : -A ≤ a) (h2 : a ≤ A) (h3 : -B ≤ b) (h4 : b ≤ B) : -(A * B) ≤ a * b ∧ a * b ≤ A * B := by
  have e1 := Int.mul_nonneg (show 0 ≤ A - a by omega) (show 0 ≤ B - b by omega)
  have e2 := Int.mul_nonneg (show 0 ≤ A + a by omega) (show 0 ≤ B + b by omega)
  have e3 := Int.mul_nonneg (show 0 ≤ A - a by omega) (show 0 ≤ B + b by omega)
  have e4 := Int.mul_nonneg (show 0 ≤ A + a by omega) (show 0 ≤ B - b by omega)
  simp only [Int.sub_mul, Int.mul_sub, Int.add_mul, Int.mul_add] at e1 e2 e3 e4
  omega
theorem wneg_eq {x : Int} (h : -9223372036854775807 ≤ x ∧ x ≤ 9223372036854775807) : wsub .i64 0 x = -x := by
  rw [wsub_eq (by omega)]; omega
theorem wconv_eq {x : Int} (h : -9223372036854775808 ≤ x ∧ x ≤ 9223372036854775807) : wconv .i64 x = x := by
  unfold wconv IntKind.wrap
  simp [IntKind.signed, IntKind.bits]; omega
theorem bnot_iff (b : Bool) : ((!b) = true) = ¬ (b = true) := by cases b <;> simp
theorem band_iff (x y : Bool) : (band x y = true) = (x = true ∧ y = true) := by simp [band]
theorem inb_eq (i n : Int) : (inb i n = true) = (0 ≤ i ∧ i < n) := by simp [inb]
theorem inbe_eq (i n : Int) : (inbe i n = true) = (0 ≤ i ∧ i ≤ n) := by simp [inbe]
/-- what evaluates a printed tree, in one -/
theorem STD : (∀ (α : Type) (b : Bool) (t e : Tree α), (Tree.br b t e).run = if b = true then t.run else e.run) ∧ (∀ (α : Type) (a : α), (Tree.leaf a).run = some a) ∧ (∀ (α : Type), (Tree.fail : Tree α).run = none) ∧
    (∀ R : TR, okR R = R.run.isSome) ∧ (∀ (α : Type) (a : α), (some a).isSome = true) ∧ (∀ (R : TR) (i : Nat), gI R i = (pR R i).toI) ∧ (∀ (R : TR) (i : Nat), gB R i = (pR R i).toB) ∧ (∀ (R : TR) (i : Nat), gS R i = (pR R i).toS) ∧ (∀ (R : TR) (i : Nat), gR R i = (pR R i).toR) ∧
    (∀ (R : TR) (i : Nat), pR R i = R.run.elim (.i 0) fun r => r.2.getD i (.i 0)) ∧ (∀ (α β : Type) (b : β) (f : α → β) (a : α), (some a).elim b f = f a) ∧
    (∀ (a : PV) (l : List PV) (d : PV), (a :: l).getD 0 d = a) ∧ (∀ (a : PV) (l : List PV) (d : PV) (n : Nat), (a :: l).getD (n + 1) d = l.getD n d) ∧
    (∀ n, (PV.i n).toI = n) ∧ (∀ b, (PV.b b).toB = b) ∧ (∀ s, (PV.s s).toS = s) ∧ (∀ l, (PV.r l).toR = l) ∧
    (∀ (α : Type) (h : Decidable True) (a b : α), @ite α True h a b = a) ∧ (∀ (α : Type) (h : Decidable False) (a b : α), @ite α False h a b = b) ∧ ((false = true) = False) ∧ ((true = false) = False) ∧ ((true = true) = True) ∧
    (∀ x y, (ieq x y = true) = (x = y)) ∧ (∀ x y, (ine x y = true) = (x ≠ y)) ∧ (∀ x y, (ilt x y = true) = (x < y)) ∧ (∀ x y, (ile x y = true) = (x ≤ y)) ∧ (∀ x y, (Go.Eng.beq x y = true) = (x = y)) ∧
    (∀ x y, (band x y = true) = (x = true ∧ y = true)) ∧ (∀ b : Bool, ((!b) = true) = ¬ (b = true)) ∧ (∀ i n, (inb i n = true) = (0 ≤ i ∧ i < n)) ∧ (∀ i n, (inbe i n = true) = (0 ≤ i ∧ i ≤ n)) ∧
    (∀ (p : Prop) (_ : Decidable p), (decide p = true) = p) ∧ (∀ (α : Type) (a b : α), (a ≠ b) = ¬ (a = b)) ∧ (¬ True) = False ∧ (¬ False) = True :=
  ⟨fun _ => run_br, fun _ => run_leaf, fun _ => run_fail, fun _ => rfl, fun _ _ => rfl, fun _ _ => rfl, fun _ _ => rfl, fun _ _ => rfl, fun _ _ => rfl, fun R i => by unfold pR; cases R.run <;> rfl, fun _ _ _ _ _ => rfl,
    fun _ _ _ => rfl, fun _ _ _ _ => rfl, fun _ => rfl, fun _ => rfl, fun _ => rfl, fun _ => rfl, fun _ _ _ _ => by simp, fun _ _ _ _ => by simp, by simp, by simp, by simp, ieq_iff, ine_iff, ilt_iff, ile_iff, beq_iff,
    band_iff, bnot_iff, inb_eq, inbe_eq, fun _ _ => by simp, fun _ _ _ => rfl, by simp, by simp⟩
theorem jIs_of {R : TR} {j : Nat} {ps : List PV} (h : R.run = some (j, ps)) (i : Nat) : (jIs R i = true) = (j = i) := by simp [jIs, jR, h]

/-! ### Loops -/
theorem run_bind {α β : Type} (t : Tree α) (f : α → Tree β) : (t.bind f).run = t.run.bind fun a => (f a).run := by
  induction t with
  | leaf a => rfl
  | br b t e iht ihe => cases b <;> simp [Tree.bind, Tree.run, iht, ihe]
  | fail => rfl
theorem iterT_go {S : List PV → TR} {n : Nat} {ps qs : List PV} (h : (S ps).run = some (0, qs)) : (iterT S (n + 1) ps).run = (iterT S n qs).run := by
  simp [iterT, run_bind, h]
theorem iterT_end {S : List PV → TR} {n j : Nat} {ps qs : List PV} (h : (S ps).run = some (j + 1, qs)) : (iterT S (n + 1) ps).run = some (j, qs) := by
  simp [iterT, run_bind, h, Tree.run]
/-- a loop whose state in round i is st i: it goes on below n, but where f says that it ends; at n it ends -/
def scan {α : Type} (f : Nat → Option α) : Nat → Nat → Option α
  | _, 0 => none
  | i, k + 1 => match f i with
    | some a => some a
    | none => scan f (i + 1) k
theorem iterT_scan {S : List PV → TR} (st : Nat → List PV) (f : Nat → Option (Nat × List PV)) (fin : Nat × List PV) (n : Nat)
    (h1 : ∀ i, i < n → f i = none → (S (st i)).run = some (0, st (i + 1))) (h2 : ∀ i r, i < n → f i = some r → (S (st i)).run = some (r.1 + 1, r.2))
    (h3 : (S (st n)).run = some (fin.1 + 1, fin.2)) : ∀ (k i m : Nat), i + k = n → k < m → (iterT S m (st i)).run = some ((scan f i k).getD fin)
  | 0, i, m, hi, hm => by
    obtain ⟨m, rfl⟩ : ∃ m', m = m' + 1 := ⟨m - 1, by omega⟩
    have : i = n := by omega
    subst this
    rw [iterT_end h3]; rfl
  | k + 1, i, m, hi, hm => by
    obtain ⟨m, rfl⟩ : ∃ m', m = m' + 1 := ⟨m - 1, by omega⟩
    cases hf : f i with
    | none =>
      rw [iterT_go (h1 i (by omega) hf), iterT_scan st f fin n h1 h2 h3 k (i + 1) m (by omega) (by omega)]
      simp [scan, hf]
    | some r =>
      rw [iterT_end (h2 i r (by omega) hf)]
      simp [scan, hf]
theorem loop_scan {S : List PV → TR} (st : Nat → List PV) (f : Nat → Option (Nat × List PV)) (fin : Nat × List PV) (n : Nat) (hn : n < 9223372036854775808)
    (h1 : ∀ i, i < n → f i = none → (S (st i)).run = some (0, st (i + 1))) (h2 : ∀ i r, i < n → f i = some r → (S (st i)).run = some (r.1 + 1, r.2))
    (h3 : (S (st n)).run = some (fin.1 + 1, fin.2)) : (loopT S (st 0)).run = some ((scan f 0 n).getD fin) :=
  iterT_scan st f fin n h1 h2 h3 n 0 rounds (by omega) (Nat.lt_trans hn (by unfold rounds; decide))
/-- a loop that ends by its count alone -/
theorem loop_count {S : List PV → TR} (st : Nat → List PV) (fin : Nat × List PV) (n : Nat) (hn : n < 9223372036854775808)
    (h1 : ∀ i, i < n → (S (st i)).run = some (0, st (i + 1))) (h3 : (S (st n)).run = some (fin.1 + 1, fin.2)) : (loopT S (st 0)).run = some fin := by
  have h := loop_scan st (fun _ => none) fin n hn (fun i hi _ => h1 i hi) (fun i r _ h => by cases h) h3
  have e : ∀ k i, scan (fun _ => (none : Option (Nat × List PV))) i k = none := by
    intro k; induction k with
    | zero => intro i; rfl
    | succ k ih => intro i; simp [scan, ih]
  rw [e] at h; exact h
theorem scan_none {α : Type} {f : Nat → Option α} : ∀ {k i : Nat}, scan f i k = none → ∀ j, i ≤ j → j < i + k → f j = none
  | 0, i, _, j, h1, h2 => by omega
  | k + 1, i, h, j, h1, h2 => by
    simp only [scan] at h
    cases hf : f i with
    | some a => rw [hf] at h; cases h
    | none =>
      rw [hf] at h
      rcases Nat.eq_or_lt_of_le h1 with rfl | h1
      · exact hf
      · exact scan_none h j h1 (by omega)
theorem scan_congr {α : Type} {f g : Nat → Option α} : ∀ {k i : Nat}, (∀ j, i ≤ j → j < i + k → f j = g j) → scan f i k = scan g i k
  | 0, i, _ => rfl
  | k + 1, i, h => by
    simp only [scan]
    rw [h i (by omega) (by omega), scan_congr (fun j h1 h2 => h j (by omega) (by omega))]
theorem scan_map {α β : Type} (g : α → β) {f : Nat → Option α} : ∀ {k i : Nat}, scan (fun j => (f j).map g) i k = (scan f i k).map g
  | 0, i => rfl
  | k + 1, i => by
    simp only [scan]
    cases f i with
    | some a => rfl
    | none => exact scan_map g
theorem rlen_lt {l : R} (h : l.length ≤ maxLen) : rlen l ≤ 9223372036854775807 := by
  unfold rlen maxLen at *; omega
theorem wsucc {i n : Nat} (h : i < n) (hn : n < 9223372036854775808) : wadd .i64 (i : Int) 1 = ((i + 1 : Nat) : Int) := by
  rw [wadd_eq (by omega)]; omega
theorem scan_unit {α : Type} (n : Nat) : ∀ i, scan (fun _ => (none : Option α)) i n = none := by
  induction n with
  | zero => intro i; rfl
  | succ n ih => intro i; simp [scan, ih]
/-- the rows of numbers below n that a test picks -/
def pick (p : Nat → Bool) : Nat → R
  | 0 => []
  | n + 1 => if p n then rapp (pick p n) [[.i (n : Int)]] else pick p n
theorem pick_len (p : Nat → Bool) : ∀ n, (pick p n).length ≤ n
  | 0 => Nat.le_refl _
  | n + 1 => by
    have := pick_len p n
    unfold pick; split
    · simp [rapp]; omega
    · omega
/-! ### The first error; rows made one by one -/
def errAt (f : Nat → Int) (i : Nat) : Option Int := if f i = 0 then none else some (f i)
theorem errAt_all {f : Nat → Int} {n : Nat} (h : scan (errAt f) 0 n = none) (i : Nat) (hi : i < n) : f i = 0 := by
  have := scan_none h i (by omega) (by omega)
  unfold errAt at this; split at this
  · assumption
  · cases this
theorem errAt_ne {f : Nat → Int} : ∀ {k i : Nat} {e : Int}, scan (errAt f) i k = some e → e ≠ 0
  | 0, i, e, h => by cases h
  | k + 1, i, e, h => by
    simp only [scan] at h
    unfold errAt at h
    by_cases h0 : f i = 0
    · rw [if_pos h0] at h; exact errAt_ne h
    · rw [if_neg h0] at h; simp at h; omega
def firstE (e : Nat → Int) (n : Nat) : Int := (scan (errAt e) 0 n).getD 0
theorem firstE_zero {e : Nat → Int} {n : Nat} (h : firstE e n = 0) (i : Nat) (hi : i < n) : e i = 0 := by
  unfold firstE at h
  cases hs : scan (errAt e) 0 n with
  | none => exact errAt_all hs i hi
  | some x => rw [hs] at h; exact absurd h (errAt_ne hs)
theorem firstE_of {e : Nat → Int} {n : Nat} (h : ∀ i, i < n → e i = 0) : firstE e n = 0 := by
  unfold firstE
  rw [scan_congr (g := fun _ => none) (fun j _ hj => by unfold errAt; rw [if_pos (h j (by omega))]), scan_unit]; rfl
theorem firstE_congr {e f : Nat → Int} {n : Nat} (h : ∀ i, i < n → e i = f i) : firstE e n = firstE f n := by
  unfold firstE
  rw [scan_congr (g := errAt f) (fun j _ hj => by unfold errAt; rw [h j (by omega)])]
/-- a loop that ends at the first error -/
theorem loop_err {S : List PV → TR} (st : Nat → List PV) (e : Nat → Int) (caps fin : List PV) (n : Nat) (hn : n < 9223372036854775808)
    (h : ∀ i, i < n → (S (st i)).run = if e i = 0 then some (0, st (i + 1)) else some (2, .i (e i) :: caps)) (h3 : (S (st n)).run = some (1, fin)) :
    (loopT S (st 0)).run = some (if firstE e n = 0 then (0, fin) else (1, .i (firstE e n) :: caps)) := by
  have key := loop_scan st (fun i => (errAt e i).map fun x => (1, PV.i x :: caps)) (0, fin) n hn (fun i hi hf => by
    rw [h i hi]; unfold errAt at hf; split at hf
    · rename_i h0; rw [if_pos h0]
    · simp at hf) (fun i r hi hf => by
    rw [h i hi]; unfold errAt at hf; split at hf
    · simp at hf
    · rename_i h0; simp at hf; rw [if_neg h0, ← hf]) h3
  rw [key, scan_map]
  unfold firstE
  cases hs : scan (errAt e) 0 n with
  | none => simp
  | some x => simp [errAt_ne hs]
def mapR (g : Nat → List U) (n : Nat) : R := (List.range n).map g
theorem mapR_succ (g : Nat → List U) (n : Nat) : rapp (mapR g n) [g n] = mapR g (n + 1) := by simp [rapp, mapR, List.range_succ]
theorem mapR_len (g : Nat → List U) (n : Nat) : (mapR g n).length = n := by simp [mapR]
theorem rlen_mapR (g : Nat → List U) (n : Nat) : rlen (mapR g n) = n := by simp [rlen, mapR]
theorem cellU_mapR (g : Nat → List U) {n i : Nat} (h : i < n) (j : Nat) : cellU (mapR g n) (i : Int) j = (g i).getD j (.i 0) := by
  unfold cellU mapR
  simp [List.getD_eq_getElem?_getD, h]
theorem cI_mapR (g : Nat → List U) {n i : Nat} (h : i < n) (j : Nat) : cI (mapR g n) (i : Int) j = ((g i).getD j (.i 0)).toI := by unfold cI; rw [cellU_mapR g h]
theorem cB_mapR (g : Nat → List U) {n i : Nat} (h : i < n) (j : Nat) : cB (mapR g n) (i : Int) j = ((g i).getD j (.i 0)).toB := by unfold cB; rw [cellU_mapR g h]
theorem cS_mapR (g : Nat → List U) {n i : Nat} (h : i < n) (j : Nat) : cS (mapR g n) (i : Int) j = ((g i).getD j (.i 0)).toS := by unfold cS; rw [cellU_mapR g h]
theorem cR_mapR (g : Nat → List U) {n i : Nat} (h : i < n) (j : Nat) : cR (mapR g n) (i : Int) j = ((g i).getD j (.i 0)).toR := by unfold cR; rw [cellU_mapR g h]
theorem mapR_congr {g g' : Nat → List U} {n : Nat} (h : ∀ i, i < n → g i = g' i) : mapR g n = mapR g' n := by
  unfold mapR
  exact List.map_congr_left fun i hi => h i (List.mem_range.1 hi)
theorem mapR_room {g : Nat → List U} {i n : Nat} {K : Int} (hi : i < n) (hn : (n : Int) ≤ K) (a : List U) : rlen (mapR g i) + rlen [a] ≤ K := by
  rw [rlen_mapR]; show (i : Int) + 1 ≤ _; omega
theorem pick_room {p : Nat → Bool} {i n : Nat} {K : Int} (hi : i < n) (hn : (n : Int) ≤ K) (a : List U) : rlen (pick p i) + rlen [a] ≤ K := by
  have := pick_len p i
  show ((pick p i).length : Int) + 1 ≤ _; omega
theorem pick_congr {p q : Nat → Bool} : ∀ {n : Nat}, (∀ i, i < n → p i = q i) → pick p n = pick q n
  | 0, _ => rfl
  | n + 1, h => by
    unfold pick
    rw [h n (by omega), pick_congr fun i hi => h i (by omega)]
/-- an index in a list -/
theorem idx_lt {l : R} {i : Nat} (h : i < l.length) : (i : Int) < rlen l := by unfold rlen; omega
theorem idx_end (l : R) : ¬ ((l.length : Int) < rlen l) := by unfold rlen; omega
theorem idx_nn (i : Nat) : (0 : Int) ≤ (i : Int) := by omega
theorem rlen_one (a : List U) : rlen [a] = 1 := rfl
theorem rlen_nonneg (l : R) : 0 ≤ rlen l := by unfold rlen; omega

end Go.Eng
