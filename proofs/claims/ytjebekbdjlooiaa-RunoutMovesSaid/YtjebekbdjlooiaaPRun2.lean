import Derived.Test.YtjebekbdjlooiaaPRun1
namespace Go.Eng
/-! ### least and greatest -/
def mn : List Int → Int
  | [] => 0
  | a :: l => l.foldl imin a
def mx : List Int → Int
  | [] => 0
  | a :: l => l.foldl imax a
theorem mn_app {l : List Int} (h : l ≠ []) (a : Int) : mn (l ++ [a]) = imin (mn l) a := by
  cases l with
  | nil => exact absurd rfl h
  | cons b l => simp [mn, List.foldl_append]
theorem mx_app {l : List Int} (h : l ≠ []) (a : Int) : mx (l ++ [a]) = imax (mx l) a := by
  cases l with
  | nil => exact absurd rfl h
  | cons b l => simp [mx, List.foldl_append]
theorem mn_spec : ∀ (l : List Int) (a : Int), (∀ x, x ∈ a :: l → l.foldl imin a ≤ x) ∧ l.foldl imin a ∈ a :: l
  | [], a => by simp
  | b :: l, a => by
    obtain ⟨h1, h2⟩ := mn_spec l (imin a b)
    have ha : imin a b = a ∨ imin a b = b := by unfold imin; split <;> simp
    have hl : imin a b ≤ a ∧ imin a b ≤ b := by unfold imin; split <;> omega
    simp only [List.foldl_cons]
    have h0 := h1 (imin a b) List.mem_cons_self
    refine ⟨fun x hx => ?_, ?_⟩
    · rcases List.mem_cons.1 hx with rfl | hx
      · omega
      · rcases List.mem_cons.1 hx with rfl | hx
        · omega
        · exact h1 x (List.mem_cons_of_mem _ hx)
    · rcases List.mem_cons.1 h2 with h2 | h2
      · rw [h2]; rcases ha with ha | ha <;> rw [ha] <;> simp
      · exact List.mem_cons_of_mem _ (List.mem_cons_of_mem _ h2)
theorem mx_spec : ∀ (l : List Int) (a : Int), (∀ x, x ∈ a :: l → x ≤ l.foldl imax a) ∧ l.foldl imax a ∈ a :: l
  | [], a => by simp
  | b :: l, a => by
    obtain ⟨h1, h2⟩ := mx_spec l (imax a b)
    have ha : imax a b = a ∨ imax a b = b := by unfold imax; split <;> simp
    have hl : a ≤ imax a b ∧ b ≤ imax a b := by unfold imax; split <;> omega
    simp only [List.foldl_cons]
    have h0 := h1 (imax a b) List.mem_cons_self
    refine ⟨fun x hx => ?_, ?_⟩
    · rcases List.mem_cons.1 hx with rfl | hx
      · omega
      · rcases List.mem_cons.1 hx with rfl | hx
        · omega
        · exact h1 x (List.mem_cons_of_mem _ hx)
    · rcases List.mem_cons.1 h2 with h2 | h2
      · rw [h2]; rcases ha with ha | ha <;> rw [ha] <;> simp
      · exact List.mem_cons_of_mem _ (List.mem_cons_of_mem _ h2)
theorem mn_le {l : List Int} {x : Int} (h : x ∈ l) : mn l ≤ x := by
  cases l with
  | nil => cases h
  | cons a l => exact (mn_spec l a).1 x h
theorem mn_mem {l : List Int} (h : l ≠ []) : mn l ∈ l := by
  cases l with
  | nil => exact absurd rfl h
  | cons a l => exact (mn_spec l a).2
theorem le_mx {l : List Int} {x : Int} (h : x ∈ l) : x ≤ mx l := by
  cases l with
  | nil => cases h
  | cons a l => exact (mx_spec l a).1 x h
theorem mx_mem {l : List Int} (h : l ≠ []) : mx l ∈ l := by
  cases l with
  | nil => exact absurd rfl h
  | cons a l => exact (mx_spec l a).2
def rowI (l : List Int) : R := l.map fun v => [.i v]
theorem rowI_len (l : List Int) : rlen (rowI l) = l.length := by simp [rlen, rowI]
theorem rowI_cI {l : List Int} {i : Nat} (h : i < l.length) : cI (rowI l) i 0 = l[i] := by
  unfold cI cellU rowI
  simp [List.getD_eq_getElem?_getD, h, U.toI]
theorem take_step {l : List Int} {i : Nat} (h : i < l.length) : l.take (i + 1) = l.take i ++ [l[i]] := by
  rw [List.take_add_one]; simp [h]
theorem take_ne {l : List Int} (h : 0 < l.length) (i : Nat) : l.take (i + 1) ≠ [] := by
  cases l with
  | nil => simp at h
  | cons a l => simp
theorem p_slices_Min (l : List Int) (h0 : 0 < l.length) (hl : l.length < 1000000000000) : (slices_Min_int_int_T [.r (rowI l)]).run = some (0, [.i (mn l)]) := by
  rw [slices_Min_int_int_eq]
  have k := loop_count (S := slices_Min_int_int_L6S) (fun i => [.r (rowI l), .i (mn (l.take (i + 1))), .i ((i + 1 : Nat) : Int)]) (0, [.i (mn l)]) (l.length - 1) (by omega) (fun i hi => by
    rw [slices_Min_int_int_L6eq]
    have h1 : i + 1 < l.length := by omega
    simp only [STD, rowI_len, show ((i + 1 : Nat) : Int) < (l.length : Int) by omega, idx_nn, and_self, rowI_cI h1, wsucc h1 (by omega), ← mn_app (take_ne h0 i), ← take_step h1]) (by
    rw [slices_Min_int_int_L6eq]
    simp only [STD, rowI_len, show ¬ ((l.length - 1 + 1 : Nat) : Int) < (l.length : Int) by omega, show l.length - 1 + 1 = l.length by omega, List.take_length, Int.lt_irrefl])
  have e0 : mn (l.take (0 + 1)) = cI (rowI l) 0 0 := by
    have := rowI_cI h0
    rw [show ((0 : Nat) : Int) = 0 from rfl] at this
    rw [this, take_step h0]; simp [mn]
  simp only [e0] at k
  have k' : (loopT slices_Min_int_int_L6S [.r (rowI l), .i (cI (rowI l) 0 0), .i 1]).run = _ := k
  have h1 : ¬ rlen (rowI l) < 1 := by rw [rowI_len]; omega
  have h2 : (0 : Int) < rlen (rowI l) := by rw [rowI_len]; omega
  simp only [STD, h1, h2, k', Int.le_refl, and_self]
theorem p_slices_Max (l : List Int) (h0 : 0 < l.length) (hl : l.length < 1000000000000) : (slices_Max_int_int_T [.r (rowI l)]).run = some (0, [.i (mx l)]) := by
  rw [slices_Max_int_int_eq]
  have k := loop_count (S := slices_Max_int_int_L6S) (fun i => [.r (rowI l), .i (mx (l.take (i + 1))), .i ((i + 1 : Nat) : Int)]) (0, [.i (mx l)]) (l.length - 1) (by omega) (fun i hi => by
    rw [slices_Max_int_int_L6eq]
    have h1 : i + 1 < l.length := by omega
    simp only [STD, rowI_len, show ((i + 1 : Nat) : Int) < (l.length : Int) by omega, idx_nn, and_self, rowI_cI h1, wsucc h1 (by omega), ← mx_app (take_ne h0 i), ← take_step h1]) (by
    rw [slices_Max_int_int_L6eq]
    simp only [STD, rowI_len, show ¬ ((l.length - 1 + 1 : Nat) : Int) < (l.length : Int) by omega, show l.length - 1 + 1 = l.length by omega, List.take_length, Int.lt_irrefl])
  have e0 : mx (l.take (0 + 1)) = cI (rowI l) 0 0 := by
    have := rowI_cI h0
    rw [show ((0 : Nat) : Int) = 0 from rfl] at this
    rw [this, take_step h0]; simp [mx]
  simp only [e0] at k
  have k' : (loopT slices_Max_int_int_L6S [.r (rowI l), .i (cI (rowI l) 0 0), .i 1]).run = _ := k
  have h1 : ¬ rlen (rowI l) < 1 := by rw [rowI_len]; omega
  have h2 : (0 : Int) < rlen (rowI l) := by rw [rowI_len]; omega
  simp only [STD, h1, h2, k', Int.le_refl, and_self]
/-! ### squared radii -/
def sqr (x y : Int) : Int := x * x + y * y
def far (ax ay : Int) (l : R) (i : Nat) : Int := sqr (cI l i 0 - ax) (cI l i 1 - ay)
def rad (ax ay : Int) (l : R) : List Int := (List.range l.length).map (far ax ay l)
theorem rad_len (ax ay : Int) (l : R) : (rad ax ay l).length = l.length := by simp [rad]
theorem rad_get (ax ay : Int) (l : R) {i : Nat} (h : i < (rad ax ay l).length) : (rad ax ay l)[i] = far ax ay l i := by simp [rad]
/-- points and axis are right -/
def okP (ax ay : Int) (l : R) : Prop := ptE ax ay = 0 ∧ ∀ i, i < l.length → ptA l i = 0
theorem sq_b {x : Int} (h1 : -200000 ≤ x) (h2 : x ≤ 200000) : 0 ≤ x * x ∧ x * x ≤ 40000000000 := by
  have := mulB h1 h2 h1 h2
  have h3 : 0 ≤ x * x := by
    rcases (show 0 ≤ x ∨ 0 ≤ -x by omega) with h | h
    · exact Int.mul_nonneg h h
    · have := Int.mul_nonneg h h; rwa [Int.neg_mul_neg] at this
  omega
theorem far_w {ax ay x y : Int} (h : ptE ax ay = 0) (h2 : ptE x y = 0) :
    wadd .i64 (wmul .i64 (wsub .i64 x ax) (wsub .i64 x ax)) (wmul .i64 (wsub .i64 y ay) (wsub .i64 y ay)) = sqr (x - ax) (y - ay) ∧ 0 ≤ sqr (x - ax) (y - ay) ∧ sqr (x - ax) (y - ay) ≤ 80000000000 := by
  obtain ⟨a1, a2, a3, a4⟩ := ptE_zero h
  obtain ⟨b1, b2, b3, b4⟩ := ptE_zero h2
  have e1 : wsub .i64 x ax = x - ax := wsub_eq (by omega)
  have e2 : wsub .i64 y ay = y - ay := wsub_eq (by omega)
  have q1 := sq_b (x := x - ax) (by omega) (by omega)
  have q2 := sq_b (x := y - ay) (by omega) (by omega)
  rw [e1, e2, wmul_eq (by omega), wmul_eq (by omega), wadd_eq (by omega)]
  unfold sqr
  exact ⟨rfl, by omega, by omega⟩
theorem p_ref07_Far {ax ay x y : Int} (h : ptE ax ay = 0) (h2 : ptE x y = 0) : (ref07_Far_T [.i x, .i y, .i ax, .i ay]).run = some (0, [.i (sqr (x - ax) (y - ay))]) := by
  have e1 : (ref07_Minus_T [.i x, .i y, .i ax, .i ay]).run = some (0, [.i (wsub .i64 x ax), .i (wsub .i64 y ay)]) := by rw [ref07_Minus_eq]; rfl
  have e2 : ∀ a b c d : Int, (ref07_Times_T [.i a, .i b, .i c, .i d]).run = some (0, [.i (wadd .i64 (wmul .i64 a c) (wmul .i64 b d))]) := fun a b c d => by rw [ref07_Times_eq]; rfl
  rw [ref07_Far_eq]
  simp only [STD, e1, e2, (far_w h h2).1]
theorem p_ref38_Ends {ax ay : Int} {l : R} (h : okP ax ay l) (h0 : 0 < l.length) (hl : l.length < 1000000000000) : (ref38_Ends_T [.r l, .i ax, .i ay]).run = some (0, [.i (mn (rad ax ay l)), .i (mx (rad ax ay l))]) := by
  rw [ref38_Ends_eq]
  have hR := rad_len ax ay l
  have hR0 : 0 < (rad ax ay l).length := by omega
  have hfar : ∀ i, i < l.length → (ref07_Far_T [.i (cI l i 0), .i (cI l i 1), .i ax, .i ay]).run = some (0, [.i (far ax ay l i)]) := fun i hi => p_ref07_Far h.1 (h.2 i hi)
  have k := loop_count (S := ref38_Ends_L4S) (fun i => [.r l, .i (mn ((rad ax ay l).take (i + 1))), .i (mx ((rad ax ay l).take (i + 1))), .i ((i + 1 : Nat) : Int), .i ax, .i ay]) (0, [.i (mn (rad ax ay l)), .i (mx (rad ax ay l))]) (l.length - 1) (by omega) (fun i hi => by
    have h1 : i + 1 < l.length := by omega
    have h1' : i + 1 < (rad ax ay l).length := by omega
    rw [ref38_Ends_L4eq]
    simp only [STD, idx_lt h1, idx_nn, and_self, hfar _ h1, wsucc h1 (by omega)]
    rw [← rad_get ax ay l h1', ← mn_app (take_ne hR0 i), ← mx_app (take_ne hR0 i), ← take_step h1']) (by
    rw [ref38_Ends_L4eq]
    simp only [STD, show l.length - 1 + 1 = l.length by omega, idx_end]
    rw [List.take_of_length_le (by omega)])
  have e0 : (rad ax ay l).take (0 + 1) = [far ax ay l 0] := by
    rw [take_step hR0, rad_get]; rfl
  simp only [e0] at k
  have k' : (loopT ref38_Ends_L4S [.r l, .i (far ax ay l 0), .i (far ax ay l 0), .i 1, .i ax, .i ay]).run = _ := k
  have hf0 := hfar 0 h0
  rw [show ((0 : Nat) : Int) = 0 from rfl] at hf0
  have h2 : (0 : Int) < rlen l := by unfold rlen; omega
  simp only [STD, hf0, h2, k', Int.le_refl, and_self]
/-! ### radii of lists of points, in rows -/
def radAt (ax ay : Int) (m : R) (k : Nat) : List Int := ((List.range k).map fun i : Nat => rad ax ay (cR m (i : Int) 0)).flatten
theorem radAt_succ (ax ay : Int) (m : R) (k : Nat) : radAt ax ay m (k + 1) = radAt ax ay m k ++ rad ax ay (cR m k 0) := by simp [radAt, List.range_succ]
theorem rowI_app (l : List Int) (v : Int) : rapp (rowI l) [[.i v]] = rowI (l ++ [v]) := by simp [rapp, rowI]
theorem radAt_len {ax ay : Int} {m : R} (h : ∀ i, i < m.length → (cR m i 0).length ≤ 64) : ∀ k, k ≤ m.length → (radAt ax ay m k).length ≤ 64 * k
  | 0, _ => by simp [radAt]
  | k + 1, hk => by
    have := radAt_len (ax := ax) (ay := ay) h k (by omega)
    rw [radAt_succ, List.length_append, rad_len]
    have := h k (by omega)
    omega
theorem p_radii_inner {ax ay : Int} {m l : R} {n k : Int} {A : List Int} (h : okP ax ay l) (hl : l.length ≤ 64) (hA : A.length ≤ 1000000) :
    (loopT runout_radii_L10S [.r m, .i n, .i k, .r l, .i (rlen l), .i 0, .i ax, .i ay, .r (rowI A)]).run = some (0, [.r m, .i n, .i k, .i ax, .i ay, .r (rowI (A ++ rad ax ay l))]) := by
  have hR := rad_len ax ay l
  have kk := loop_count (S := runout_radii_L10S) (fun i => [.r m, .i n, .i k, .r l, .i (rlen l), .i (i : Int), .i ax, .i ay, .r (rowI (A ++ (rad ax ay l).take i))]) (0, [.r m, .i n, .i k, .i ax, .i ay, .r (rowI (A ++ rad ax ay l))]) l.length (by omega) (fun i hi => by
    rw [runout_radii_L10eq]
    have hi' : i < (rad ax ay l).length := by omega
    simp only [STD, idx_lt hi, idx_nn, and_self, wsucc hi (by omega), (far_w h.1 (h.2 i hi)).1, rlen_one, rowI_len]
    have hle : ((A ++ (rad ax ay l).take i).length : Int) + 1 ≤ 17592186044416 := by simp; omega
    rw [if_pos hle, rowI_app, take_step hi', rad_get, ← List.append_assoc]; rfl) (by
    rw [runout_radii_L10eq]
    simp only [STD, idx_end]
    rw [List.take_of_length_le (by omega)])
  simpa using kk
theorem p_runout_radii {ax ay : Int} {m : R} (hm : m.length ≤ 1000) (h : ∀ i, i < m.length → okP ax ay (cR m i 0)) (hl : ∀ i, i < m.length → (cR m i 0).length ≤ 64) (h0 : 0 < (radAt ax ay m m.length).length) :
    (runout_radii_T [.i ax, .i ay, .r m]).run = some (0, [.i (mn (radAt ax ay m m.length)), .i (mx (radAt ax ay m m.length))]) := by
  rw [runout_radii_eq]
  have k := loop_count (S := runout_radii_L4S) (fun i => [.r m, .i (rlen m), .i (i : Int), .i ax, .i ay, .r (rowI (radAt ax ay m i))]) (0, [.r (rowI (radAt ax ay m m.length))]) m.length (by omega) (fun i hi => by
    rw [runout_radii_L4eq]
    have hA := radAt_len (ax := ax) (ay := ay) hl i (by omega)
    simp only [STD, idx_lt hi, idx_nn, and_self, p_radii_inner (m := m) (n := rlen m) (k := (i : Int)) (h i hi) (hl i hi) (show (radAt ax ay m i).length ≤ 1000000 by omega), wsucc hi (by omega), radAt_succ]) (by
    rw [runout_radii_L4eq]
    simp only [STD, idx_end])
  have k' : (loopT runout_radii_L4S [.r m, .i (rlen m), .i 0, .i ax, .i ay, .r []]).run = _ := k
  have hA := radAt_len (ax := ax) (ay := ay) hl m.length (Nat.le_refl _)
  simp only [STD, k', p_slices_Min _ h0 (by omega), p_slices_Max _ h0 (by omega)]
/-! ### near -/
def nearP (lo hi t : Int) : Prop := hi - lo - t * t ≤ 0 ∨ (hi - lo - t * t) * (hi - lo - t * t) ≤ 4 * t * t * lo
instance (lo hi t : Int) : Decidable (nearP lo hi t) := by unfold nearP; exact inferInstance
theorem p_times {a b : Int} (ha : 0 ≤ a) (ha2 : a < 1099511627776) (hb : 0 ≤ b) (hb2 : b < 1099511627776) :
    ∃ h l, (runout_times_T [.i a, .i b]).run = some (0, [.i h, .i l]) ∧ h * 1099511627776 + l = a * b ∧ 0 ≤ l ∧ l < 1099511627776 := by
  have q : ∀ x : Int, 0 ≤ x → x < 9223372036854775808 → wquo .i64 x 1048576 = x / 1048576 := fun x hx hx2 => by
    unfold wquo; rw [Int.tdiv_eq_ediv_of_nonneg hx]
    have := wadd_eq (x := x / 1048576) (y := 0) (by omega)
    unfold wadd at this; rwa [Int.add_zero] at this
  have q2 : ∀ x : Int, 0 ≤ x → x < 9223372036854775808 → wquo .i64 x 1099511627776 = x / 1099511627776 := fun x hx hx2 => by
    unfold wquo; rw [Int.tdiv_eq_ediv_of_nonneg hx]
    have := wadd_eq (x := x / 1099511627776) (y := 0) (by omega)
    unfold wadd at this; rwa [Int.add_zero] at this
  have r : ∀ x n : Int, 0 ≤ x → wrem x n = x % n := fun x n hx => by unfold wrem; rw [Int.tmod_eq_emod_of_nonneg hx]
  obtain ⟨a1, hq1⟩ : ∃ z, z = a / 1048576 := ⟨_, rfl⟩
  obtain ⟨a0, hr1⟩ : ∃ z, z = a % 1048576 := ⟨_, rfl⟩
  obtain ⟨b1, hq2⟩ : ∃ z, z = b / 1048576 := ⟨_, rfl⟩
  obtain ⟨b0, hr2⟩ : ∃ z, z = b % 1048576 := ⟨_, rfl⟩
  have ea : a = 1048576 * a1 + a0 := by omega
  have eb : b = 1048576 * b1 + b0 := by omega
  have p11 := mulB (a := a1) (b := b1) (A := 1048575) (B := 1048575) (by omega) (by omega) (by omega) (by omega)
  have p10 := mulB (a := a1) (b := b0) (A := 1048575) (B := 1048575) (by omega) (by omega) (by omega) (by omega)
  have p01 := mulB (a := a0) (b := b1) (A := 1048575) (B := 1048575) (by omega) (by omega) (by omega) (by omega)
  have p00 := mulB (a := a0) (b := b0) (A := 1048575) (B := 1048575) (by omega) (by omega) (by omega) (by omega)
  have n11 := Int.mul_nonneg (show 0 ≤ a1 by omega) (show 0 ≤ b1 by omega)
  have n10 := Int.mul_nonneg (show 0 ≤ a1 by omega) (show 0 ≤ b0 by omega)
  have n01 := Int.mul_nonneg (show 0 ≤ a0 by omega) (show 0 ≤ b1 by omega)
  have n00 := Int.mul_nonneg (show 0 ≤ a0 by omega) (show 0 ≤ b0 by omega)
  have eab : a * b = 1099511627776 * (a1 * b1) + 1048576 * (a1 * b0 + a0 * b1) + a0 * b0 := by rw [ea, eb]; grind
  have w10 : wmul .i64 a1 b0 = a1 * b0 := wmul_eq (by omega)
  have w01 : wmul .i64 a0 b1 = a0 * b1 := wmul_eq (by omega)
  have w11 : wmul .i64 a1 b1 = a1 * b1 := wmul_eq (by omega)
  have w00 : wmul .i64 a0 b0 = a0 * b0 := wmul_eq (by omega)
  rw [eab, runout_times_eq]
  simp only [q a ha (by omega), q b hb (by omega), r a _ ha, r b _ hb, ← hq1, ← hq2, ← hr1, ← hr2, w10, w01, w11, w00]
  generalize a1 * b1 = x11 at *
  generalize a1 * b0 = x10 at *
  generalize a0 * b1 = x01 at *
  generalize a0 * b0 = x00 at *
  have wm : wadd .i64 x10 x01 = x10 + x01 := wadd_eq (by omega)
  have wml : wmul .i64 ((x10 + x01) % 1048576) 1048576 = (x10 + x01) % 1048576 * 1048576 := wmul_eq (by omega)
  have wl : wadd .i64 x00 ((x10 + x01) % 1048576 * 1048576) = x00 + (x10 + x01) % 1048576 * 1048576 := wadd_eq (by omega)
  have wh1 : wadd .i64 x11 ((x10 + x01) / 1048576) = x11 + (x10 + x01) / 1048576 := wadd_eq (by omega)
  have wh : wadd .i64 (x11 + (x10 + x01) / 1048576) ((x00 + (x10 + x01) % 1048576 * 1048576) / 1099511627776) = x11 + (x10 + x01) / 1048576 + (x00 + (x10 + x01) % 1048576 * 1048576) / 1099511627776 := wadd_eq (by omega)
  simp only [wm, q _ (show 0 ≤ x10 + x01 by omega) (by omega), r _ _ (show 0 ≤ x10 + x01 by omega), wml, wl, r _ _ (show 0 ≤ x00 + (x10 + x01) % 1048576 * 1048576 by omega), q2 _ (show 0 ≤ x00 + (x10 + x01) % 1048576 * 1048576 by omega) (by omega), wh1, wh]
  exact ⟨_, _, rfl, by omega, by omega, by omega⟩
end Go.Eng
