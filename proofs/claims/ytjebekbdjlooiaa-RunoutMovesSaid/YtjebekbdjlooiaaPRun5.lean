import Derived.Test.YtjebekbdjlooiaaPRun4
namespace Go.Eng
/-! ### RunoutFaces -/
def spE (x y z : Int) : Int := if -100000 ≤ x ∧ x ≤ 100000 ∧ -100000 ≤ y ∧ y ≤ 100000 ∧ -100000 ≤ z ∧ z ≤ 100000 then 0 else 2
def spA (l : R) (i : Nat) : Int := spE (cI l i 0) (cI l i 1) (cI l i 2)
def spchk (l : R) : Int := if 64 < rlen l then 5 else firstE (spA l) l.length
theorem spE_cases (x y z : Int) : spE x y z = 0 ∨ spE x y z = 2 := by unfold spE; split <;> simp
theorem spE_zero {x y z : Int} (h : spE x y z = 0) : -100000 ≤ x ∧ x ≤ 100000 ∧ -100000 ≤ y ∧ y ≤ 100000 ∧ -100000 ≤ z ∧ z ≤ 100000 := by
  unfold spE at h; split at h
  · assumption
  · omega
theorem p_vector_high (x y z : Int) : (vector_high_T [.i x, .i y, .i z]).run = some (0, [.b (decide (spE x y z = 0))]) := by
  rw [vector_high_eq]; simp only [STD, p_vector_within]; unfold spE
  by_cases h : -100000 ≤ x ∧ x ≤ 100000
  · by_cases h2 : -100000 ≤ y ∧ y ≤ 100000
    · by_cases h3 : -100000 ≤ z ∧ z ≤ 100000
      · simp [h, h2, h3]
      · simp [h, h2]
    · simp [h, h2]; intro h5 h6; exact absurd ⟨h5, h6⟩ h2
  · simp [h]; intro h5 h6; exact absurd ⟨h5, h6⟩ h
theorem p_ref07_RightSpot (x y z : Int) : (ref07_RightSpot_T [.i x, .i y, .i z]).run = some (0, [.b (decide (spE x y z = 0))]) := by
  rw [ref07_RightSpot_eq]; simp only [STD, p_ref07_in]; unfold spE
  by_cases h : -100000 ≤ x ∧ x ≤ 100000
  · by_cases h2 : -100000 ≤ y ∧ y ≤ 100000
    · by_cases h3 : -100000 ≤ z ∧ z ≤ 100000
      · simp [h, h2, h3]
      · simp [h, h2]
    · simp [h, h2]; intro h5 h6; exact absurd ⟨h5, h6⟩ h2
  · simp [h]; intro h5 h6; exact absurd ⟨h5, h6⟩ h
theorem p_vector_allS (l : R) (hl : l.length < 9223372036854775808) : (vector_all_api_Spot_T [.r l]).run = some (0, [.i (firstE (spA l) l.length)]) := by
  rw [vector_all_api_Spot_eq]
  have k := loop_err (S := vector_all_api_Spot_L3S) (fun i => [.r l, .i (rlen l), .i (i : Int)]) (spA l) [] [] l.length hl (fun i hi => by
    rw [vector_all_api_Spot_L3eq]
    simp only [STD, idx_lt hi, idx_nn, p_vector_high, and_self, wsucc hi hl]
    show (if ¬ spA l i = 0 then _ else _) = _
    have := spE_cases (cI l i 0) (cI l i 1) (cI l i 2)
    by_cases he : spA l i = 0
    · simp [he]
    · have : spA l i = 2 := by unfold spA at *; omega
      simp [this]) (by
    rw [vector_all_api_Spot_L3eq]
    simp only [STD, idx_end])
  by_cases hf : firstE (spA l) l.length = 0
  · rw [if_pos hf] at k
    have k' : (loopT vector_all_api_Spot_L3S [.r l, .i (rlen l), .i 0]).run = _ := k
    simp only [STD, k', jIs_of k', hf]
  · rw [if_neg hf] at k
    have k' : (loopT vector_all_api_Spot_L3S [.r l, .i (rlen l), .i 0]).run = _ := k
    simp only [STD, k', jIs_of k', show ¬ ((1 : Nat) = 0) by decide]
theorem p_vector_CheckSpots (l : R) : (vector_CheckSpots_T [.r l]).run = some (0, [.i (spchk l)]) := by
  rw [vector_CheckSpots_eq]
  have e : (vector_checked_api_Spot_T [.r l]).run = some (0, [.i (spchk l)]) := by
    rw [vector_checked_api_Spot_eq]
    unfold spchk
    by_cases h : 64 < rlen l
    · simp only [STD, h]
    · simp only [STD, h, p_vector_allS l (by unfold rlen at h; omega)]
  simp only [STD, e]
theorem p_ref07_CheckSpots (l : R) : (ref07_CheckSpots_T [.r l]).run = some (0, [.i (spchk l)]) := by
  rw [ref07_CheckSpots_eq]
  unfold spchk
  by_cases h : 64 < rlen l
  · simp only [STD, h]
  · have hl : l.length < 9223372036854775808 := by unfold rlen at h; omega
    have k := loop_err (S := ref07_CheckSpots_L6S) (fun i => [.r l, .i (i : Int)]) (spA l) [] [] l.length hl (fun i hi => by
      rw [ref07_CheckSpots_L6eq]
      simp only [STD, idx_lt hi, idx_nn, p_ref07_RightSpot, and_self, wsucc hi hl]
      show (if ¬ spA l i = 0 then _ else _) = _
      have := spE_cases (cI l i 0) (cI l i 1) (cI l i 2)
      by_cases he : spA l i = 0
      · simp [he]
      · have : spA l i = 2 := by unfold spA at *; omega
        simp [this]) (by
      rw [ref07_CheckSpots_L6eq]
      simp only [STD, idx_end])
    by_cases hf : firstE (spA l) l.length = 0
    · rw [if_pos hf] at k
      have k' : (loopT ref07_CheckSpots_L6S [.r l, .i 0]).run = _ := k
      simp only [STD, k', jIs_of k', hf, h]
    · rw [if_neg hf] at k
      have k' : (loopT ref07_CheckSpots_L6S [.r l, .i 0]).run = _ := k
      simp only [STD, k', jIs_of k', h, show ¬ ((1 : Nat) = 0) by decide]
def co (l : R) (ax : Int) (i : Nat) : Int := isel [cI l i 0, cI l i 1, cI l i 2] ax
def coL (l : R) (ax : Int) : List Int := (List.range l.length).map (co l ax)
theorem coL_len (l : R) (ax : Int) : (coL l ax).length = l.length := by simp [coL]
theorem coL_get (l : R) (ax : Int) {i : Nat} (h : i < (coL l ax).length) : (coL l ax)[i] = co l ax i := by simp [coL]
theorem co_b {l : R} {ax : Int} (ha : 0 ≤ ax) (hb : ax < 3) {i : Nat} (h : spA l i = 0) : -100000 ≤ co l ax i ∧ co l ax i ≤ 100000 := by
  obtain ⟨a1, a2, a3, a4, a5, a6⟩ := spE_zero h
  have h3 : ax = 0 ∨ ax = 1 ∨ ax = 2 := by omega
  unfold co isel
  rcases h3 with rfl | rfl | rfl <;> simp <;> omega
def faceC (l : R) (ax t : Int) : Int := if spchk l ≠ 0 then spchk l else if rlen l = 0 then 13 else if ax < 0 ∨ 3 ≤ ax then 1 else if t < 0 ∨ 100000 < t then 2 else 0
def faceB (l : R) (ax t : Int) : Bool := decide (mx (coL l ax) - mn (coL l ax) ≤ t)
def faceL (l : R) (ax t : Int) : List PV := if faceC l ax t ≠ 0 then [.b false, .i (faceC l ax t)] else [.b (faceB l ax t), .i 0]
theorem coL_ne {l : R} (ax : Int) (h : 0 < l.length) : coL l ax ≠ [] := by
  intro e
  have := coL_len l ax
  rw [e] at this; simp at this; omega
theorem mem_coL {l : R} {ax x : Int} : x ∈ coL l ax ↔ ∃ j, j < l.length ∧ x = co l ax j := by
  unfold coL
  simp only [List.mem_map, List.mem_range]
  exact ⟨fun ⟨j, h1, h2⟩ => ⟨j, h1, h2.symm⟩, fun ⟨j, h1, h2⟩ => ⟨j, h1, h2.symm⟩⟩
theorem p_runout_Face (l : R) (ax t : Int) : (runout_Face_T [.r l, .i ax, .i t]).run = some (0, faceL l ax t) := by
  rw [runout_Face_eq]
  simp only [STD, p_vector_CheckSpots, p_runout_tolerance]
  unfold faceL faceC
  by_cases hc : spchk l = 0
  · by_cases h0 : rlen l = 0
    · simp [hc, h0]
    · by_cases h1 : ax < 0
      · simp [hc, h0, h1]
      · by_cases h2 : 3 ≤ ax
        · simp [hc, h0, h1, h2]
        · by_cases h6 : 0 ≤ t ∧ t ≤ 100000
          · have hl : l.length ≤ 64 ∧ ∀ i, i < l.length → spA l i = 0 := by
              unfold spchk at hc
              split at hc
              · omega
              · rename_i h1; unfold rlen at h1; exact ⟨by omega, firstE_zero hc⟩
            have hpos : 0 < l.length := by unfold rlen at h0; omega
            have hR := coL_len l ax
            have k := loop_count (S := runout_Face_L15S) (fun i => [.i ax, .i t, .r l, .i (rlen l), .i (i : Int), .r (rowI ((coL l ax).take i))]) (0, [.i t, .r (rowI (coL l ax))]) l.length (by omega) (fun i hi => by
              rw [runout_Face_L15eq]
              have hi' : i < (coL l ax).length := by omega
              have hle : (((coL l ax).take i).length : Int) + 1 ≤ 17592186044416 := by simp; omega
              simp only [STD, idx_lt hi, idx_nn, and_self, wsucc hi (by omega), show 0 ≤ ax by omega, show ax < 3 by omega, rlen_one, rowI_len, hle, rowI_app, take_step hi', coL_get]
              rfl) (by
              rw [runout_Face_L15eq]
              simp only [STD, idx_end]
              rw [List.take_of_length_le (by omega)])
            have k' : (loopT runout_Face_L15S [.i ax, .i t, .r l, .i (rlen l), .i 0, .r []]).run = _ := k
            have b1 := mn_mem (coL_ne ax hpos)
            have b2 := mx_mem (coL_ne ax hpos)
            obtain ⟨i1, q1, q2⟩ := mem_coL.1 b1
            obtain ⟨i2, q3, q4⟩ := mem_coL.1 b2
            have r1 := co_b (ax := ax) (by omega) (by omega) (hl.2 i1 q1)
            have r2 := co_b (ax := ax) (by omega) (by omega) (hl.2 i2 q3)
            have ew : wsub .i64 (mx (coL l ax)) (mn (coL l ax)) = mx (coL l ax) - mn (coL l ax) := wsub_eq (by omega)
            simp only [hc, h0, h1, h2, h6, STD, k', p_slices_Max (coL l ax) (by omega) (by omega), p_slices_Min (coL l ax) (by omega) (by omega), ew, show ¬ (t < 0 ∨ 100000 < t) by omega, or_self, and_self, decide_true]
            rfl
          · simp only [hc, h0, h1, h2, h6, STD, show (t < 0 ∨ 100000 < t) by omega, or_self, decide_false]
            simp
  · simp [hc]
theorem p_ref18_Axis (x : Int) : (ref18_Axis_T [.i x]).run = some (0, [.i (if x < 0 ∨ 3 ≤ x then 1 else 0)]) := by
  rw [ref18_Axis_eq]; simp only [STD]
  by_cases h : x < 0
  · simp [h]
  · by_cases h2 : 3 ≤ x <;> simp [h, h2]
theorem p_ref18_Coordinates (x y z : Int) : (ref18_Coordinates_T [.i x, .i y, .i z]).run = some (0, [.i x, .i y, .i z]) := by rw [ref18_Coordinates_eq]; rfl
theorem p_ref38_Tol (t : Int) : (ref38_Tol_T [.i t]).run = some (0, [.i (if t < 0 ∨ 100000 < t then 2 else 0)]) := by
  rw [ref38_Tol_eq]; simp only [STD]
  by_cases h : t < 0
  · simp [h]
  · by_cases h2 : 100000 < t <;> simp [h, h2]
def pairBad (l : R) (ax t : Int) (i k : Nat) : Bool := decide (t < co l ax i - co l ax k)
open Classical in
theorem scan_bool {p : Nat → Bool} : ∀ (k i : Nat), scan (fun j => if p j = true then some ((1 : Nat), [PV.b false, PV.i 0]) else none) i k = if ∃ j, i ≤ j ∧ j < i + k ∧ p j = true then some ((1 : Nat), [PV.b false, PV.i 0]) else none
  | 0, i => by
    rw [if_neg (by rintro ⟨j, h1, h2, _⟩; omega)]; rfl
  | k + 1, i => by
    simp only [scan]
    by_cases hp : p i = true
    · rw [if_pos hp, if_pos ⟨i, by omega, by omega, hp⟩]
    · rw [if_neg hp]
      show scan _ (i + 1) k = _
      rw [scan_bool k (i + 1)]
      by_cases h : ∃ j, i + 1 ≤ j ∧ j < i + 1 + k ∧ p j = true
      · obtain ⟨j, h1, h2, h3⟩ := h
        rw [if_pos ⟨j, h1, h2, h3⟩, if_pos ⟨j, by omega, by omega, h3⟩]
      · rw [if_neg h, if_neg]
        rintro ⟨j, h1, h2, h3⟩
        rcases Nat.eq_or_lt_of_le h1 with rfl | h1
        · exact hp h3
        · exact h ⟨j, h1, by omega, h3⟩
open Classical in
theorem p_ref38_Face (l : R) (ax t : Int) : (ref38_Face_T [.r l, .i ax, .i t]).run = some (0, faceL l ax t) := by
  rw [ref38_Face_eq]
  simp only [STD, p_ref07_CheckSpots, p_ref18_Axis, p_ref38_Tol]
  unfold faceL faceC
  by_cases hc : spchk l = 0
  · by_cases h0 : rlen l = 0
    · simp [hc, h0]
    · by_cases h1 : ax < 0 ∨ 3 ≤ ax
      · simp [hc, h0, h1]
      · by_cases h6 : t < 0 ∨ 100000 < t
        · simp [hc, h0, h1, h6]
        · have hl : l.length ≤ 64 ∧ ∀ i, i < l.length → spA l i = 0 := by
            unfold spchk at hc
            split at hc
            · omega
            · rename_i h1; unfold rlen at h1; exact ⟨by omega, firstE_zero hc⟩
          have hpos : 0 < l.length := by unfold rlen at h0; omega
          have ha : 0 ≤ ax ∧ ax < 3 := by omega
          have inner : ∀ i : Nat, i < l.length → (loopT ref38_Face_L23S [.r l, .i ax, .i t, .i (i : Int), .i 0]).run =
              some (if ∃ k, k < l.length ∧ pairBad l ax t i k = true then (1, [.b false, .i 0]) else (0, [.r l, .i ax, .i t, .i (i : Int)])) := fun i hi => by
            have hw : ∀ k : Nat, k < l.length → wsub .i64 (co l ax i) (co l ax k) = co l ax i - co l ax k := fun k hk => by
              have r1 := co_b (ax := ax) ha.1 ha.2 (hl.2 i hi)
              have r2 := co_b (ax := ax) ha.1 ha.2 (hl.2 k hk)
              exact wsub_eq (by omega)
            have kk := loop_scan (S := ref38_Face_L23S) (fun k => [.r l, .i ax, .i t, .i (i : Int), .i (k : Int)]) (fun k => if pairBad l ax t i k = true then some (1, [.b false, .i 0]) else none) (0, [.r l, .i ax, .i t, .i (i : Int)]) l.length (by omega) (fun k hk hf => by
              have hn : ¬ t < co l ax i - co l ax k := by
                intro h
                rw [if_pos (show pairBad l ax t i k = true from decide_eq_true h)] at hf; cases hf
              rw [ref38_Face_L23eq]
              simp only [STD, idx_lt hk, idx_lt hi, idx_nn, ha, p_ref18_Coordinates, and_self, wsucc hk (by omega)]
              show (if t < wsub .i64 (co l ax i) (co l ax k) then _ else _) = _
              rw [hw k hk, if_neg hn]) (fun k r hk hf => by
              have hn : t < co l ax i - co l ax k ∧ r = (1, [.b false, .i 0]) := by
                by_cases h : pairBad l ax t i k = true
                · rw [if_pos h] at hf; exact ⟨of_decide_eq_true h, by simpa using hf.symm⟩
                · rw [if_neg h] at hf; cases hf
              rw [ref38_Face_L23eq]
              simp only [STD, idx_lt hk, idx_lt hi, idx_nn, ha, p_ref18_Coordinates, and_self]
              show (if t < wsub .i64 (co l ax i) (co l ax k) then _ else _) = _
              rw [hw k hk, if_pos hn.1, hn.2]) (by
              rw [ref38_Face_L23eq]
              simp only [STD, idx_end])
            have k' : (loopT ref38_Face_L23S [.r l, .i ax, .i t, .i (i : Int), .i 0]).run = _ := kk
            rw [k', scan_bool]
            by_cases h : ∃ k, k < l.length ∧ pairBad l ax t i k = true
            · obtain ⟨k, e1, e2⟩ := h
              rw [if_pos ⟨k, by omega, by omega, e2⟩, if_pos ⟨k, e1, e2⟩]; rfl
            · rw [if_neg h, if_neg (by rintro ⟨k, _, e1, e2⟩; exact h ⟨k, by omega, e2⟩)]; rfl
          have outer := loop_scan (S := ref38_Face_L18S) (fun i => [.r l, .i ax, .i t, .i (i : Int)]) (fun i => if decide (∃ k, k < l.length ∧ pairBad l ax t i k = true) = true then some (1, [.b false, .i 0]) else none) (0, []) l.length (by omega) (fun i hi hf => by
            have hn : ¬ ∃ k, k < l.length ∧ pairBad l ax t i k = true := by
              intro h; rw [if_pos (decide_eq_true h)] at hf; cases hf
            have e := inner i hi
            rw [if_neg hn] at e
            rw [ref38_Face_L18eq]
            simp only [STD, idx_lt hi, e, jIs_of e, wsucc hi (by omega)]) (fun i r hi hf => by
            have hn : (∃ k, k < l.length ∧ pairBad l ax t i k = true) ∧ r = (1, [.b false, .i 0]) := by
              by_cases h : ∃ k, k < l.length ∧ pairBad l ax t i k = true
              · rw [if_pos (decide_eq_true h)] at hf; exact ⟨h, by simpa using hf.symm⟩
              · rw [if_neg (by simpa using h)] at hf; cases hf
            have e := inner i hi
            rw [if_pos hn.1] at e
            rw [ref38_Face_L18eq]
            simp only [STD, idx_lt hi, e, jIs_of e, hn.2, show ¬ ((1 : Nat) = 0) by decide]) (by
            rw [ref38_Face_L18eq]
            simp only [STD, idx_end])
          have o' : (loopT ref38_Face_L18S [.r l, .i ax, .i t, .i 0]).run = _ := outer
          rw [scan_bool] at o'
          have hiff : (∃ i, 0 ≤ i ∧ i < 0 + l.length ∧ decide (∃ k, k < l.length ∧ pairBad l ax t i k = true) = true) ↔ ¬ (mx (coL l ax) - mn (coL l ax) ≤ t) := by
            constructor
            · rintro ⟨i, _, h1, h2⟩
              obtain ⟨k, h3, h4⟩ := of_decide_eq_true h2
              have := of_decide_eq_true h4
              have m1 : co l ax i ≤ mx (coL l ax) := le_mx (mem_coL.2 ⟨i, by omega, rfl⟩)
              have m2 : mn (coL l ax) ≤ co l ax k := mn_le (mem_coL.2 ⟨k, h3, rfl⟩)
              omega
            · intro h
              obtain ⟨i1, q1, q2⟩ := mem_coL.1 (mn_mem (coL_ne ax hpos))
              obtain ⟨i2, q3, q4⟩ := mem_coL.1 (mx_mem (coL_ne ax hpos))
              exact ⟨i2, by omega, by omega, decide_eq_true ⟨i1, q1, decide_eq_true (by omega)⟩⟩
          unfold faceB
          by_cases h : mx (coL l ax) - mn (coL l ax) ≤ t
          · rw [if_neg (fun h' => (hiff.1 h') h)] at o'
            have o2 : (loopT ref38_Face_L18S [.r l, .i ax, .i t, .i 0]).run = some (0, []) := o'
            simp only [hc, h0, h1, h6, STD, o2, jIs_of o2, decide_eq_true h]
          · rw [if_pos (hiff.2 h)] at o'
            have o2 : (loopT ref38_Face_L18S [.r l, .i ax, .i t, .i 0]).run = some (1, [.b false, .i 0]) := o'
            simp only [hc, h0, h1, h6, STD, o2, jIs_of o2, decide_eq_false h, show ¬ ((1 : Nat) = 0) by decide]
  · simp [hc]
theorem p_ref07_FewSpots (l : R) : ∃ b, (ref07_FewSpots_T [.r l]).run = some (0, [.b b]) := by
  rw [ref07_FewSpots_eq]; simp only [STD]
  by_cases h : rlen l ≤ 6 <;> by_cases h2 : 64 < rlen l <;> simp [h, h2]
theorem faceL_form (l : R) (ax t : Int) : ∃ a b, faceL l ax t = [.b a, .i b] := by unfold faceL; split <;> exact ⟨_, _, rfl⟩
theorem plainRunoutFaces (x0 : R) (x1 : Int) (x2 : Int) (lex0 : UFit (.sl [(.int .i64), (.int .i64), (.int .i64)]) (.l x0)) (wex0 : x0.length * 24 ≤ 140737488351232) (lox1 : IntKind.min .i64 ≤ x1) (hix1 : x1 ≤ IntKind.max .i64) (lox2 : IntKind.min .i64 ≤ x2) (hix2 : x2 ≤ IntKind.max .i64) : (law38_RunoutFaces_T [.r x0, .i x1, .i x2]).run = some (0, [.b true]) := by
  rw [law38_RunoutFaces_eq]
  obtain ⟨few, hf⟩ := p_ref07_FewSpots x0
  obtain ⟨a, b, he⟩ := faceL_form x0 x1 x2
  simp only [STD, hf, p_law38_awake, p_runout_Face, p_ref38_Face, he]
  cases few <;> simp [ieq, Go.Eng.beq]
end Go.Eng
