import Derived.Test.YtjebekbdjlooiaaPRun6
namespace Go.Eng
/-! ### RunoutMoves -/
theorem least_sub {l m : R} {ax ay bx by' : Int} (hl : Secs ax ay l) (hm : Secs bx by' m) (h : ∀ x, x ∈ allRad bx by' m → x ∈ allRad ax ay l) :
    leastT (mn (allRad bx by' m)) (mx (allRad bx by' m)) ≤ leastT (mn (allRad ax ay l)) (mx (allRad ax ay l)) := by
  obtain ⟨a, b, c⟩ := all_ends hl
  obtain ⟨a', b', c'⟩ := all_ends hm
  obtain ⟨s1, s2, s3⟩ := leastT_spec a c
  obtain ⟨t1, t2, t3⟩ := leastT_spec a' c'
  have hne := allRad_ne hm
  exact t2 _ (near_sub (mn_le (h _ (mn_mem hne))) (le_mx (h _ (mx_mem hne))) s1)
def turnPts (bx by' : Int) (m : R) : R := mapR (fun j => [.i (bx - cI m j 1), .i (by' + cI m j 0)]) m.length
def movedR (bx by' : Int) (l : R) : R := mapR (fun i => [.i (cI l i 0), .l (turnPts bx by' (cR l i 1))]) l.length
theorem turn_rad (ax ay bx by' : Int) (m : R) : rad (bx - ay) (by' + ax) (turnPts bx by' m) = rad ax ay m := by
  unfold rad
  have hl : (turnPts bx by' m).length = m.length := mapR_len _ _
  rw [hl]
  refine List.map_congr_left fun i hi => ?_
  have hi' := List.mem_range.1 hi
  unfold far turnPts
  rw [cI_mapR _ hi', cI_mapR _ hi']
  show sqr (bx - cI m i 1 - (bx - ay)) (by' + cI m i 0 - (by' + ax)) = _
  unfold sqr
  rw [show bx - cI m i 1 - (bx - ay) = -(cI m i 1 - ay) by omega, show by' + cI m i 0 - (by' + ax) = cI m i 0 - ax by omega, Int.neg_mul_neg, Int.add_comm]
theorem moved_rad (ax ay bx by' : Int) (l : R) : allRad (bx - ay) (by' + ax) (movedR bx by' l) = allRad ax ay l := by
  unfold allRad
  have hl : (movedR bx by' l).length = l.length := mapR_len _ _
  rw [hl]
  congr 1
  refine List.map_congr_left fun i hi => ?_
  have hi' := List.mem_range.1 hi
  unfold movedR
  rw [cR_mapR _ hi']
  exact turn_rad ax ay bx by' (cR l i 1)
theorem ptA_b {l : R} {i : Nat} (h : ptA l i = 0) : -100000 ≤ cI l i 0 ∧ cI l i 0 ≤ 100000 ∧ -100000 ≤ cI l i 1 ∧ cI l i 1 ≤ 100000 := ptE_zero h
theorem p_moves_inner {l A m : R} {n k ax ay bx by' o : Int} {B : R} (hb : ptE bx by' = 0) (hp : ∀ i, i < m.length → ptA m i = 0) (hl : m.length ≤ 64) :
    (loopT law38_RunoutMoves_L16S [.r l, .r l, .i n, .i k, .r m, .i (rlen m), .i 0, .i ax, .i ay, .i bx, .i by', .r A, .i o, .r B, .r []]).run = some (0, [.r l, .r l, .i n, .i k, .i ax, .i ay, .i bx, .i by', .r A, .i o, .r B, .r (turnPts bx by' m)]) := by
  obtain ⟨c1, c2, c3, c4⟩ := ptE_zero hb
  have kk := loop_count (S := law38_RunoutMoves_L16S) (fun i => [.r l, .r l, .i n, .i k, .r m, .i (rlen m), .i (i : Int), .i ax, .i ay, .i bx, .i by', .r A, .i o, .r B, .r (mapR (fun j => [.i (bx - cI m j 1), .i (by' + cI m j 0)]) i)]) (0, [.r l, .r l, .i n, .i k, .i ax, .i ay, .i bx, .i by', .r A, .i o, .r B, .r (turnPts bx by' m)]) m.length (by omega) (fun i hi => by
    rw [law38_RunoutMoves_L16eq]
    obtain ⟨d1, d2, d3, d4⟩ := ptA_b (hp i hi)
    have e : (law38_RunoutMoves_1_T [.i (cI m i 0), .i (cI m i 1), .i bx, .i by']).run = some (0, [.i (bx - cI m i 1), .i (by' + cI m i 0), .i bx, .i by']) := by
      rw [law38_RunoutMoves_1_eq, wsub_eq (by omega), wadd_eq (by omega)]; rfl
    have hle := mapR_room (g := fun j : Nat => [U.i (bx - cI m j 1), U.i (by' + cI m j 0)]) (K := 8796093022208) hi (by omega) [.i (bx - cI m i 1), .i (by' + cI m i 0)]
    simp only [STD, idx_lt hi, idx_nn, and_self, e, hle, wsucc hi (by omega)]
    rw [← mapR_succ]) (by
    rw [law38_RunoutMoves_L16eq]
    simp only [STD, idx_end]; rfl)
  exact kk
theorem p_moves_outer {l : R} {ax ay bx by' : Int} (hs : Secs ax ay l) (hb : ptE bx by' = 0) :
    (loopT law38_RunoutMoves_L8S [.r l, .r l, .i (rlen l), .i 0, .i ax, .i ay, .i bx, .i by', .r []]).run = some (0, [.r l, .i ax, .i ay, .i bx, .i by', .r (movedR bx by' l)]) := by
  have hl := hs.le
  have kk := loop_count (S := law38_RunoutMoves_L8S) (fun i => [.r l, .r l, .i (rlen l), .i (i : Int), .i ax, .i ay, .i bx, .i by', .r (mapR (fun i => [.i (cI l i 0), .l (turnPts bx by' (cR l i 1))]) i)]) (0, [.r l, .i ax, .i ay, .i bx, .i by', .r (movedR bx by' l)]) l.length (by omega) (fun i hi => by
    rw [law38_RunoutMoves_L8eq]
    have e := p_moves_inner (l := l) (A := mapR (fun i => [.i (cI l i 0), .l (turnPts bx by' (cR l i 1))]) i) (n := rlen l) (k := (i : Int)) (ax := ax) (ay := ay) (o := cI l i 0) (B := cR l i 1) hb (hs.pts i hi).2.2.2 (hs.pts i hi).2.1
    have hle := mapR_room (g := fun i : Nat => [U.i (cI l i 0), U.l (turnPts bx by' (cR l i 1))]) (K := 4398046511104) hi (by omega) [.i (cI l i 0), .l (turnPts bx by' (cR l i 1))]
    simp only [STD, idx_lt hi, idx_nn, and_self, e, hle, wsucc hi (by omega)]
    rw [← mapR_succ]) (by
    rw [law38_RunoutMoves_L8eq]
    simp only [STD, idx_end]; rfl)
  exact kk
/-! what is left out -/
theorem cellU_drop (l : R) (k i j : Nat) : cellU (l.drop k) (i : Int) j = cellU l ((i + k : Nat) : Int) j := by
  unfold cellU
  have e1 : ((i : Int)).toNat = i := by omega
  have e2 : (((i + k : Nat) : Int)).toNat = k + i := by omega
  rw [e1, e2]
  simp [List.getD_eq_getElem?_getD]
theorem cI_drop (l : R) (k i j : Nat) : cI (l.drop k) (i : Int) j = cI l ((i + k : Nat) : Int) j := by unfold cI; rw [cellU_drop]
theorem cR_drop (l : R) (k i j : Nat) : cR (l.drop k) (i : Int) j = cR l ((i + k : Nat) : Int) j := by unfold cR; rw [cellU_drop]
theorem cellU_take (l : R) {k i : Nat} (h : i < k) (j : Nat) : cellU (l.take k) (i : Int) j = cellU l (i : Int) j := by
  unfold cellU
  simp [List.getD_eq_getElem?_getD, List.getElem?_take, h]
theorem schk_parts {l : R} (h : schk l = 0) : 0 < l.length ∧ l.length ≤ 32 ∧ ∀ i, i < l.length → secE l i = 0 := by
  unfold schk at h
  split at h
  · omega
  · split at h
    · omega
    · rename_i a b; unfold rlen at a b
      exact ⟨by omega, by omega, firstE_zero h⟩
theorem schk_mk {l : R} (h1 : 0 < l.length) (h2 : l.length ≤ 32) (h : ∀ i, i < l.length → secE l i = 0) : schk l = 0 := by
  unfold schk
  rw [if_neg (by unfold rlen; omega), if_neg (by unfold rlen; omega)]
  exact firstE_of h
theorem secE_first {l : R} {i : Nat} (h : secE l i = 0) : (-100000 ≤ cI l i 0 ∧ cI l i 0 ≤ 100000) ∧ (0 < i → ¬ cI l i 0 ≤ cI l ((i - 1 : Nat) : Int) 0) ∧ ¬ rlen (cR l i 1) = 0 ∧ vchk (cR l i 1) = 0 := by
  unfold secE at h
  split at h
  · omega
  · split at h
    · omega
    · split at h
      · omega
      · rename_i a b c
        exact ⟨Decidable.not_not.1 a, fun h0 h1 => b ⟨h0, h1⟩, c, h⟩
theorem secE_mk {l : R} {i : Nat} (h1 : -100000 ≤ cI l i 0 ∧ cI l i 0 ≤ 100000) (h2 : 0 < i → ¬ cI l i 0 ≤ cI l ((i - 1 : Nat) : Int) 0) (h3 : ¬ rlen (cR l i 1) = 0) (h4 : vchk (cR l i 1) = 0) : secE l i = 0 := by
  unfold secE
  rw [if_neg (by simp [h1]), if_neg (fun h => h2 h.1 h.2), if_neg h3]
  exact h4
theorem given_mk {l : R} {x y : Int} (h1 : schk l = 0) (h2 : ptE x y = 0) : given l x y = 0 := by unfold given; rw [if_pos h1]; exact h2
theorem drop_given {l : R} {x y : Int} (h : given l x y = 0) (hl : 1 < l.length) : given (l.drop 1) x y = 0 := by
  obtain ⟨h1, h2⟩ := given_zero h
  obtain ⟨a, b, c⟩ := schk_parts h1
  refine given_mk (schk_mk (by simp; omega) (by simp; omega) fun i hi => ?_) h2
  obtain ⟨s1, s2, s3, s4⟩ := secE_first (c (i + 1) (by simp at hi; omega))
  refine secE_mk (by rw [cI_drop]; exact s1) (fun h0 => ?_) (by rw [cR_drop]; exact s3) (by rw [cR_drop]; exact s4)
  rw [cI_drop, cI_drop, show i - 1 + 1 = i + 1 - 1 by omega]
  exact s2 (by omega)
theorem drop_rad {l : R} {x y : Int} : ∀ v, v ∈ allRad x y (l.drop 1) → v ∈ allRad x y l := by
  intro v hv
  obtain ⟨i, hi, h⟩ := mem_allRad.1 hv
  rw [cR_drop] at h
  exact mem_allRad.2 ⟨i + 1, by simp at hi; omega, h⟩
theorem vchk_take {m : R} (h : vchk m = 0) (k : Nat) : vchk (m.take k) = 0 := by
  obtain ⟨a, b⟩ := vchk_zero h
  unfold vchk
  rw [if_neg (by unfold rlen; simp; omega)]
  refine firstE_of fun i hi => ?_
  simp only [List.length_take] at hi
  unfold ptA cI
  rw [cellU_take m (by omega), cellU_take m (by omega)]
  exact b i (by omega)
theorem one_given {l : R} {x y : Int} (h : given l x y = 0) (hl : l.length = 1) (hn : 1 < (cR l 0 1).length) :
    given (rset l 0 1 [.l ((cR l 0 1).take ((cR l 0 1).length - 1))]) x y = 0 ∧ ∀ v, v ∈ allRad x y (rset l 0 1 [.l ((cR l 0 1).take ((cR l 0 1).length - 1))]) → v ∈ allRad x y l := by
  obtain ⟨h1, h2⟩ := given_zero h
  obtain ⟨a, b, c⟩ := schk_parts h1
  obtain ⟨s1, s2, s3, s4⟩ := secE_first (c 0 a)
  obtain ⟨m, hm⟩ : ∃ m, m = (cR l 0 1).take ((cR l 0 1).length - 1) := ⟨_, rfl⟩
  rw [← hm]
  have hml : m.length = (cR l 0 1).length - 1 := by rw [hm]; simp
  have hlen : (rset l 0 1 [.l m]).length = 1 := by simp [rset, hl]
  have e0 : cI (rset l 0 1 [.l m]) ((0 : Nat) : Int) 0 = cI l ((0 : Nat) : Int) 0 := by
    have := cellU_rset_same (l := l) (i := 0) (off := 1) (us := [.l m]) (by simp; omega) (j := 0)
    unfold cI; rw [show ((0 : Nat) : Int) = 0 from rfl, this]; rfl
  have e1 : cR (rset l 0 1 [.l m]) ((0 : Nat) : Int) 1 = m := by
    have := cellU_rset_same (l := l) (i := 0) (off := 1) (us := [.l m]) (by simp; omega) (j := 1)
    unfold cR; rw [show ((0 : Nat) : Int) = 0 from rfl, this]; rfl
  have s4' : vchk (cR l 0 1) = 0 := s4
  constructor
  · refine given_mk (schk_mk (by omega) (by omega) fun i hi => ?_) h2
    obtain rfl : i = 0 := by omega
    refine secE_mk (by rw [e0]; exact s1) (fun h0 => by omega) (by rw [e1]; unfold rlen; omega) (by rw [e1, hm]; exact vchk_take s4' _)
  · intro v hv
    obtain ⟨i, hi, hr⟩ := mem_allRad.1 hv
    obtain rfl : i = 0 := by omega
    rw [e1] at hr
    obtain ⟨j, hj, rfl⟩ := mem_rad.1 hr
    refine mem_allRad.2 ⟨0, by omega, mem_rad.2 ⟨j, ?_, ?_⟩⟩
    · show j < (cR l 0 1).length; omega
    · unfold far cI
      rw [hm, cellU_take _ (by omega), cellU_take _ (by omega)]; rfl
theorem lst_of {l : R} {x y : Int} (h : given l x y = 0) : lstL l x y = [.i (leastT (mn (allRad x y l)) (mx (allRad x y l))), .i 0] := by unfold lstL; rw [if_neg (by simp [h])]
theorem plainRunoutMoves (x0 : R) (x1 : Int) (x2 : Int) (x3 : Int) (x4 : Int) (lex0 : UFit (.sl [(.int .i64), (.sl [(.int .i64), (.int .i64)])]) (.l x0)) (wex0 : x0.length * 32 ≤ 140737488351232) (lox1 : IntKind.min .i64 ≤ x1) (hix1 : x1 ≤ IntKind.max .i64) (lox2 : IntKind.min .i64 ≤ x2) (hix2 : x2 ≤ IntKind.max .i64) (lox3 : IntKind.min .i64 ≤ x3) (hix3 : x3 ≤ IntKind.max .i64) (lox4 : IntKind.min .i64 ≤ x4) (hix4 : x4 ≤ IntKind.max .i64) : (law38_RunoutMoves_T [.r x0, .i x1, .i x2, .i x3, .i x4]).run = some (0, [.b true]) := by
  rw [law38_RunoutMoves_eq]
  obtain ⟨right, hr, hg⟩ := p_law38_right x0 x1 x2 (by omega)
  cases right with
  | false => simp only [STD, hr, p_law38_awake]
  | true =>
    by_cases hp : ptE x3 x4 = 0
    · have hg0 := hg rfl
      have hs := secs_of hg0
      have hl := hs.le
      have hl0 := hs.pos
      obtain ⟨a1, a2, a3, a4⟩ := ptE_zero hs.axis
      obtain ⟨b1, b2, b3, b4⟩ := ptE_zero hp
      have eM : (law38_RunoutMoves_1_T [.i x1, .i x2, .i x3, .i x4]).run = some (0, [.i (x3 - x2), .i (x4 + x1), .i x3, .i x4]) := by
        rw [law38_RunoutMoves_1_eq, wsub_eq (by omega), wadd_eq (by omega)]; rfl
      have hml : (movedR x3 x4 x0).length = x0.length := mapR_len _ _
      obtain ⟨right2, hr2, hg2⟩ := p_law38_right (movedR x3 x4 x0) (x3 - x2) (x4 + x1) (by omega)
      have hClone : (slices_Clone_runout_Section_runout_Section_T [.r x0]).run = some (0, [.r x0]) := by
        rw [slices_Clone_runout_Section_runout_Section_eq]
        have q1 : (0 : Int) < rlen x0 := by unfold rlen; omega
        have q2 : rlen [] + rlen x0 ≤ 4398046511104 := by unfold rlen; simp; omega
        simp only [STD, q1, q2, rapp, List.nil_append]
      have hL := lst_of hg0
      obtain ⟨L, hLe⟩ : ∃ L, L = leastT (mn (allRad x1 x2 x0)) (mx (allRad x1 x2 x0)) := ⟨_, rfl⟩
      rw [← hLe] at hL
      have hmoved : right2 = true → lstL (movedR x3 x4 x0) (x3 - x2) (x4 + x1) = [.i (L : Int), .i 0] := fun h => by
        rw [lst_of (hg2 h), moved_rad, ← hLe]
      have hrl : rlen x0 = (x0.length : Int) := rfl
      -- what is less
      have hless : ∀ m : R, given m x1 x2 = 0 → (∀ v, v ∈ allRad x1 x2 m → v ∈ allRad x1 x2 x0) → ∃ c : Nat, (runout_Least_T [.r m, .i x1, .i x2]).run = some (0, [.i (c : Int), .i 0]) ∧ (c : Int) ≤ (L : Int) := fun m h1 h2 => by
        refine ⟨_, by rw [p_runout_Least, lst_of h1], ?_⟩
        have := least_sub hs (secs_of h1) h2
        omega
      have hn0 : (0 : Int) < rlen x0 := by unfold rlen; omega
      have key : ∀ c : Nat, (c : Int) ≤ (L : Int) → True := fun _ _ => trivial
      by_cases h1 : 1 < x0.length
      · have h1' : (1 : Int) < rlen x0 := by unfold rlen; omega
        have hd := drop_given hg0 h1
        have hsub : rsub x0 1 (rlen x0) = x0.drop 1 := by
          unfold rsub rlen; rw [Int.toNat_natCast, List.take_length]; rfl
        obtain ⟨c, hc1, hc2⟩ := hless _ hd drop_rad
        cases right2 with
        | true =>
          simp only [STD, hr, p_ref07_Right, hp, decide_true, p_moves_outer hs hp, p_runout_Least, hL, eM, hr2, hmoved rfl, hClone, h1', Int.le_refl, and_self, Int.le_of_lt h1', Int.le_of_lt hn0, show (0 : Int) ≤ 1 by omega, hsub, p_law38_awake]
          rw [p_runout_Least] at hc1
          simp only [STD, Option.some.injEq, Prod.mk.injEq, true_and] at hc1
          simp only [hc1, STD, hc2]
        | false =>
          simp only [STD, hr, p_ref07_Right, hp, decide_true, p_moves_outer hs hp, p_runout_Least, hL, eM, hr2, hClone, h1', Int.le_refl, and_self, Int.le_of_lt h1', Int.le_of_lt hn0, show (0 : Int) ≤ 1 by omega, hsub, p_law38_awake]
          rw [p_runout_Least] at hc1
          simp only [STD, Option.some.injEq, Prod.mk.injEq, true_and] at hc1
          simp only [hc1, STD, hc2]
      · have h1' : ¬ (1 : Int) < rlen x0 := by unfold rlen; omega
        have hl1 : x0.length = 1 := by omega
        by_cases h2 : 1 < (cR x0 0 1).length
        · have h2' : (1 : Int) < rlen (cR x0 0 1) := by unfold rlen; omega
          obtain ⟨hd1, hd2⟩ := one_given hg0 hl1 h2
          obtain ⟨c, hc1, hc2⟩ := hless _ hd1 hd2
          have hp64 : (cR x0 0 1).length ≤ 64 := (hs.pts 0 hl0).2.1
          have es : wsub .i64 (rlen (cR x0 0 1)) 1 = (((cR x0 0 1).length - 1 : Nat) : Int) := by unfold rlen; rw [wsub_eq (by omega)]; omega
          have es2 : (((cR x0 0 1).length - 1 : Nat) : Int) ≤ rlen (cR x0 0 1) := by unfold rlen; omega
          have es3 : rsub (cR x0 0 1) 0 (((cR x0 0 1).length - 1 : Nat) : Int) = (cR x0 0 1).take ((cR x0 0 1).length - 1) := by
            unfold rsub; rw [Int.toNat_natCast]; rfl
          cases right2 with
          | true =>
            simp only [STD, hr, p_ref07_Right, hp, decide_true, p_moves_outer hs hp, p_runout_Least, hL, eM, hr2, hmoved rfl, hClone, h1', hn0, h2', Int.le_refl, and_self, es, es2, idx_nn, es3, p_law38_awake]
            rw [p_runout_Least] at hc1
            simp only [STD, Option.some.injEq, Prod.mk.injEq, true_and] at hc1
            simp only [hc1, STD, hc2]
          | false =>
            simp only [STD, hr, p_ref07_Right, hp, decide_true, p_moves_outer hs hp, p_runout_Least, hL, eM, hr2, hClone, h1', hn0, h2', Int.le_refl, and_self, es, es2, idx_nn, es3, p_law38_awake]
            rw [p_runout_Least] at hc1
            simp only [STD, Option.some.injEq, Prod.mk.injEq, true_and] at hc1
            simp only [hc1, STD, hc2]
        · have h2' : ¬ (1 : Int) < rlen (cR x0 0 1) := by unfold rlen; omega
          cases right2 with
          | true => simp only [STD, hr, p_ref07_Right, hp, decide_true, p_moves_outer hs hp, p_runout_Least, hL, eM, hr2, hmoved rfl, hClone, h1', hn0, h2', Int.le_refl, and_self, p_law38_awake]
          | false => simp only [STD, hr, p_ref07_Right, hp, decide_true, p_moves_outer hs hp, p_runout_Least, hL, eM, hr2, hClone, h1', hn0, h2', Int.le_refl, and_self, p_law38_awake]
    · simp only [STD, hr, p_ref07_Right, hp, decide_false, p_law38_awake]
end Go.Eng
