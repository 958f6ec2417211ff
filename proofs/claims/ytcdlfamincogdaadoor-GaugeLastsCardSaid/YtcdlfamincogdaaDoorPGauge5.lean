import Derived.Test.YtcdlfamincogdaaDoorPGauge4
import Derived.Test.YtcdlfamincogdaaDoorPArith
namespace Go.Eng
theorem desRow_I (l : R) (w m : Int) {i : Nat} (h : i < l.length) : cI (mapR (desRow l w m) l.length) i 0 = cI l i 0 ∧ cI (mapR (desRow l w m) l.length) i 1 = cI l i 1 ∧ cB (mapR (desRow l w m) l.length) i 2 = cB l i 6 ∧ cI (mapR (desRow l w m) l.length) i 3 = desLo l w m i ∧ cI (mapR (desRow l w m) l.length) i 4 = desHi l w m i := by
  refine ⟨?_, ?_, ?_, ?_, ?_⟩
  · rw [cI_mapR _ h]; rfl
  · rw [cI_mapR _ h]; rfl
  · rw [cB_mapR _ h]; rfl
  · rw [cI_mapR _ h]; rfl
  · rw [cI_mapR _ h]; rfl
theorem p_bonus_Virtual1 {l : R} {i : Nat} (h : virtE l i = 0) : (bonus_Virtual_T [.i (cI l i 0), .i (cI l i 1), .i (cI l i 2), .i (cI l i 3), .i (cI l i 4), .i (cI l i 5), .b (cB l i 6)]).run = some (0, [.i (vsz l i), .i 0]) := by
  obtain ⟨hc, h5⟩ := vE_zero h
  rw [p_bonus_Virtual, if_pos hc, h5]
  unfold vsz vS
  cases cB l i 6 <;> simp
theorem desC_cases (l : R) (w m : Int) : desC l w m = gchk l ∨ (gchk l = 0 ∧ (desC l w m = 2 ∨ desC l w m = 14 ∨ desC l w m = 0)) := by
  unfold desC
  by_cases h : gchk l = 0
  · right
    refine ⟨h, ?_⟩
    simp only [h, ne_eq, not_true_eq_false, if_false]
    split
    · exact .inl rfl
    · unfold firstE
      cases hs : scan (errAt (desE l w m)) 0 l.length with
      | none => exact .inr (.inr rfl)
      | some e =>
        right; left
        have key : ∀ (k i : Nat) (e : Int), scan (errAt (desE l w m)) i k = some e → e = 14 := by
          intro k
          induction k with
          | zero => intro i e h; cases h
          | succ k ih =>
            intro i e h
            simp only [scan] at h
            by_cases hd : desLo l w m i < 1
            · have h14 : desE l w m i = 14 := by unfold desE; rw [if_pos hd]
              simp [errAt, h14] at h
              omega
            · have h0 : desE l w m i = 0 := by unfold desE; rw [if_neg hd]
              simp [errAt, h0] at h
              exact ih _ _ h
        simpa using key _ _ _ hs
  · left; rw [if_pos h]
theorem plainGaugeNarrows (x0 : R) (x1 : Int) (x2 : Int) (lex0 : UFit (.sl [(.int .i64), (.int .i64), (.int .i64), (.int .i64), (.int .i64), (.int .i64), .bool]) (.l x0)) (lox1 : IntKind.min .i64 ≤ x1) (hix1 : x1 ≤ IntKind.max .i64) (lox2 : IntKind.min .i64 ≤ x2) (hix2 : x2 ≤ IntKind.max .i64) : (law47_GaugeNarrows_T [.r x0, .i x1, .i x2]).run = some (0, [.b true]) := by
  rw [law47_GaugeNarrows_eq]
  simp only [STD, law47_few_eq, p_law47_awake, p_gauge_Design]
  by_cases h1 : rlen x0 ≤ 32
  · by_cases d0 : desC x0 0 0 = 0
    · by_cases d1 : desC x0 x1 x2 = 0
      · obtain ⟨hg, hw, hlo⟩ := desC_zero d1
        obtain ⟨_, _, hlo0⟩ := desC_zero d0
        obtain ⟨_, hl, hv⟩ := gchk_zero hg
        have hr1 : rlen (desL x0 0 0) = rlen x0 := by unfold desL; rw [if_pos d0, rlen_mapR]; rfl
        have hr2 : rlen (desL x0 x1 x2) = rlen x0 := by unfold desL; rw [if_pos d1, rlen_mapR]; rfl
        have k : (loopT law47_GaugeNarrows_L14S [.r (desL x0 0 0), .r (desL x0 x1 x2), .r x0, .i (rlen x0), .i 0, .i x1, .i x2]).run = some (0, []) := by
          refine loop_count (S := law47_GaugeNarrows_L14S) (fun i => [.r (desL x0 0 0), .r (desL x0 x1 x2), .r x0, .i (rlen x0), .i (i : Int), .i x1, .i x2]) (0, _) x0.length (by omega) (fun i hi => ?_) ?_
          · rw [law47_GaugeNarrows_L14eq]
            have hvi := p_bonus_Virtual1 (hv i hi)
            have hb := vsz_bound (hv i hi)
            have q1 := hlo i hi
            have i1 : (i : Int) < rlen (desL x0 0 0) := by rw [hr1]; exact idx_lt hi
            have i2 : (i : Int) < rlen (desL x0 x1 x2) := by rw [hr2]; exact idx_lt hi
            obtain ⟨a0, a1, a2, a3, a4⟩ := desRow_I x0 0 0 hi
            obtain ⟨b0, b1, b2, b3, b4⟩ := desRow_I x0 x1 x2 hi
            have ea : desL x0 0 0 = mapR (desRow x0 0 0) x0.length := by unfold desL; rw [if_pos d0]
            have eb : desL x0 x1 x2 = mapR (desRow x0 x1 x2) x0.length := by unfold desL; rw [if_pos d1]
            rw [← ea] at a0 a1 a2 a3 a4
            rw [← eb] at b0 b1 b2 b3 b4
            simp only [STD, idx_lt hi, i1, i2, idx_nn, and_self, and_true, hvi, a0, a1, a2, a3, a4, b3, b4, wsucc hi (show x0.length < 9223372036854775808 by omega)]
            unfold desLo desHi at *
            cases hc : cB x0 i 6
            · simp only [hc, Bool.false_eq_true, if_false] at q1 ⊢
              have e1 : wsub .i64 (vsz x0 i + x1) (vsz x0 i) = x1 := by rw [wsub_eq (by omega)]; omega
              have n1 : ¬ (vsz x0 i + x1 < vsz x0 i) := by omega
              simp [e1, n1, STD]
            · simp only [hc, if_true] at q1 ⊢
              have e1 : wsub .i64 (vsz x0 i) (vsz x0 i - x1) = x1 := by rw [wsub_eq (by omega)]; omega
              have n1 : ¬ (vsz x0 i < vsz x0 i - x1) := by omega
              simp [e1, n1, STD]
          · rw [law47_GaugeNarrows_L14eq]; simp only [STD, idx_end]
        simp only [h1, STD, d0, d1, hr1, hr2, k, jIs_of k]
      · have hc := desC_cases x0 x1 x2
        have hg := (desC_zero d0).1
        have : desC x0 x1 x2 = 2 ∨ desC x0 x1 x2 = 14 := by omega
        rcases this with e | e <;> simp [h1, STD, d0, e]
    · have hc0 := desC_cases x0 0 0
      have hc1 := desC_cases x0 x1 x2
      by_cases hg : gchk x0 = 0
      · have : desC x0 x1 x2 = 2 ∨ desC x0 x1 x2 = 14 ∨ desC x0 x1 x2 = 0 := by omega
        rcases this with e | e | e
        · simp only [h1, STD, d0, e]
          by_cases q : 2 = desC x0 0 0 <;> simp [q]
        · simp only [h1, STD, d0, e]
          by_cases q : 14 = desC x0 0 0 <;> simp [q]
        · exfalso
          obtain ⟨_, hw, hlo⟩ := desC_zero e
          apply d0
          obtain ⟨_, hl, hv⟩ := gchk_zero hg
          unfold desC
          rw [if_neg (by simp [hg]), if_neg (by omega)]
          refine firstE_of fun i hi => ?_
          have q1 := hlo i hi
          have hb := vsz_bound (hv i hi)
          unfold desE desLo
          unfold desLo at q1
          cases hcb : cB x0 i 6 <;> simp [hcb] at q1 ⊢ <;> omega
      · have e0 : desC x0 0 0 = gchk x0 := by omega
        have e1 : desC x0 x1 x2 = gchk x0 := by omega
        simp only [h1, STD, d0, e0, e1, hg]
  · simp only [h1, STD]

/-! ### GaugeKeeps -/
def msz (l : R) (w m : Int) (high : Bool) (i : Nat) : Int := if high = true then desHi l w m i else desLo l w m i
theorem des_lim {l : R} {w m : Int} {i : Nat} (hv : virtE l i = 0) (hw : 0 ≤ w ∧ w ≤ 100000 ∧ 0 ≤ m ∧ m ≤ 100000) (hlo : 1 ≤ desLo l w m i) : limC (desLo l w m i) (desHi l w m i) = 0 := by
  obtain ⟨hc, _⟩ := vE_zero hv
  obtain ⟨h1, h2, h3, h4, h5, h6, h7, h8, h9, h10, h11, h12, h13, h14⟩ := chk_zero hc
  unfold desLo vsz vS at hlo
  unfold limC desLo desHi vsz vS
  cases hb : cB l i 6
  · simp only [hb, Bool.false_eq_true, if_false] at hlo ⊢
    rw [if_neg (by omega), if_neg (by omega), if_neg (by omega)]
  · simp only [hb, if_true] at hlo ⊢
    rw [if_neg (by omega), if_neg (by omega), if_neg (by omega)]
theorem madeL_des {l : R} {w m : Int} (h : desC l w m = 0) (high : Bool) : madeC (desL l w m) = 0 ∧ madeL (desL l w m) high = mapR (madeRow (desL l w m) high) l.length ∧ (desL l w m).length = l.length ∧
    ∀ i, i < l.length → cB (madeL (desL l w m) high) i 2 = cB l i 6 ∧ cI (madeL (desL l w m) high) i 3 = msz l w m high i := by
  obtain ⟨hg, hw, hlo⟩ := desC_zero h
  obtain ⟨_, hl, hv⟩ := gchk_zero hg
  have ed : desL l w m = mapR (desRow l w m) l.length := by unfold desL; rw [if_pos h]
  have hlen : (desL l w m).length = l.length := by rw [ed, mapR_len]
  have hm : madeC (desL l w m) = 0 := by
    unfold madeC
    rw [if_neg (by unfold rlen; omega)]
    refine firstE_of fun i hi => ?_
    have hi' : i < l.length := by omega
    obtain ⟨_, _, _, h3, h4⟩ := desRow_I l w m hi'
    rw [← ed] at h3 h4
    unfold limE
    rw [h3, h4]
    exact des_lim (hv i hi') hw (hlo i hi')
  have hml : madeL (desL l w m) high = mapR (madeRow (desL l w m) high) l.length := by unfold madeL; rw [if_pos hm, hlen]
  refine ⟨hm, hml, hlen, fun i hi => ?_⟩
  obtain ⟨_, _, h2, h3, h4⟩ := desRow_I l w m hi
  rw [← ed] at h2 h3 h4
  rw [hml]
  refine ⟨?_, ?_⟩
  · rw [cB_mapR _ hi]; exact h2
  · rw [cI_mapR _ hi]
    show (if high = true then cI (desL l w m) i 4 else cI (desL l w m) i 3) = _
    unfold msz; rw [h3, h4]
theorem keep_of_play {l : R} {w m : Int} {i : Nat} {high : Bool} {a b c p : Int} (hv : virtE l i = 0) (hw : 0 ≤ w ∧ w ≤ 100000 ∧ 0 ≤ m ∧ m ≤ 100000) (hc : 1 ≤ c ∧ c ≤ 100000)
    (hin : cI l i 2 ≤ c ∧ c ≤ cI l i 3) (hp : p = if cB l i 6 = true then msz l w m high i - c else c - msz l w m high i) (h0 : ¬ p < 0) (hd : ¬ p * p < 4 * sq2 (a - cI l i 0) (b - cI l i 1)) :
    keep2 (cI l i 0) (cI l i 1) (cI l i 2) (cI l i 3) (cI l i 4) (cI l i 5) (cB l i 6) a b c = true := by
  obtain ⟨hk, h5'⟩ := vE_zero hv
  obtain ⟨h1, h2, h3, h4, h5, h6, h7, h8, h9, h10, h11, h12, h13, h14⟩ := chk_zero hk
  unfold keep2
  rw [decide_eq_true_eq]
  refine ⟨hin.1, hin.2, ?_⟩
  have hle : p ≤ cI l i 4 + ext (cI l i 2) (cI l i 3) (cI l i 5) (cB l i 6) c := by
    rw [hp, h5']
    unfold ext msz desLo desHi vsz vS
    cases hb : cB l i 6 <;> cases high <;> simp <;> omega
  have := le_sq hle (show -p ≤ _ by omega)
  omega
theorem plainGaugeKeeps (x0 : R) (x1 : Int) (x2 : Int) (x3 : Int) (x4 : Int) (x5 : Int) (lex0 : UFit (.sl [(.int .i64), (.int .i64), (.int .i64), (.int .i64), (.int .i64), (.int .i64), .bool]) (.l x0)) (lox1 : IntKind.min .i64 ≤ x1) (hix1 : x1 ≤ IntKind.max .i64) (lox2 : IntKind.min .i64 ≤ x2) (hix2 : x2 ≤ IntKind.max .i64) (lox3 : IntKind.min .i64 ≤ x3) (hix3 : x3 ≤ IntKind.max .i64) (lox4 : IntKind.min .i64 ≤ x4) (hix4 : x4 ≤ IntKind.max .i64) (lox5 : IntKind.min .i64 ≤ x5) (hix5 : x5 ≤ IntKind.max .i64) : (law47_GaugeKeeps_T [.r x0, .i x1, .i x2, .i x3, .i x4, .i x5]).run = some (0, [.b true]) := by
  rw [law47_GaugeKeeps_eq]
  simp only [STD, law47_few_eq, p_law47_awake, p_ref44_Ring, p_gauge_Design]
  by_cases h1 : rlen x0 ≤ 32
  · by_cases hr : ringC x3 x4 x5 = 0
    · by_cases hd : desC x0 x1 x2 = 0
      · obtain ⟨hg, hw, hlo⟩ := desC_zero hd
        obtain ⟨_, hl, hv⟩ := gchk_zero hg
        obtain ⟨k1, k2, k3, k4, k5, k6⟩ := ringC_zero hr
        have inner : ∀ (high : Bool) (j : Int), (loopT law47_GaugeKeeps_L20S [.r x0, .r (desL x0 x1 x2), .i 2, .i j, .i (rlen (madeL (desL x0 x1 x2) high)), .i 0, .i x3, .i x4, .i x5, .r [[.b false], [.b true]], .r (madeL (desL x0 x1 x2) high)]).run =
            some (0, [.r x0, .r (desL x0 x1 x2), .i 2, .i j, .i x3, .i x4, .i x5, .r [[.b false], [.b true]]]) := by
          intro high j
          obtain ⟨m1, m2, m3, m4⟩ := madeL_des hd high
          have hrl : rlen (madeL (desL x0 x1 x2) high) = (x0.length : Int) := by rw [m2, rlen_mapR]
          refine loop_count (S := law47_GaugeKeeps_L20S) (fun i => [.r x0, .r (desL x0 x1 x2), .i 2, .i j, .i (rlen (madeL (desL x0 x1 x2) high)), .i (i : Int), .i x3, .i x4, .i x5, .r [[.b false], [.b true]], .r (madeL (desL x0 x1 x2) high)]) (0, _) x0.length (by omega) (fun i hi => ?_) ?_
          · obtain ⟨q1, q2⟩ := m4 i hi
            have hvi := hv i hi
            obtain ⟨hck, h5'⟩ := vE_zero hvi
            obtain ⟨c1, c2, c3, c4, c5, c6, c7, c8, c9, c10, c11, c12, c13, c14⟩ := chk_zero hck
            have hb := vsz_bound hvi
            have hlo' := hlo i hi
            have hms : -400000 ≤ msz x0 x1 x2 high i ∧ msz x0 x1 x2 high i ≤ 400000 := by
              unfold msz desHi desLo; unfold desLo at hlo'
              cases cB x0 i 6 <;> cases high <;> simp at hlo' ⊢ <;> omega
            have hbo : bothC (cI x0 i 0) (cI x0 i 1) (cI x0 i 2) (cI x0 i 3) (cI x0 i 4) (cI x0 i 5) (cB x0 i 6) x3 x4 x5 = 0 := by unfold bothC; rw [if_pos hck]; exact hr
            have i1 : (i : Int) < (x0.length : Int) := by omega
            rw [law47_GaugeKeeps_L20eq]
            have b1 := mulB (a := x3 - cI x0 i 0) (b := x3 - cI x0 i 0) (A := 200000) (B := 200000) (by omega) (by omega) (by omega) (by omega)
            have b2 := mulB (a := x4 - cI x0 i 1) (b := x4 - cI x0 i 1) (A := 200000) (B := 200000) (by omega) (by omega) (by omega) (by omega)
            have e0 : wmul .i64 4 (sq2 (x3 - cI x0 i 0) (x4 - cI x0 i 1)) = 4 * sq2 (x3 - cI x0 i 0) (x4 - cI x0 i 1) := wmul_eq (by unfold sq2; omega)
            have e1 : wsub .i64 (msz x0 x1 x2 high i) x5 = msz x0 x1 x2 high i - x5 := wsub_eq (by omega)
            have e2 : wsub .i64 x5 (msz x0 x1 x2 high i) = x5 - msz x0 x1 x2 high i := wsub_eq (by omega)
            have e3 : wmul .i64 (msz x0 x1 x2 high i - x5) (msz x0 x1 x2 high i - x5) = (msz x0 x1 x2 high i - x5) * (msz x0 x1 x2 high i - x5) := wsq (B := 1000000) (by omega) (by omega) (by omega)
            have e4 : wmul .i64 (x5 - msz x0 x1 x2 high i) (x5 - msz x0 x1 x2 high i) = (x5 - msz x0 x1 x2 high i) * (x5 - msz x0 x1 x2 high i) := wsq (B := 1000000) (by omega) (by omega) (by omega)
            have hkp := fun (p : Int) => keep_of_play (p := p) (a := x3) (b := x4) (c := x5) (high := high) hvi hw ⟨k5, k6⟩
            simp only [STD, hrl, i1, idx_lt hi, idx_nn, and_self, q1, q2, p_bonus_Distance, hbo, p_ref44_Inside, p_bonus_Keeps, keepL, e0, e1, e2, e3, e4, wsucc hi (show x0.length < 9223372036854775808 by omega)]
            by_cases hin : cI x0 i 2 ≤ x5 ∧ x5 ≤ cI x0 i 3
            · cases hb6 : cB x0 i 6
              · have hk := hkp (x5 - msz x0 x1 x2 high i) hin (by rw [hb6]; simp)
                rw [hb6] at hk
                simp only [hin, STD, and_self, Bool.false_eq_true]
                by_cases p1 : x5 - msz x0 x1 x2 high i < 0
                · simp [p1]
                · by_cases p2 : (x5 - msz x0 x1 x2 high i) * (x5 - msz x0 x1 x2 high i) < 4 * sq2 (x3 - cI x0 i 0) (x4 - cI x0 i 1)
                  · simp [p1, p2]
                  · simp [p1, p2, hk p1 p2]
              · have hk := hkp (msz x0 x1 x2 high i - x5) hin (by rw [hb6]; simp)
                rw [hb6] at hk
                simp only [hin, STD, and_self]
                by_cases p1 : msz x0 x1 x2 high i - x5 < 0
                · simp [p1]
                · by_cases p2 : (msz x0 x1 x2 high i - x5) * (msz x0 x1 x2 high i - x5) < 4 * sq2 (x3 - cI x0 i 0) (x4 - cI x0 i 1)
                  · simp [p1, p2]
                  · simp [p1, p2, hk p1 p2]
            · cases cB x0 i 6 <;> simp [hin]
          · obtain ⟨m1, m2, m3, m4⟩ := madeL_des hd high
            rw [law47_GaugeKeeps_L20eq]
            simp only [STD, hrl, show ¬ ((x0.length : Int) < (x0.length : Int)) by omega]
        have hrl : ∀ high, rlen (madeL (desL x0 x1 x2) high) = rlen x0 := fun high => by
          obtain ⟨m1, m2, m3, m4⟩ := madeL_des hd high
          rw [m2, rlen_mapR]; rfl
        have inner' : ∀ (high : Bool) (j : Int), (loopT law47_GaugeKeeps_L20S [.r x0, .r (desL x0 x1 x2), .i 2, .i j, .i (rlen x0), .i 0, .i x3, .i x4, .i x5, .r [[.b false], [.b true]], .r (madeL (desL x0 x1 x2) high)]).run =
            some (0, [.r x0, .r (desL x0 x1 x2), .i 2, .i j, .i x3, .i x4, .i x5, .r [[.b false], [.b true]]]) := fun high j => by
          have h := inner high j
          rw [hrl high] at h
          exact h
        have outer : (loopT law47_GaugeKeeps_L10S [.r x0, .r (desL x0 x1 x2), .i 2, .i 0, .i x3, .i x4, .i x5, .r [[.b false], [.b true]]]).run = some (0, []) := by
          refine loop_count (S := law47_GaugeKeeps_L10S) (fun i => [.r x0, .r (desL x0 x1 x2), .i 2, .i (i : Int), .i x3, .i x4, .i x5, .r [[.b false], [.b true]]]) (0, _) 2 (by omega) (fun i hi => ?_) ?_
          · rw [law47_GaugeKeeps_L10eq]
            have i1 : (i : Int) < 2 := by omega
            have i2 : (i : Int) < rlen [[U.b false], [U.b true]] := by show (i : Int) < 2; omega
            simp only [STD, i1, i2, idx_nn, and_self, p_gauge_Made, (madeL_des hd true).1, hrl, inner', jIs_of (inner' _ _), wsucc hi (show (2 : Nat) < 9223372036854775808 by omega)]
          · rw [law47_GaugeKeeps_L10eq]
            simp only [STD]; simp
        have outer' : (loopT law47_GaugeKeeps_L10S [.r x0, .r (desL x0 x1 x2), .i (rlen [[U.b false], [U.b true]]), .i 0, .i x3, .i x4, .i x5, .r [[.b false], [.b true]]]).run = some (0, []) := outer
        simp only [h1, hr, hd, STD, outer', jIs_of outer']
      · simp only [h1, hr, hd, STD]
    · simp only [h1, hr, STD]
  · simp only [h1, STD]
end Go.Eng
