import Derived.Test.YtcdlfamincogdaaDoorPGauge2
import Derived.Test.YtcdlfamincogdaaDoorPGaugeX
import Derived.Test.YtcdlfamincogdaaDoorPSlices
namespace Go.Eng
def elRow (g : R) (i : Nat) : List U := [.i (cI g i 0), .i (cI g i 1), .b (cB g i 2), .i (cI g i 3), .i (cI g i 4)]
def toRow (g : R) (i : Nat) : List U := [.i (cI g i 0), .i (cI g i 1), .b (cB g i 2), .i (cI g i 3)]
theorem p_law47_elements (g : R) (h : g.length ≤ 40) : (law47_elements_T [.r g]).run = some (0, [.r (mapR (elRow g) g.length)]) := by
  rw [law47_elements_eq]
  have k : (loopT law47_elements_L4S [.r g, .i (rlen g), .i 0, .r []]).run = some (0, [.r (mapR (elRow g) g.length)]) := by
    refine loop_count (S := law47_elements_L4S) (fun i => [.r g, .i (rlen g), .i (i : Int), .r (mapR (elRow g) i)]) (0, _) g.length (by omega) (fun i hi => ?_) ?_
    · rw [law47_elements_L4eq]
      simp only [STD, idx_lt hi, idx_nn, and_self, wsucc hi (by omega), mapR_room hi (show g.length ≤ 34359738368 by omega)]
      rw [← mapR_succ]; rfl
    · rw [law47_elements_L4eq]; simp only [STD, idx_end]
  simp only [STD, k]
theorem p_law47_tools (g : R) (h : g.length ≤ 40) : (law47_tools_T [.r g]).run = some (0, [.r (mapR (toRow g) g.length)]) := by
  rw [law47_tools_eq]
  have k : (loopT law47_tools_L4S [.r g, .i (rlen g), .i 0, .r []]).run = some (0, [.r (mapR (toRow g) g.length)]) := by
    refine loop_count (S := law47_tools_L4S) (fun i => [.r g, .i (rlen g), .i (i : Int), .r (mapR (toRow g) i)]) (0, _) g.length (by omega) (fun i hi => ?_) ?_
    · rw [law47_tools_L4eq]
      simp only [STD, idx_lt hi, idx_nn, and_self, wsucc hi (by omega), mapR_room hi (show g.length ≤ 34359738368 by omega)]
      rw [← mapR_succ]; rfl
    · rw [law47_tools_L4eq]; simp only [STD, idx_end]
  simp only [STD, k]
theorem elRow_I (g : R) {i : Nat} (h : i < g.length) : cI (mapR (elRow g) g.length) i 0 = cI g i 0 ∧ cI (mapR (elRow g) g.length) i 1 = cI g i 1 ∧ cB (mapR (elRow g) g.length) i 2 = cB g i 2 ∧ cI (mapR (elRow g) g.length) i 3 = cI g i 3 ∧ cI (mapR (elRow g) g.length) i 4 = cI g i 4 := by
  refine ⟨?_, ?_, ?_, ?_, ?_⟩
  · rw [cI_mapR _ h]; rfl
  · rw [cI_mapR _ h]; rfl
  · rw [cB_mapR _ h]; rfl
  · rw [cI_mapR _ h]; rfl
  · rw [cI_mapR _ h]; rfl
theorem toRow_I (g : R) {i : Nat} (h : i < g.length) : cI (mapR (toRow g) g.length) i 0 = cI g i 0 ∧ cI (mapR (toRow g) g.length) i 1 = cI g i 1 ∧ cB (mapR (toRow g) g.length) i 2 = cB g i 2 ∧ cI (mapR (toRow g) g.length) i 3 = cI g i 3 := by
  refine ⟨?_, ?_, ?_, ?_⟩
  · rw [cI_mapR _ h]; rfl
  · rw [cI_mapR _ h]; rfl
  · rw [cB_mapR _ h]; rfl
  · rw [cI_mapR _ h]; rfl
theorem lossE_el (l g : R) {i : Nat} (h : i < g.length) : lossE l (mapR (elRow g) g.length) i = lossE l g i := by
  obtain ⟨h0, h1, h2, h3, h4⟩ := elRow_I g h
  have hs : sameAt l (mapR (elRow g) g.length) i = sameAt l g i := by unfold sameAt; rw [h0, h1, h2]
  unfold lossE; simp only [hs, h3, h4]
theorem negE_el (l g : R) {i : Nat} (h : i < g.length) : negE l (mapR (elRow g) g.length) i = negE l g i := by
  obtain ⟨h0, h1, h2, h3, h4⟩ := elRow_I g h
  unfold negE lossLo; rw [h2, h3, h4]
theorem lossHi_el (l g : R) {i : Nat} (h : i < g.length) : lossHi l (mapR (elRow g) g.length) i = lossHi l g i := by
  obtain ⟨h0, h1, h2, h3, h4⟩ := elRow_I g h
  unfold lossHi; rw [h2, h3, h4]
theorem safeC_el (l g : R) : safeC l (mapR (elRow g) g.length) = safeC l g := by
  unfold safeC
  rw [mapR_len, rlen_mapR, firstE_congr fun i hi => lossE_el l g hi, firstE_congr fun i hi => negE_el l g hi]; rfl
theorem maxF_congr {f g : Nat → Int} : ∀ {n : Nat}, (∀ i, i < n → f i = g i) → maxF f n = maxF g n
  | 0, _ => rfl
  | n + 1, h => by simp only [maxF]; rw [h n (by omega), maxF_congr fun i hi => h i (by omega)]
/-! ### Made -/
def madeRow (g : R) (high : Bool) (i : Nat) : List U := [.i (cI g i 0), .i (cI g i 1), .b (cB g i 2), .i (if high = true then cI g i 4 else cI g i 3)]
def limE (g : R) (i : Nat) : Int := limC (cI g i 3) (cI g i 4)
def madeC (g : R) : Int := if 16 < rlen g then 5 else firstE (limE g) g.length
def madeL (g : R) (high : Bool) : R := if madeC g = 0 then mapR (madeRow g high) g.length else []
theorem p_gauge_Made (g : R) (high : Bool) : (gauge_Made_T [.r g, .b high]).run = some (0, [.i (madeC g), .r (madeL g high)]) := by
  rw [gauge_Made_eq]
  unfold madeL madeC
  by_cases h16 : 16 < rlen g
  · simp [h16, STD, p_gauge_few]
  · have hl : g.length ≤ 16 := by unfold rlen at h16; omega
    have k := loop_err (S := gauge_mapped_gauge_Element_gauge_Tool_L4S) (fun i => [.r g, .i (rlen g), .i (i : Int), .b high, .r (mapR (madeRow g high) i)]) (limE g) [.b high] [.b high, .r (mapR (madeRow g high) g.length)] g.length (by omega) (fun i hi => by
      rw [gauge_mapped_gauge_Element_gauge_Tool_L4eq]
      simp only [STD, idx_lt hi, idx_nn, and_self, gauge_Made_1_eq, p_gauge_limits]
      unfold limE
      by_cases he : limC (cI g i 3) (cI g i 4) = 0
      · cases high <;> simp only [he, STD, Bool.false_eq_true, wsucc hi (show g.length < 9223372036854775808 by omega), mapR_room hi (show g.length ≤ 34359738368 by omega)] <;> (rw [← mapR_succ]; rfl)
      · simp [he, STD]) (by
      rw [gauge_mapped_gauge_Element_gauge_Tool_L4eq]
      simp only [STD, idx_end])
    by_cases hf : firstE (limE g) g.length = 0
    · rw [if_pos hf] at k
      have k' : (loopT gauge_mapped_gauge_Element_gauge_Tool_L4S [.r g, .i (rlen g), .i 0, .b high, .r []]).run = _ := k
      have e : (gauge_mapped_gauge_Element_gauge_Tool_T [.r g, .b high]).run = some (0, [.i 0, .b high, .r (mapR (madeRow g high) g.length)]) := by
        rw [gauge_mapped_gauge_Element_gauge_Tool_eq]; simp only [STD, k', jIs_of k']
      simp only [h16, STD, p_gauge_few, e, hf]
    · rw [if_neg hf] at k
      have k' : (loopT gauge_mapped_gauge_Element_gauge_Tool_L4S [.r g, .i (rlen g), .i 0, .b high, .r []]).run = _ := k
      have e : (gauge_mapped_gauge_Element_gauge_Tool_T [.r g, .b high]).run = some (0, [.i (firstE (limE g) g.length), .b high, .r []]) := by
        rw [gauge_mapped_gauge_Element_gauge_Tool_eq]; simp only [STD, k', jIs_of k', show ¬ ((1 : Nat) = 0) by decide]
      simp only [h16, STD, p_gauge_few, e, hf]
theorem p_ref47_Made (g : R) (high : Bool) : (ref47_Made_T [.r g, .b high]).run = some (0, if madeC g = 0 then [.r (mapR (madeRow g high) g.length), .i 0] else [.r [], .i (madeC g)]) := by
  rw [ref47_Made_eq]
  unfold madeC
  by_cases h16 : 16 < rlen g
  · simp [h16, STD]
  · have hl : g.length ≤ 16 := by unfold rlen at h16; omega
    have k := loop_err (S := ref47_Made_L7S) (fun i => [.r g, .b high, .i (i : Int), .r (mapR (madeRow g high) i)]) (limE g) [] [.r (mapR (madeRow g high) g.length)] g.length (by omega) (fun i hi => by
      rw [ref47_Made_L7eq]
      simp only [STD, idx_lt hi, idx_nn, and_self, p_ref47_limits]
      unfold limE
      by_cases he : limC (cI g i 3) (cI g i 4) = 0
      · cases high <;> simp only [he, STD, Bool.false_eq_true, wsucc hi (show g.length < 9223372036854775808 by omega), mapR_room hi (show g.length ≤ 34359738368 by omega)] <;> (rw [← mapR_succ]; rfl)
      · simp [he, STD]) (by
      rw [ref47_Made_L7eq]
      simp only [STD, idx_end])
    by_cases hf : firstE (limE g) g.length = 0
    · rw [if_pos hf] at k
      have k' : (loopT ref47_Made_L7S [.r g, .b high, .i 0, .r []]).run = _ := k
      simp only [h16, STD, k', jIs_of k', hf]
    · rw [if_neg hf] at k
      have k' : (loopT ref47_Made_L7S [.r g, .b high, .i 0, .r []]).run = _ := k
      simp only [h16, STD, k', jIs_of k', hf, show ¬ ((1 : Nat) = 0) by decide]
theorem madeC_el (g : R) : madeC (mapR (elRow g) g.length) = madeC g := by
  unfold madeC
  rw [mapR_len, rlen_mapR, firstE_congr (f := limE g) fun i hi => by
    obtain ⟨_, _, _, h3, h4⟩ := elRow_I g hi
    unfold limE; rw [h3, h4]]; rfl
theorem madeRow_el (g : R) (high : Bool) {i : Nat} (h : i < g.length) : madeRow (mapR (elRow g) g.length) high i = madeRow g high i := by
  obtain ⟨h0, h1, h2, h3, h4⟩ := elRow_I g h
  unfold madeRow; rw [h0, h1, h2, h3, h4]
theorem p_ref47_SameTools (a b : R) (h : a.length = b.length) (hl : a.length ≤ 40) (he : ∀ i, i < a.length → cI a i 0 = cI b i 0 ∧ cI a i 1 = cI b i 1 ∧ cB a i 2 = cB b i 2 ∧ cI a i 3 = cI b i 3) : (ref47_SameTools_T [.r a, .r b]).run = some (0, [.b true]) := by
  rw [ref47_SameTools_eq]
  have k : (loopT ref47_SameTools_L6S [.r a, .r b, .i 0]).run = some (0, []) := by
    refine loop_count (S := ref47_SameTools_L6S) (fun i => [.r a, .r b, .i (i : Int)]) (0, _) a.length (by omega) (fun i hi => ?_) ?_
    · rw [ref47_SameTools_L6eq]
      obtain ⟨h0, h1, h2, h3⟩ := he i hi
      simp only [STD, idx_lt hi, idx_lt (show i < b.length by omega), idx_nn, and_self, h0, h1, h2, h3, wsucc hi (show a.length < 9223372036854775808 by omega)]
    · rw [ref47_SameTools_L6eq]; simp only [STD, idx_end]
  have hr : rlen a = rlen b := by unfold rlen; omega
  simp only [STD, hr, k, jIs_of k]
theorem p_ref47_SameElements (a b : R) (h : a.length = b.length) (hl : a.length ≤ 40) (he : ∀ i, i < a.length → cI a i 0 = cI b i 0 ∧ cI a i 1 = cI b i 1 ∧ cB a i 2 = cB b i 2 ∧ cI a i 3 = cI b i 3 ∧ cI a i 4 = cI b i 4) : (ref47_SameElements_T [.r a, .r b]).run = some (0, [.b true]) := by
  rw [ref47_SameElements_eq]
  have k : (loopT ref47_SameElements_L6S [.r a, .r b, .i 0]).run = some (0, []) := by
    refine loop_count (S := ref47_SameElements_L6S) (fun i => [.r a, .r b, .i (i : Int)]) (0, _) a.length (by omega) (fun i hi => ?_) ?_
    · rw [ref47_SameElements_L6eq]
      obtain ⟨h0, h1, h2, h3, h4⟩ := he i hi
      simp only [STD, idx_lt hi, idx_lt (show i < b.length by omega), idx_nn, and_self, h0, h1, h2, h3, h4, wsucc hi (show a.length < 9223372036854775808 by omega)]
    · rw [ref47_SameElements_L6eq]; simp only [STD, idx_end]
  have hr : rlen a = rlen b := by unfold rlen; omega
  simp only [STD, hr, k, jIs_of k]
/-! ### The laws -/
theorem plainGaugeGuards (x0 : R) (x1 : R) (lex0 : UFit (.sl [(.int .i64), (.int .i64), (.int .i64), (.int .i64), (.int .i64), (.int .i64), .bool]) (.l x0)) (lex1 : UFit (.sl [(.int .i64), (.int .i64), .bool, (.int .i64), (.int .i64)]) (.l x1)) : (law47_GaugeGuards_T [.r x0, .r x1]).run = some (0, [.b true]) := by
  rw [law47_GaugeGuards_eq]
  simp only [STD, law47_few_eq, p_law47_awake]
  by_cases h1 : rlen x0 ≤ 32
  · by_cases h2 : 40 < rlen x1
    · simp only [h1, h2, STD]
    · have hl : x1.length ≤ 40 := by unfold rlen at h2; omega
      simp only [h1, h2, STD, p_gauge_Safe, p_law47_elements x1 hl, p_ref47_Safe, safeC_el]
  · simp only [h1, STD]
theorem plainGaugeLoses (x0 : R) (x1 : R) (x2 : Bool) (lex0 : UFit (.sl [(.int .i64), (.int .i64), (.int .i64), (.int .i64), (.int .i64), (.int .i64), .bool]) (.l x0)) (lex1 : UFit (.sl [(.int .i64), (.int .i64), .bool, (.int .i64), (.int .i64)]) (.l x1)) : (law47_GaugeLoses_T [.r x0, .r x1, .b x2]).run = some (0, [.b true]) := by
  rw [law47_GaugeLoses_eq]
  simp only [STD, law47_few_eq, p_law47_awake]
  by_cases h1 : rlen x0 ≤ 32
  · by_cases h2 : 40 < rlen x1
    · simp only [h1, h2, STD]
    · have hl : x1.length ≤ 40 := by unfold rlen at h2; omega
      have hm : maxF (lossHi x0 (mapR (elRow x1) x1.length)) (mapR (elRow x1) x1.length).length = maxF (lossHi x0 x1) x1.length := by
        rw [mapR_len]; exact maxF_congr fun i hi => lossHi_el x0 x1 hi
      have hmr : mapR (madeRow (mapR (elRow x1) x1.length) x2) (mapR (elRow x1) x1.length).length = mapR (madeRow x1 x2) x1.length := by
        rw [mapR_len]; exact mapR_congr fun i hi => madeRow_el x1 x2 hi
      have hll : (madeL x1 x2).length ≤ 40 := by unfold madeL; split <;> simp [mapR_len]; exact hl
      have ht := p_law47_tools (madeL x1 x2) hll
      have hst : (ref47_SameTools_T [.r (mapR (toRow (madeL x1 x2)) (madeL x1 x2).length), .r (madeL x1 x2)]).run = some (0, [.b true]) := by
        refine p_ref47_SameTools _ _ (by simp [mapR_len]) (by simp [mapR_len]; exact hll) fun i hi => ?_
        rw [mapR_len] at hi
        exact toRow_I _ hi
      have hmd : (ref47_Made_T [.r (mapR (elRow x1) x1.length), .b x2]).run = some (0, [.r (madeL x1 x2), .i (madeC x1)]) := by
        rw [p_ref47_Made, madeC_el, hmr]
        unfold madeL
        by_cases hc : madeC x1 = 0 <;> simp [hc]
      simp only [h1, h2, STD, p_gauge_Loss, p_law47_elements x1 hl, p_ref47_Loss, safeC_el, hm, p_gauge_Made, hmd, ht, hst]
  · simp only [h1, STD]
end Go.Eng
